/-
 Parts of the proof, as merged from many texts: a machine over data, what the functions compute, plain laws.
-/
import Derived.Test.YtainalmfffjnjaaGreatDoorPTU7
import Derived.Shelf.Spec.SlicesGrow
import Derived.Deep.AppendLies
set_option linter.unusedSimpArgs false
set_option linter.unusedVariables false
namespace Go.AM
open Go Go.Proofs
abbrev At.row (a:At):List AV:=[Sb a.name,I a.lo,I a.hi,.d (strs a.names)]
theorem attr1_c (x y:At) (box:Bxs) (nb k:Nat) (tok:Tks) (nt:Nat) (h1:box k=some [x.row]) :
  ACalls Tryz.prog 261 [y.av,.ptr k 0 0] ⟨box,nb,tok,nt⟩ fun v m=>v=B (decide (y.name=x.name))∧m=⟨box,nb,tok,nt⟩:=by
 refine sI Tryz.func261 Tryz.ntmps261 fun hbox htok=>?_
 have k1n:=key_lt hbox h1;rw [←seq_dec];repeat (first|simp [lb_out k1n,h1]|refine sR ?_)
 refine sT (sH hbox htok ?_);simp [packA]
def rngA (x:At):Bool:=if x.names.length=0 then decide (-1000000≤x.lo∧x.lo≤x.hi∧x.hi≤1000000) else decide (x.lo=0∧x.hi=(x.names.length:Int) - 1)
def attE (x:At) (before:List At):Int:=if nameB x.name=false then 2 else if anyB (fun y=>decide (y.name=x.name)) before=true then 5 else if nmsE x.names≠0 then nmsE x.names else if rngA x=true then 0 else 6
structure At.Fit (a:At):Prop where
 n:a.name.size≤1000000000000
 l:NmFit a.names
theorem attribute_c (x:At) (before:List At) (hx:x.Fit) (hb:before.length≤1000000) (tok:Tks) (nt:Nat):DCall Tryz.prog 213 [x.av,.d (atts before)] tok nt (I (attE x before)) tok nt:=by
 intro box nb;have h1:=isName_c x.name (Nat.le_trans hx.n (by decide));have h3:=names_c x.names hx.l;cases e1:nameB x.name
 ·rw [e1] at h1;rw [show attE x before=2 by rw [attE,if_pos e1]];refine sI Tryz.func213 Tryz.ntmps213 fun hbox htok=>?_
  repeat (first|simp|refine sR ?_)
  refine Stop.of_d (h1 _ _) ?_;repeat (first|simp|refine sR ?_)
  refine sC ?_;repeat (first|simp|refine sR ?_)
  refine sT (sH hbox htok ?_);simp [packA]
 ·rw [e1] at h1;have hA:attE x before=if anyB (fun y=>decide (y.name=x.name)) before=true then 5 else if nmsE x.names≠0 then nmsE x.names else if rngA x=true then 0 else 6:=by rw [attE,if_neg (by simp [e1])]
  obtain ⟨N,hN⟩:∃ N,attE x before=N:=⟨_,rfl⟩
  rw [hN] at hA ⊢;obtain ⟨p,hp⟩:∃ p:At→Bool,(fun y=>decide (y.name=x.name))=p:=⟨_,rfl⟩
  have h2:=fun y box nb k h=>attr1_c x y box nb k tok nt h
  have hpp:∀ y:At,decide (y.name=x.name)=p y:=fun y=>by rw [←hp]
  simp only [hpp] at h2;rw [hp] at hA;have hcap:∀ c∈[AV.ptr (nb+2) 0 0],OkIn (fun k=>(lb nb box [(2,[x.row])]) k≠none) (fun _=>True) c:=by
   intro c hc;rw [List.mem_singleton.1 hc];simp [lb_at]
  refine sI Tryz.func213 Tryz.ntmps213 fun hbox htok=>?_
  repeat (first|simp|refine sR ?_)
  refine Stop.of_d (h1 _ _) ?_;repeat (first|simp|refine sR ?_)
  refine sC ?_;repeat (first|simp|refine sR ?_)
  refine Stop.of_b (containsFuncA_c before 261 [.ptr (nb+2) 0 0] p hb _ _ _ _ hcap (fun y hy box' nb' he=>h2 y box' nb' _ (he _ _ (by simp [lb_at])))) ?_;repeat (first|simp|refine sR ?_)
  cases e2:anyB p before
  ·rw [e2,if_neg (by simp)] at hA;refine sC ?_;repeat (first|simp|refine sR ?_)
   refine Stop.of_d (h3 _ _) ?_;repeat (first|simp|refine sR ?_)
   by_cases e3:nmsE x.names=0
   ·rw [if_neg (by simp [e3])] at hA;simp only [e3];refine sC ?_;simp;by_cases c1 : -1000000≤x.lo
    ·by_cases c2:x.lo≤x.hi
     ·by_cases c3:x.hi≤1000000
      ·repeat (first|simp [c1,c2,c3]|refine sR ?_)
       by_cases z:x.names.length=0
       ·have z2:¬ 0<x.names.length:=by omega
        have hr:rngA x=true:=by rw [rngA,if_pos z]; simp only [decide_eq_true_eq,decide_eq_false_iff_not]; omega
        rw [hr] at hA;refine sC ?_;simp [z2];repeat (first|simp|refine sR ?_)
        refine sC ?_;repeat (first|simp|refine sR ?_)
        refine sT (sH hbox htok ?_);simp [packA,hA]
       ·have z2:0<x.names.length:=by omega
        have hr:rngA x=decide (x.lo=0∧x.hi=(x.names.length:Int) - 1):=if_neg z
        rw [hr] at hA;have hln:=hx.l.n;have w:IntKind.i64.wrap ((x.names.length:Int) - 1)=(x.names.length:Int) - 1:=wrap_in (by omega) (by omega)
        by_cases l0:x.lo=0
        ·have b0:(x.lo==0)=true:=by simp [l0]
         by_cases h0:x.hi=(x.names.length:Int) - 1
         ·have b1:(x.hi==(x.names.length:Int) - 1)=true:=by simp [h0]
          refine sC ?_;simp [z2];repeat (first|simp [w,b0,b1]|refine sR ?_)
          refine sC ?_;repeat (first|simp|refine sR ?_)
          refine sT (sH hbox htok ?_);simp [packA,hA,l0,h0]
         ·have b1:(x.hi==(x.names.length:Int) - 1)=false:=by simp [h0]
          refine sC ?_;simp [z2];repeat (first|simp [w,b0,b1]|refine sR ?_)
          refine sC ?_;repeat (first|simp|refine sR ?_)
          refine sT (sH hbox htok ?_);simp [packA,hA,l0,h0]
        ·have b0:(x.lo==0)=false:=by simp [l0]
         refine sC ?_;simp [z2];repeat (first|simp [w,b0]|refine sR ?_)
         refine sC ?_;repeat (first|simp|refine sR ?_)
         refine sT (sH hbox htok ?_);simp [packA,hA,l0]
      ·repeat (first|simp [c1,c2,c3]|refine sR ?_)
       by_cases z:x.names.length=0
       ·have z2:¬ 0<x.names.length:=by omega
        have hr:rngA x=false:=by rw [rngA,if_pos z]; simp only [decide_eq_true_eq,decide_eq_false_iff_not]; omega
        rw [hr] at hA;refine sC ?_;simp [z2];repeat (first|simp|refine sR ?_)
        refine sC ?_;repeat (first|simp|refine sR ?_)
        refine sT (sH hbox htok ?_);simp [packA,hA]
       ·have z2:0<x.names.length:=by omega
        have hr:rngA x=decide (x.lo=0∧x.hi=(x.names.length:Int) - 1):=if_neg z
        rw [hr] at hA;have hln:=hx.l.n;have w:IntKind.i64.wrap ((x.names.length:Int) - 1)=(x.names.length:Int) - 1:=wrap_in (by omega) (by omega)
        by_cases l0:x.lo=0
        ·have b0:(x.lo==0)=true:=by simp [l0]
         by_cases h0:x.hi=(x.names.length:Int) - 1
         ·have b1:(x.hi==(x.names.length:Int) - 1)=true:=by simp [h0]
          refine sC ?_;simp [z2];repeat (first|simp [w,b0,b1]|refine sR ?_)
          refine sC ?_;repeat (first|simp|refine sR ?_)
          refine sT (sH hbox htok ?_);simp [packA,hA,l0,h0]
         ·have b1:(x.hi==(x.names.length:Int) - 1)=false:=by simp [h0]
          refine sC ?_;simp [z2];repeat (first|simp [w,b0,b1]|refine sR ?_)
          refine sC ?_;repeat (first|simp|refine sR ?_)
          refine sT (sH hbox htok ?_);simp [packA,hA,l0,h0]
        ·have b0:(x.lo==0)=false:=by simp [l0]
         refine sC ?_;simp [z2];repeat (first|simp [w,b0]|refine sR ?_)
         refine sC ?_;repeat (first|simp|refine sR ?_)
         refine sT (sH hbox htok ?_);simp [packA,hA,l0]
     ·repeat (first|simp [c1,c2]|refine sR ?_)
      by_cases z:x.names.length=0
      ·have z2:¬ 0<x.names.length:=by omega
       have hr:rngA x=false:=by rw [rngA,if_pos z]; simp only [decide_eq_true_eq,decide_eq_false_iff_not]; omega
       rw [hr] at hA;refine sC ?_;simp [z2];repeat (first|simp|refine sR ?_)
       refine sC ?_;repeat (first|simp|refine sR ?_)
       refine sT (sH hbox htok ?_);simp [packA,hA]
      ·have z2:0<x.names.length:=by omega
       have hr:rngA x=decide (x.lo=0∧x.hi=(x.names.length:Int) - 1):=if_neg z
       rw [hr] at hA;have hln:=hx.l.n;have w:IntKind.i64.wrap ((x.names.length:Int) - 1)=(x.names.length:Int) - 1:=wrap_in (by omega) (by omega)
       by_cases l0:x.lo=0
       ·have b0:(x.lo==0)=true:=by simp [l0]
        by_cases h0:x.hi=(x.names.length:Int) - 1
        ·have b1:(x.hi==(x.names.length:Int) - 1)=true:=by simp [h0]
         refine sC ?_;simp [z2];repeat (first|simp [w,b0,b1]|refine sR ?_)
         refine sC ?_;repeat (first|simp|refine sR ?_)
         refine sT (sH hbox htok ?_);simp [packA,hA,l0,h0]
        ·have b1:(x.hi==(x.names.length:Int) - 1)=false:=by simp [h0]
         refine sC ?_;simp [z2];repeat (first|simp [w,b0,b1]|refine sR ?_)
         refine sC ?_;repeat (first|simp|refine sR ?_)
         refine sT (sH hbox htok ?_);simp [packA,hA,l0,h0]
       ·have b0:(x.lo==0)=false:=by simp [l0]
        refine sC ?_;simp [z2];repeat (first|simp [w,b0]|refine sR ?_)
        refine sC ?_;repeat (first|simp|refine sR ?_)
        refine sT (sH hbox htok ?_);simp [packA,hA,l0]
    ·repeat (first|simp [c1]|refine sR ?_)
     by_cases z:x.names.length=0
     ·have z2:¬ 0<x.names.length:=by omega
      have hr:rngA x=false:=by rw [rngA,if_pos z]; simp only [decide_eq_true_eq,decide_eq_false_iff_not]; omega
      rw [hr] at hA;refine sC ?_;simp [z2];repeat (first|simp|refine sR ?_)
      refine sC ?_;repeat (first|simp|refine sR ?_)
      refine sT (sH hbox htok ?_);simp [packA,hA]
     ·have z2:0<x.names.length:=by omega
      have hr:rngA x=decide (x.lo=0∧x.hi=(x.names.length:Int) - 1):=if_neg z
      rw [hr] at hA;have hln:=hx.l.n;have w:IntKind.i64.wrap ((x.names.length:Int) - 1)=(x.names.length:Int) - 1:=wrap_in (by omega) (by omega)
      by_cases l0:x.lo=0
      ·have b0:(x.lo==0)=true:=by simp [l0]
       by_cases h0:x.hi=(x.names.length:Int) - 1
       ·have b1:(x.hi==(x.names.length:Int) - 1)=true:=by simp [h0]
        refine sC ?_;simp [z2];repeat (first|simp [w,b0,b1]|refine sR ?_)
        refine sC ?_;repeat (first|simp|refine sR ?_)
        refine sT (sH hbox htok ?_);simp [packA,hA,l0,h0]
       ·have b1:(x.hi==(x.names.length:Int) - 1)=false:=by simp [h0]
        refine sC ?_;simp [z2];repeat (first|simp [w,b0,b1]|refine sR ?_)
        refine sC ?_;repeat (first|simp|refine sR ?_)
        refine sT (sH hbox htok ?_);simp [packA,hA,l0,h0]
      ·have b0:(x.lo==0)=false:=by simp [l0]
       refine sC ?_;simp [z2];repeat (first|simp [w,b0]|refine sR ?_)
       refine sC ?_;repeat (first|simp|refine sR ?_)
       refine sT (sH hbox htok ?_);simp [packA,hA,l0]
   ·rw [if_pos e3] at hA;have b3:(nmsE x.names != 0)=true:=by simp [e3]
    simp only [b3];refine sC ?_;repeat (first|simp|refine sR ?_)
    refine sT (sH hbox htok ?_);simp [packA,hA]
  ·rw [e2,if_pos rfl] at hA;refine sC ?_;repeat (first|simp|refine sR ?_)
   refine sT (sH hbox htok ?_);simp [packA,hA]
instance:Inhabited NT:=⟨⟨eB,0,false,[]⟩⟩
def Ty.nd (t:Ty) (i:Nat):NT:=t.nodes.getD i default
def atsL (t:Ty) (i:Nat):List At:=if h:0≤(t.nd i).par∧(t.nd i).par.toNat<i then atsL t (t.nd i).par.toNat++(t.nd i).own else (t.nd i).own
termination_by i
decreasing_by exact h.2
theorem atsL_up {t:Ty} {i:Nat} (h:0≤(t.nd i).par) (h2:(t.nd i).par.toNat<i):atsL t i=atsL t (t.nd i).par.toNat++(t.nd i).own:=by rw [atsL,dif_pos ⟨h,h2⟩]
theorem atsL_top {t:Ty} {i:Nat} (h:¬ 0≤(t.nd i).par):atsL t i=(t.nd i).own:=by rw [atsL,dif_neg fun h2=>h h2.1]
theorem atsL_len {t:Ty} {M:Nat} (hM:∀ i,(t.nd i).own.length≤M):∀ n i,i<n→(atsL t i).length≤(i+1) * M
 | 0,i,hi=>absurd hi (Nat.not_lt_zero _)
 | n+1,i,hi=>by
  have hm:=hM i;by_cases h:0≤(t.nd i).par∧(t.nd i).par.toNat<i
  ·have ih:=atsL_len hM n (t.nd i).par.toNat (by omega);rw [atsL_up h.1 h.2,List.length_append];have:((t.nd i).par.toNat+1) * M≤i * M:=Nat.mul_le_mul_right _ (by omega)
   rw [Nat.add_mul,Nat.one_mul];omega
  ·rw [atsL,dif_neg h];have:M≤(i+1) * M:=Nat.le_mul_of_pos_left _ (by omega)
   omega
structure Ty.Fit (t:Ty):Prop where
 n:t.nodes.length≤1000
 e:t.edges.length≤1000
 nn:∀ x∈t.nodes,x.name.size≤1000000000000
 en:∀ x∈t.edges,x.name.size≤1000000000000
 a:∀ x∈t.nodes,x.own.length≤1000∧∀ y∈x.own,y.Fit
theorem nd_at {t:Ty} {i:Nat} (h:i<t.nodes.length):t.nd i=t.nodes[i]:=by simp [Ty.nd,h]
theorem attrs_c (t:Ty) (ht:t.Fit) (hM:∀ i,(t.nd i).own.length≤1000):∀ (n i:Nat),i<n→i<t.nodes.length→(∀ j,j≤i→(t.nd j).par<j)→∀ (tok:Tks) (nt:Nat),∃ tok' nt' o,((∀ q,tok q=true→q<nt)→TK tok nt tok' nt' [o]) ∧
  DCall Tryz.prog 212 [t.av,I i] tok nt (.osl 4 ((atsL t i).map At.cells) o) tok' nt'
 | 0,i,hi,_,_,_,_=>absurd hi (Nat.not_lt_zero _)
 | n+1,i,hi,hlt,hp,tok,nt=>by
  have hnd:=nd_at hlt;by_cases h0:0≤(t.nd i).par
  ·have hpi:=hp i (Nat.le_refl _);obtain ⟨tok1,nt1,o1,hk,hc⟩:=attrs_c t ht hM n (t.nd i).par.toNat (by omega) (by omega) (fun j hj=>hp j (by omega)) tok nt;have hL:=atsL_up h0 (by omega);have hl1:=atsL_len hM (i+1) (t.nd i).par.toNat (by omega);have hl2:=hM i;have hb:((t.nd i).par.toNat+1) * 1000≤1000 * 1000:=Nat.mul_le_mul_right _ (by have:=ht.n; omega)
   refine ⟨_,_,.tok nt1,fun h=>(hk h).app,?_⟩;rw [hL];rw [Int.toNat_of_nonneg h0] at hc;generalize atsL t (t.nd i).par.toNat=Q at *;rw [hnd] at h0 hc hl2 ⊢;intro box nb;have hc:=hc;refine sI Tryz.func212 Tryz.ntmps212 fun hbox htok=>?_
   have hkk:=hk htok;repeat (first|simp [hlt]|refine sR ?_)
   refine sC ?_;simp [h0];repeat (first|simp|refine sR ?_)
   refine Stop.of_d (hc) ?_;simp;repeat (first|simp [hlt]|refine sR ?_)
   refine ⟨⟨by omega,hkk.live⟩,?_⟩;refine sN ?_;refine AL.ret ?_;try simp only [AU]
   refine ⟨by simp,Fin.own (by simp [resAs,resA]; rfl) hbox rfl hkk.app.le ?_⟩;simp [packA]
  ·have hL:=atsL_top h0;have hl2:=hM i;refine ⟨_,_,.tok nt,fun h=>(TK.start h).full.app,?_⟩;rw [hL];rw [hnd] at h0 hl2 ⊢;intro box nb;refine sI Tryz.func212 Tryz.ntmps212 fun hbox htok=>?_
   have hkk:=(TK.start htok).full;repeat (first|simp [hlt]|refine sR ?_)
   refine sC ?_;simp [h0];repeat (first|simp [hlt]|refine sR ?_)
   refine ⟨by omega,?_⟩;refine sN ?_;refine AL.ret ?_;try simp only [AU]
   refine ⟨by simp,Fin.own (by simp [resAs,resA]; rfl) hbox rfl (by simp) ?_⟩;simp [packA]
def bndB (lo hi:Int):Bool:=decide (0≤lo∧lo≤40)&&(hi == -1||decide (lo≤hi∧hi≤40))
theorem bounded_c (lo hi:Int) (tok:Tks) (nt:Nat):DCall Tryz.prog 217 [I lo,I hi] tok nt (B (bndB lo hi)) tok nt:=by
 intro box nb;by_cases h1:0≤lo
 ·by_cases h2:lo≤40
  ·cases h3:(hi == -1)
   ·by_cases h4:lo≤hi
    ·by_cases h5:hi≤40
     ·refine sI Tryz.func217 Tryz.ntmps217 fun hbox htok=>?_
      repeat (first|simp [h1,h2,h3,h4,h5]|refine sR ?_)
      refine sT (sH hbox htok ?_);simp [packA,bndB,h1,h2,h3,h4,h5]
     ·refine sI Tryz.func217 Tryz.ntmps217 fun hbox htok=>?_
      repeat (first|simp [h1,h2,h3,h4,h5]|refine sR ?_)
      refine sT (sH hbox htok ?_);simp [packA,bndB,h1,h2,h3,h4,h5]
    ·refine sI Tryz.func217 Tryz.ntmps217 fun hbox htok=>?_
     repeat (first|simp [h1,h2,h3,h4]|refine sR ?_)
     refine sT (sH hbox htok ?_);simp [packA,bndB,h1,h2,h3,h4]
   ·refine sI Tryz.func217 Tryz.ntmps217 fun hbox htok=>?_
    repeat (first|simp [h1,h2,h3]|refine sR ?_)
    refine sT (sH hbox htok ?_);simp [packA,bndB,h1,h2,h3]
  ·refine sI Tryz.func217 Tryz.ntmps217 fun hbox htok=>?_
   repeat (first|simp [h1,h2]|refine sR ?_)
   refine sT (sH hbox htok ?_);simp [packA,bndB,h1,h2]
 ·refine sI Tryz.func217 Tryz.ntmps217 fun hbox htok=>?_
  repeat (first|simp [h1]|refine sR ?_)
  refine sT (sH hbox htok ?_);simp [packA,bndB,h1]
abbrev NT.row (n:NT):List AV:=[Sb n.name,I n.par,B n.abs,.d (atts n.own)]
abbrev ET.row (e:ET):List AV:=[Sb e.name,I e.fr,I e.to,I e.ol,I e.oh,I e.il,I e.ih]
theorem node1_c (x y:NT) (box:Bxs) (nb k:Nat) (tok:Tks) (nt:Nat) (h1:box k=some [x.row]) :
  ACalls Tryz.prog 211 [y.av,.ptr k 0 0] ⟨box,nb,tok,nt⟩ fun v m=>v=B (decide (y.name=x.name))∧m=⟨box,nb,tok,nt⟩:=by
 refine sI Tryz.func211 Tryz.ntmps211 fun hbox htok=>?_
 have k1n:=key_lt hbox h1;rw [←seq_dec];repeat (first|simp [lb_out k1n,h1]|refine sR ?_)
 refine sT (sH hbox htok ?_);simp [packA]
theorem edge2_c (x y:ET) (box:Bxs) (nb k:Nat) (tok:Tks) (nt:Nat) (h1:box k=some [x.row]) :
  ACalls Tryz.prog 216 [y.av,.ptr k 0 0] ⟨box,nb,tok,nt⟩ fun v m=>v=B (decide (y.name=x.name))∧m=⟨box,nb,tok,nt⟩:=by
 refine sI Tryz.func216 Tryz.ntmps216 fun hbox htok=>?_
 have k1n:=key_lt hbox h1;rw [←seq_dec];repeat (first|simp [lb_out k1n,h1]|refine sR ?_)
 refine sT (sH hbox htok ?_);simp [packA]
def insB (t:Ty) (n:Int):Bool:=decide (0≤n∧n<t.nodes.length)
theorem edge1_c (t:Ty) (n:Int) (box:Bxs) (nb k:Nat) (tok:Tks) (nt:Nat) (h1:box k=some [[.d (nts t.nodes),.d (ets t.edges)]]) :
  ACalls Tryz.prog 214 [I n,.ptr k 0 0] ⟨box,nb,tok,nt⟩ fun v m=>v=B (insB t n)∧m=⟨box,nb,tok,nt⟩:=by
 by_cases h0:0≤n
 ·refine sI Tryz.func214 Tryz.ntmps214 fun hbox htok=>?_
  have k1n:=key_lt hbox h1;repeat (first|simp [lb_out k1n,h1,h0]|refine sR ?_)
  refine sT (sH hbox htok ?_);simp [packA,insB,h0]
 ·refine sI Tryz.func214 Tryz.ntmps214 fun hbox htok=>?_
  have k1n:=key_lt hbox h1;repeat (first|simp [lb_out k1n,h1,h0]|refine sR ?_)
  refine sT (sH hbox htok ?_);simp [packA,insB,h0]
def atAt (L:List At) (k:Nat):Int:=attE (L.getD k ⟨eB,0,0,[]⟩) (L.take k)
def ownAt (L:List At) (M k:Nat):Int:=if k+M<L.length then 0 else atAt L k
def ownE (L:List At) (M:Nat):Int:=firstE (ownAt L M) L.length
theorem ownAt_zero (L:List At) (M:Nat):∀ k,k+M≤L.length→firstE (ownAt L M) k=0
 | 0,_=>rfl
 | k+1,h=>by
  simp only [firstE,ownAt_zero L M k (by omega), ↓reduceIte,ownAt];rw [if_pos (by omega)]
theorem atsL_own {t:Ty} {i:Nat}:(t.nd i).own.length≤(atsL t i).length:=by
 rw [atsL];split
 ·rw [List.length_append]; omega
 ·exact Nat.le_refl _
theorem atsL_fit {t:Ty} (ht:t.Fit):∀ n i,i<n→∀ x∈atsL t i,x.Fit
 | 0,i,hi=>absurd hi (Nat.not_lt_zero _)
 | n+1,i,hi=>by
  have hown:∀ x∈(t.nd i).own,x.Fit:=by
   by_cases h:i<t.nodes.length
   ·rw [nd_at h]; exact (ht.a _ (List.getElem_mem h)).2
   ·intro x hx;simp only [Ty.nd,List.getD_eq_getElem?_getD,List.getElem?_eq_none (Nat.le_of_not_lt h),Option.getD_none] at hx;cases hx
  rw [atsL];split
  ·rename_i h;intro x hx;rcases List.mem_append.1 hx with hx|hx
   ·exact atsL_fit ht n _ (by omega) x hx
   ·exact hown x hx
  ·exact hown
theorem at_getD {L:List At} {k:Nat} (h:k<L.length):atAt L k=attE L[k] (L.take k):=by simp [atAt,h]
theorem atts_take (L:List At) (k:Nat):atts (L.take k)=.sl 4 (List.take k (L.map At.cells)):=by rw [atts,List.map_take]
theorem atts_at {L:List At} {k:Nat} (h:k<L.length):(L.map At.cells)[k]?=some L[k].cells:=by simp [h]
def nodE (t:Ty) (i:Nat):Int :=
 if nameB (t.nd i).name=false then 2 else if anyB (fun y=>decide (y.name=(t.nd i).name)) (t.nodes.take i)=true then 5
 else if (t.nd i).par < -1∨(i:Int)≤(t.nd i).par then 6 else if 4<(t.nd i).own.length then 3
 else if 8<(atsL t i).length then 3 else ownE (atsL t i) (t.nd i).own.length
def stNo (L:List At) (nb:Nat) (box:Bxs) (tok:Tks) (nt:Nat) (k:Nat):AState:=⟨tl [(7,I k),(6,.d (atts L))],lb nb box [],tok,nt⟩
theorem node_c (t:Ty) (ht:t.Fit) (hM:∀ i,(t.nd i).own.length≤1000) (i:Nat) (hi:i<t.nodes.length) (hp:∀ j,j<i→(t.nd j).par<j) (tok:Tks) (nt:Nat):DCall Tryz.prog 133 [t.av,I i] tok nt (I (nodE t i)) tok nt:=by
 intro box nb;have hnd:=nd_at hi;have hmem:=List.getElem_mem hi;have h1:=isName_c (t.nd i).name (by rw [hnd]; exact Nat.le_trans (ht.nn _ hmem) (by decide));obtain ⟨N,hN⟩:∃ N,nodE t i=N:=⟨_,rfl⟩
 rw [hN];unfold nodE at hN;rw [hnd] at h1 hN;cases e1:nameB t.nodes[i].name
 ·rw [e1] at h1 hN;rw [if_pos rfl] at hN;refine sI Tryz.func133 Tryz.ntmps133 fun hbox htok=>?_
  repeat (first|simp [hi]|refine sR ?_)
  refine Stop.of_d (h1 _ _) ?_;repeat (first|simp|refine sR ?_)
  refine sC ?_;repeat (first|simp|refine sR ?_)
  refine sT (sH hbox htok ?_);simp [packA,←hN]
 ·rw [e1] at h1 hN;rw [if_neg (by simp)] at hN;obtain ⟨p,hpp⟩:∃ p:NT→Bool,(fun y=>decide (y.name=t.nodes[i].name))=p:=⟨_,rfl⟩
  have h2:=fun y box nb k (hbk:box k=some [(t.nodes[i]'hi).row])=>node1_c (t.nodes[i]'hi) y box nb k tok nt hbk
  have hpy:∀ y:NT,decide (y.name=t.nodes[i].name)=p y:=fun y=>by rw [←hpp]
  simp only [hpy] at h2;rw [hpp] at hN;refine sI Tryz.func133 Tryz.ntmps133 fun hbox htok=>?_
  repeat (first|simp [hi]|refine sR ?_)
  refine Stop.of_d (h1 _ _) ?_;repeat (first|simp [hi]|refine sR ?_|refine sC ?_)
  refine ⟨by omega,?_⟩;have hcf:=fun (b:Bxs) nb' h3 h4=>containsFuncN_c (t.nodes.take i) 211 [.ptr (nb+5) 0 0] p (by simp; have:=ht.n; omega) b nb' tok nt h3 h4
  rw [show nts (t.nodes.take i)=.sl 4 (List.take i (t.nodes.map NT.cells)) by rw [nts,List.map_take]] at hcf;refine Stop.of_b (hcf _ _ (fun c hc=>by rw [List.mem_singleton.1 hc]; simp [lb_at]) (fun y hy box' nb' he=>h2 y box' nb' _ (he _ _ (by simp [lb_at])))) ?_;simp;cases e2:anyB p (t.nodes.take i)
  ·rw [e2,if_neg (by simp)] at hN;refine sC ?_;simp;by_cases e3:t.nodes[i].par < -1
   ·rw [if_pos (.inl e3)] at hN;repeat (first|simp [e3]|refine sR ?_)
    refine sC ?_;repeat (first|simp|refine sR ?_)
    refine sT (sH hbox htok ?_);simp [packA,←hN]
   ·by_cases e4:(i:Int)≤t.nodes[i].par
    ·rw [if_pos (.inr e4)] at hN;repeat (first|simp [e3,e4]|refine sR ?_)
     refine sC ?_;repeat (first|simp|refine sR ?_)
     refine sT (sH hbox htok ?_);simp [packA,←hN]
    ·rw [if_neg (by omega)] at hN;repeat (first|simp [e3,e4]|refine sR ?_)
     refine sC ?_;repeat (first|simp|refine sR ?_)
     by_cases e5:4<t.nodes[i].own.length
     ·have e5':(4:Int)<t.nodes[i].own.length:=by omega
      rw [if_pos e5] at hN;refine sC ?_;simp [e5,e5'];repeat (first|simp|refine sR ?_)
      refine sT (sH hbox htok ?_);simp [packA,←hN]
     ·have e5':¬ (4:Int)<t.nodes[i].own.length:=by omega
      rw [if_neg e5] at hN;obtain ⟨tok1,nt1,o1,hk,hc⟩:=attrs_c t ht hM (i+1) i (Nat.lt_succ_self _) hi (fun j hj=>by
       by_cases e:j=i
       ·subst e; rw [hnd]; omega
       ·exact hp j (by omega)) tok nt
      have hal:=atsL_len hM (i+1) i (Nat.lt_succ_self _);have haf:=atsL_fit ht (i+1) i (Nat.lt_succ_self _);have hml:=atsL_own (t:=t) (i:=i);rw [hnd] at hml;have htn:=ht.n;have hal2:(atsL t i).length≤1000000:=Nat.le_trans hal (by have:(i+1) * 1000≤1000 * 1000:=Nat.mul_le_mul_right _ (by omega); omega)
      clear hal;generalize atsL t i=L at *;refine sC ?_;simp [e5,e5'];repeat (first|simp|refine sR ?_)
      refine Stop.of_d (hc) ?_;simp;have hkk:=hk htok;repeat (first|simp|refine sR ?_)
      by_cases e6:8<L.length
      ·have e6':(8:Int)<L.length:=by omega
       rw [if_pos e6] at hN;refine sC ?_;simp [e6,e6'];repeat (first|simp|refine sR ?_)
       refine sT (sG hbox htok hkk.old hkk.le ?_);simp [packA,←hN]
      ·have e6':¬ (8:Int)<L.length:=by omega
       rw [if_neg e6] at hN;have hw0:IntKind.i64.wrap ((L.length:Int) - (t.nodes[i].own.length:Nat))=((L.length - t.nodes[i].own.length:Nat):Int):=by rw [wrap_in (by omega) (by omega)]; omega
       have hz:=ownAt_zero L t.nodes[i].own.length (L.length - t.nodes[i].own.length) (by omega);unfold ownE at hN;obtain ⟨f,hf⟩:∃ f,ownAt L t.nodes[i].own.length=f:=⟨_,rfl⟩
       have hfk:∀ k,(hk:k<L.length)→L.length - t.nodes[i].own.length≤k→f k=attE L[k] (L.take k):=fun k hk hge=>by
        rw [←hf,ownAt,if_neg (by omega),at_getD hk]
       rw [hf] at hN hz;refine sC ?_;simp [e6,e6'];repeat (first|simp [hi,lb_at,hw0]|refine sR ?_)
       have hal3:L.length - t.nodes[i].own.length≤L.length:=Nat.sub_le _ _
       generalize L.length - t.nodes[i].own.length=a at *;refine sN ?_;refine AL.loopT (stNo L nb box tok1 nt1) (fun k=>a≤k∧k≤L.length∧firstE f k=0) (fun k=>L.length - k) a ⟨Nat.le_refl _,by omega,hz⟩ (Weaks.mk (by have:=hkk.le; omega) rfl (by simp [ToL,lk,To.data]) trivial) ?_;rintro k S' ⟨hak,hkl,hok⟩ hS;simp only [stNo] at hS;subst hS;have hw:=sW (i:=k) (by omega);repeat (first|simp|refine sR ?_|refine sC ?_)
       refine ⟨fun hlt=>?_,fun hge=>?_⟩
       ·have hA:=hfk k hlt hak;have hc2:=attribute_c L[k] (L.take k) (haf _ (List.getElem_mem hlt)) (by simp; omega);rw [atts_take,←hA] at hc2;have hR:f k≠0→firstE f L.length=f k:=fun h0=>firstE_stop hok h0 L.length hlt
        have hnx:f k=0→firstE f (k+1)=0:=fun h0=>by simp only [firstE,hok,h0, ↓reduceIte]
        generalize f k=E at *;repeat (first|simp [hlt,atts_at hlt]|refine sR ?_)
        try refine ⟨by omega,?_⟩
        refine Stop.of_d (hc2 _ _) ?_;repeat (first|simp|refine sR ?_)
        by_cases e7:E=0
        ·refine sC ?_;simp [e7];repeat (first|simp [hw]|refine sR ?_)
         refine sE ?_;exact ⟨k+1,⟨by omega,hlt,hnx e7⟩,by omega,Weaks.mk (by have:=hkk.le; omega) rfl (by simp [ToL,lk]) trivial⟩
        ·have b7:(E != 0)=true:=by simp [e7]
         refine sC ?_;simp [e7,b7];repeat (first|simp|refine sR ?_)
         refine sT (sG hbox htok hkk.old hkk.le ?_);simp [packA,←hN,hR e7]
       ·refine sX ?_;simp only [AU, ↓reduceIte];repeat (first|simp|refine sR ?_)
        have:k=L.length:=by omega
        subst this;refine sT (sG hbox htok hkk.old hkk.le ?_);simp [packA,←hN,hok]
  ·rw [e2,if_pos rfl] at hN;refine sC ?_;repeat (first|simp|refine sR ?_)
   refine sT (sH hbox htok ?_);simp [packA,←hN]
instance:Inhabited ET:=⟨⟨eB,0,0,0,0,0,0⟩⟩
def Ty.ed (t:Ty) (i:Nat):ET:=t.edges.getD i default
theorem ed_at {t:Ty} {i:Nat} (h:i<t.edges.length):t.ed i=t.edges[i]:=by simp [Ty.ed,h]
def anyE (l:List ET) (s:ByteArray):Bool:=anyB (fun y=>decide (y.name=s)) l
def edR (t:Ty) (x:ET):Int:=if insB t x.fr=false then 6 else if insB t x.to=false then 6 else if bndB x.ol x.oh=false then 6 else if bndB x.il x.ih=false then 6 else 0
def edgE (t:Ty) (i:Nat):Int :=
 if nameB (t.ed i).name=false then 2 else if anyE (t.edges.take i) (t.ed i).name=true then 5 else edR t (t.ed i)
set_option maxRecDepth 100000 in
theorem edge_c (t:Ty) (ht:t.Fit) (i:Nat) (hi:i<t.edges.length) (tok:Tks) (nt:Nat):DCall Tryz.prog 134 [t.av,I i] tok nt (I (edgE t i)) tok nt:=by
 intro box nb;have hnd:=ed_at hi;have hmem:=List.getElem_mem hi;have hte:=ht.e;have h1:=isName_c (t.ed i).name (by rw [hnd]; exact Nat.le_trans (ht.en _ hmem) (by decide));obtain ⟨N,hN⟩:∃ N,edgE t i=N:=⟨_,rfl⟩
 rw [hN];unfold edgE at hN;rw [hnd] at h1 hN;cases e1:nameB t.edges[i].name
 ·rw [e1] at h1 hN;rw [if_pos rfl] at hN;refine sI Tryz.func134 Tryz.ntmps134 fun hbox htok=>?_
  repeat (first|simp [hi]|refine sR ?_)
  refine Stop.of_d (h1 _ _) ?_;repeat (first|simp|refine sR ?_)
  refine sC ?_;repeat (first|simp|refine sR ?_)
  refine sT (sH hbox htok ?_);simp [packA,←hN]
 ·rw [e1] at h1 hN;rw [if_neg (by simp)] at hN;unfold anyE at hN;obtain ⟨p,hpp⟩:∃ p:ET→Bool,(fun y=>decide (y.name=t.edges[i].name))=p:=⟨_,rfl⟩
  have h2:=fun y box nb k (hbk:box k=some [(t.edges[i]'hi).row])=>edge2_c (t.edges[i]'hi) y box nb k tok nt hbk
  have hpy:∀ y:ET,decide (y.name=t.edges[i].name)=p y:=fun y=>by rw [←hpp]
  simp only [hpy] at h2;rw [hpp] at hN;refine sI Tryz.func134 Tryz.ntmps134 fun hbox htok=>?_
  repeat (first|simp [hi]|refine sR ?_)
  refine Stop.of_d (h1 _ _) ?_;repeat (first|simp [hi]|refine sR ?_|refine sC ?_)
  try refine ⟨by omega,?_⟩
  have hcf:=fun (b:Bxs) nb' h3 h4=>containsFuncE2_c (t.edges.take i) 216 [.ptr (nb+5) 0 0] p (by simp; have:=ht.e; omega) b nb' tok nt h3 h4
  rw [show ets (t.edges.take i)=.sl 7 (List.take i (t.edges.map ET.cells)) by rw [ets,List.map_take]] at hcf;refine Stop.of_b (hcf _ _ (fun c hc=>by rw [List.mem_singleton.1 hc]; simp [lb_at]) (fun y hy box' nb' he=>h2 y box' nb' _ (he _ _ (by simp [lb_at])))) ?_;simp;cases e2:anyB p (t.edges.take i)
  ·rw [e2,if_neg (by simp)] at hN;unfold edR at hN;have b1:=bounded_c t.edges[i].ol t.edges[i].oh;have b2:=bounded_c t.edges[i].il t.edges[i].ih;refine sC ?_;repeat (first|simp|refine sR ?_)
   refine Stop.of_b (edge1_c t t.edges[i].fr _ _ (nb+2) _ _ (by simp [lb_at])) ?_;simp;cases g1:insB t t.edges[i].fr
   ·rw [g1,if_pos rfl] at hN;repeat (first|simp|refine sR ?_)
    refine sC ?_;repeat (first|simp|refine sR ?_)
    refine sC ?_;repeat (first|simp|refine sR ?_)
    refine sT (sH hbox htok ?_);simp [packA,←hN]
   ·rw [g1,if_neg (by simp)] at hN;repeat (first|simp|refine sR ?_)
    refine Stop.of_b (edge1_c t t.edges[i].to _ _ (nb+2) _ _ (by simp [lb_at])) ?_;simp;cases g2:insB t t.edges[i].to
    ·rw [g2,if_pos rfl] at hN;repeat (first|simp|refine sR ?_)
     refine sC ?_;repeat (first|simp|refine sR ?_)
     refine sC ?_;repeat (first|simp|refine sR ?_)
     refine sT (sH hbox htok ?_);simp [packA,←hN]
    ·rw [g2,if_neg (by simp)] at hN;repeat (first|simp|refine sR ?_)
     refine sC ?_;repeat (first|simp|refine sR ?_)
     refine Stop.of_d (b1 _ _) ?_;simp;cases g3:bndB t.edges[i].ol t.edges[i].oh
     ·rw [g3,if_pos rfl] at hN;repeat (first|simp|refine sR ?_)
      refine sC ?_;repeat (first|simp|refine sR ?_)
      refine sT (sH hbox htok ?_);simp [packA,←hN]
     ·rw [g3,if_neg (by simp)] at hN;repeat (first|simp|refine sR ?_)
      refine Stop.of_d (b2 _ _) ?_;simp;cases g4:bndB t.edges[i].il t.edges[i].ih
      ·rw [g4,if_pos rfl] at hN;repeat (first|simp|refine sR ?_)
       refine sC ?_;repeat (first|simp|refine sR ?_)
       refine sT (sH hbox htok ?_);simp [packA,←hN]
      ·rw [g4,if_neg (by simp)] at hN;repeat (first|simp|refine sR ?_)
       refine sC ?_;repeat (first|simp|refine sR ?_)
       refine sT (sH hbox htok ?_);simp [packA,←hN]
  ·rw [e2,if_pos rfl] at hN;refine sC ?_;repeat (first|simp|refine sR ?_)
   refine sT (sH hbox htok ?_);simp [packA,←hN]
theorem xx:True:=trivial
def firstN (f:Nat→Int) (g:Nat→ByteArray):Nat→ByteArray
 | 0=>eB
 | n+1=>if firstE f n=0 then (if f n=0 then eB else g n) else firstN f g n
theorem firstN_stop {f:Nat→Int} {g:Nat→ByteArray} {i:Nat} (h0:firstE f i=0) (h:f i≠0):∀ n,i<n→firstN f g n=g i
 | 0,hi=>absurd hi (Nat.not_lt_zero _)
 | n+1,hi=>by
  simp only [firstN];by_cases e:i=n
  ·subst e;rw [if_pos h0,if_neg h]
  ·have:=firstE_stop h0 h n (by omega)
   rw [if_neg (by rw [this]; exact h),firstN_stop h0 h n (by omega)]
theorem firstN_none {f:Nat→Int} {g:Nat→ByteArray}:∀ n,firstE f n=0→firstN f g n=eB
 | 0,_=>rfl
 | n+1,h=>by
  simp only [firstE] at h;split at h
  ·rename_i h1;rw [firstN,if_pos h1,if_pos h]
  ·rename_i h1;exact absurd h h1
def tyE (t:Ty):Int :=
 if t.nodes.length=0 then 7 else if 12<t.nodes.length then 3 else if 20<t.edges.length then 3
 else if firstE (nodE t) t.nodes.length≠0 then firstE (nodE t) t.nodes.length else firstE (edgE t) t.edges.length
def tyN (t:Ty):ByteArray :=
 if t.nodes.length=0 then eB else if 12<t.nodes.length then eB else if 20<t.edges.length then eB
 else if firstE (nodE t) t.nodes.length≠0 then firstN (nodE t) (fun i=>(t.nd i).name) t.nodes.length else firstN (edgE t) (fun i=>(t.ed i).name) t.edges.length
theorem nodE_par {t:Ty} {i:Nat} (h:nodE t i=0):(t.nd i).par<i:=by
 unfold nodE at h;split at h
 ·cases h
 ·split at h
  ·cases h
  ·split at h
   ·cases h
   ·omega
theorem firstE_allZ {f:Nat→Int}:∀ n,firstE f n=0→∀ i,i<n→f i=0
 | 0,_,i,hi=>absurd hi (Nat.not_lt_zero _)
 | n+1,h,i,hi=>by
  simp only [firstE] at h;split at h
  ·rename_i h1;by_cases e:i=n
   ·subst e; exact h
   ·exact firstE_allZ n h1 i (by omega)
  ·rename_i h1;exact absurd h h1
def stVn (t:Ty) (nb:Nat) (box:Bxs) (tok:Tks) (nt:Nat) (i:Nat):AState:=⟨tl [(29,I i),(28,I t.nodes.length),(27,.d (nts t.nodes)),(1,.ptr (nb+1) 0 0)],lb nb box [(1,[[.d (nts t.nodes),.d (ets t.edges)]])],tok,nt⟩
def stVe (t:Ty) (nb:Nat) (box:Bxs) (tok:Tks) (nt:Nat) (i:Nat):AState:=⟨tl [(46,I i),(45,I t.edges.length),(44,.d (ets t.edges)),(1,.ptr (nb+1) 0 0)],lb nb box [(1,[[.d (nts t.nodes),.d (ets t.edges)]])],tok,nt⟩
theorem valid_c4 (t:Ty) (ht:t.Fit) (hM:∀ i,(t.nd i).own.length≤1000) (tok:Tks) (nt:Nat):DCall Tryz.prog 66 [t.av] tok nt (.tup [Sb (tyN t),I (tyE t)]) tok nt:=by
 intro box nb;have htn:=ht.n;have hte:=ht.e;obtain ⟨N,hN⟩:∃ N,tyE t=N:=⟨_,rfl⟩
 obtain ⟨Z,hZ⟩:∃ Z,tyN t=Z:=⟨_,rfl⟩
 rw [hN,hZ];unfold tyE at hN;unfold tyN at hZ;by_cases e1:t.nodes.length=0
 ·have e1':t.nodes=[]:=List.length_eq_zero_iff.1 e1
  rw [if_pos e1] at hN hZ;refine sI Tryz.func66 Tryz.ntmps66 fun hbox htok=>?_
  repeat (first|simp [e1']|refine sR ?_|refine sC ?_)
  refine sT (sH hbox htok ?_);simp [packA,←hN,←hZ]
 ·have e1':¬ t.nodes=[]:=fun h=>e1 (by rw [h]; rfl)
  rw [if_neg e1] at hN hZ;by_cases e2:12<t.nodes.length
  ·have e2':(12:Int)<t.nodes.length:=by omega
   rw [if_pos e2] at hN hZ;refine sI Tryz.func66 Tryz.ntmps66 fun hbox htok=>?_
   repeat (first|simp [e1',e2,e2']|refine sR ?_)
   refine sC ?_;simp [e1',e2,e2'];repeat (first|simp [e2,e2']|refine sR ?_|refine sC ?_)
   refine sT (sH hbox htok ?_);simp [packA,←hN,←hZ]
  ·have e2':¬ (12:Int)<t.nodes.length:=by omega
   rw [if_neg e2] at hN hZ;by_cases e3:20<t.edges.length
   ·have e3':(20:Int)<t.edges.length:=by omega
    rw [if_pos e3] at hN hZ;refine sI Tryz.func66 Tryz.ntmps66 fun hbox htok=>?_
    repeat (first|simp [e1',e2,e2',e3,e3']|refine sR ?_)
    refine sC ?_;simp [e1',e2,e2'];repeat (first|simp [e2,e2',e3,e3']|refine sR ?_|refine sC ?_)
    refine sT (sH hbox htok ?_);simp [packA,←hN,←hZ]
   ·have e3':¬ (20:Int)<t.edges.length:=by omega
    rw [if_neg e3] at hN hZ;refine sI Tryz.func66 Tryz.ntmps66 fun hbox htok=>?_
    repeat (first|simp [e1',e2,e2',e3,e3']|refine sR ?_)
    refine sC ?_;simp [e1',e2,e2'];repeat (first|simp [e2,e2',e3,e3']|refine sR ?_|refine sC ?_)
    refine sN ?_;refine AL.loopT (stVn t nb box tok nt) (fun i=>i≤t.nodes.length∧firstE (nodE t) i=0) (fun i=>t.nodes.length - i) 0 ⟨Nat.zero_le _,rfl⟩ wkA ?_;rintro i S' ⟨hi,hok⟩ hS;simp only [stVn] at hS;subst hS;have hw:=sW (i:=i) (by omega);repeat (first|simp|refine sR ?_|refine sC ?_)
    refine ⟨fun hlt=>?_,fun hge=>?_⟩
    ·have hc:=node_c t ht hM i hlt (fun j hj=>nodE_par (firstE_allZ i hok j hj));have hR:nodE t i≠0→firstE (nodE t) t.nodes.length=nodE t i:=fun h0=>firstE_stop hok h0 _ hlt
     have hR2:nodE t i≠0→firstN (nodE t) (fun i=>(t.nd i).name) t.nodes.length=t.nodes[i].name:=fun h0=>by rw [firstN_stop hok h0 _ hlt,nd_at hlt]
     have hnx:nodE t i=0→firstE (nodE t) (i+1)=0:=fun h0=>by simp only [firstE,hok,h0, ↓reduceIte]
     generalize nodE t i=E at *;repeat (first|simp [hlt]|refine sR ?_)
     refine Stop.of_d (hc _ _) ?_;repeat (first|simp|refine sR ?_)
     by_cases e7:E=0
     ·refine sC ?_;simp [e7];repeat (first|simp [hw]|refine sR ?_)
      refine sE ?_;exact ⟨i+1,⟨hlt,hnx e7⟩,by omega,wkA⟩
     ·have b7:(E != 0)=true:=by simp [e7]
      rw [hR e7,if_pos e7] at hN hZ;rw [hR2 e7] at hZ;refine sC ?_;simp [e7,b7];repeat (first|simp [hlt]|refine sR ?_)
      refine sT (sH hbox htok ?_);simp [packA,←hN,←hZ]
    ·refine sX ?_;simp only [AU, ↓reduceIte];have:i=t.nodes.length:=by omega
     subst this;rw [if_neg (by rw [hok]; simp)] at hN hZ;repeat (first|simp|refine sR ?_)
     refine sN ?_;refine AL.loopT (stVe t nb box tok nt) (fun i=>i≤t.edges.length∧firstE (edgE t) i=0) (fun i=>t.edges.length - i) 0 ⟨Nat.zero_le _,rfl⟩ wkA ?_;rintro i S' ⟨hi,hok2⟩ hS;simp only [stVe] at hS;subst hS;have hw:=sW (i:=i) (by omega);repeat (first|simp|refine sR ?_|refine sC ?_)
     refine ⟨fun hlt=>?_,fun hge=>?_⟩
     ·have hc:=edge_c t ht i hlt;have hR:edgE t i≠0→firstE (edgE t) t.edges.length=edgE t i:=fun h0=>firstE_stop hok2 h0 _ hlt
      have hR2:edgE t i≠0→firstN (edgE t) (fun i=>(t.ed i).name) t.edges.length=t.edges[i].name:=fun h0=>by rw [firstN_stop hok2 h0 _ hlt,ed_at hlt]
      have hnx:edgE t i=0→firstE (edgE t) (i+1)=0:=fun h0=>by simp only [firstE,hok2,h0, ↓reduceIte]
      generalize edgE t i=E at *;repeat (first|simp [hlt]|refine sR ?_)
      refine Stop.of_d (hc _ _) ?_;repeat (first|simp|refine sR ?_)
      by_cases e7:E=0
      ·refine sC ?_;simp [e7];repeat (first|simp [hw]|refine sR ?_)
       refine sE ?_;exact ⟨i+1,⟨hlt,hnx e7⟩,by omega,wkA⟩
      ·have b7:(E != 0)=true:=by simp [e7]
       rw [hR e7] at hN;rw [hR2 e7] at hZ;refine sC ?_;simp [e7,b7];repeat (first|simp [hlt]|refine sR ?_)
       refine sT (sH hbox htok ?_);simp [packA,←hN,←hZ]
     ·refine sX ?_;simp only [AU, ↓reduceIte];have:i=t.edges.length:=by omega
      subst this;rw [hok2] at hN;rw [firstN_none _ hok2] at hZ;repeat (first|simp|refine sR ?_)
      refine sT (sH hbox htok ?_);simp [packA,←hN,←hZ]
structure Ru where
 name:ByteArray
 lg:Gr
 lsl:List Sl
 lv:Int
 lte:List Te
 rg:Gr
 rsl:List Sl
 rv:Int
 rte:List Te
 k:Mo
 i:Mo
 inj:Bool
 c:Cd
abbrev Ru.row (r:Ru):List AV:=[.d (.raw (.string r.name)),.d (ints r.lg.nodes),.d (AM.edges r.lg.edges),.d (slots r.lsl),I r.lv,.d (tests r.lte),.d (ints r.rg.nodes),.d (AM.edges r.rg.edges),.d (slots r.rsl),I r.rv,.d (tests r.rte),
 .d (ints r.k.nodes),.d (ints r.k.edges),.d (ints r.i.nodes),.d (ints r.i.edges),B r.inj,I r.c.kind,.d (conds r.c.kids),.d (ints r.c.m.nodes),.d (ints r.c.m.edges),.d (ints r.c.g.nodes),.d (AM.edges r.c.g.edges),.d (slots r.c.sl),I r.c.vars,.d (tests r.c.te)]
abbrev Ru.av (r:Ru):AV:=.agg r.row
structure Ru.Fit (r:Ru):Prop where
 lg:r.lg.Fit
 rg:r.rg.Fit
 k:r.k.Fit
 i:r.i.Fit
 ls:r.lsl.length≤bigN
 lt:r.lte.length≤bigN
 rs:r.rsl.length≤bigN
 rt:r.rte.length≤bigN
def Ru.sp (r:Ru):Sp:=⟨r.lg,r.rg,r.k,r.i⟩
def rowsB (bs:List Bool):List (List AV):=bs.map fun b=>[AV.d (.raw (.bool b))]
theorem rowsB_eq (bs:List Bool):rowsB bs=rowsD (bs.map fun b=>[D.raw (.bool b)]):=by simp [rowsB,rowsD]
@[simp] theorem set_rB (bs:List Bool) (i:Nat) (v:Bool):(rowsB bs).set i [AV.d (.raw (.bool v))]=rowsB (bs.set i v):=by simp [rowsB,List.map_set]
@[simp] theorem rowsB_length (bs:List Bool):(rowsB bs).length=bs.length:=by simp [rowsB]
@[simp high] theorem rowsB_get {bs:List Bool} {i:Nat} (h:i<bs.length):(rowsB bs)[i]?=some [AV.d (.raw (.bool bs[i]))]:=by simp [rowsB,h]
@[simp] theorem rowsTo_B {p q:Nat→Prop} {fz:Option (Nat × Nat × List (List D))} (bs:List Bool):RowsTo p q fz (rowsB bs) (rowsB bs):=by rw [rowsB_eq]; simp
def pickN (ns:List Int) (js:List Int) (i:Nat):List Int:=(js.take i).map fun j=>ns.getD j.toNat 0
@[simp] theorem pickN_len (l h:List Int) (i:Nat):(pickN l h i).length=min i h.length:=by simp [pickN]
def pickE (es:List E) (ns js:List Int) (i:Nat):List E:=(js.take i).map fun j=>⟨(es.getD j.toNat default).ty,indexI ns (es.getD j.toNat default).fr,indexI ns (es.getD j.toNat default).to⟩
@[simp] theorem pickE_len (l:List E) (ns h:List Int) (i:Nat):(pickE l ns h i).length=min i h.length:=by simp [pickE]
def rkK (ns:List Int) (bit:Nat→Bool):Nat→List Int
 | 0=>[]
 | i+1=>if bit i=true then rkK ns bit i++[((chN ns bit i).1.length:Int)] else rkK ns bit i++[0]
def rkR (ns:List Int) (bit:Nat→Bool) (n i:Nat):List Int:=rkK ns bit i++List.replicate (n - i) 0
theorem rkK_len (ns:List Int) (bit:Nat→Bool):∀ i,(rkK ns bit i).length=i
 | 0=>rfl
 | i+1=>by
  simp only [rkK];split <;> simp [rkK_len ns bit i]
@[simp] theorem rkR_len (ns:List Int) (bit:Nat→Bool) {n i:Nat} (h:i≤n):(rkR ns bit n i).length=n:=by simp [rkR,rkK_len]; omega
def sameAt (a b:List Int) (i k:Nat):Bool:=decide (a.getD i 0=a.getD k 0)==decide (b.getD i 0=b.getD k 0)
def mrgK (l:List Int) (lo hi:Int) (i:Nat):List Int:=(l.take i).map fun k=>if k=hi then lo else k
@[simp] theorem mrgK_len (l:List Int) (lo hi:Int) (i:Nat):(mrgK l lo hi i).length=min i l.length:=by simp [mrgK]
def preK (l:List Int) (i:Nat):List Int:=l.take i
@[simp] theorem preK_len (l:List Int) (i:Nat):(preK l i).length=min i l.length:=by simp [preK]
theorem Emb.fit {a b:Gr} {m:Mo} (h:Emb a b m):m.Fit∧a.Fit∧b.Fit:=by
 have v:=h.vm;have h1:=(validG_types v.va).1;have h2:=(validG_types v.vb).1;have h3:=v.ln;have h4:=v.le;exact ⟨⟨by omega,by omega⟩,⟨by omega,by omega⟩,⟨by omega,by omega⟩⟩
end Go.AM
namespace Go.Proofs
open Go.Shelf
end Go.Proofs
namespace Go.AM
open Go Go.Proofs Go.RowKit Go.Lib
theorem SpOk.fit {s:Sp} (h:SpOk s):s.l.Fit∧s.r.Fit∧s.k.Fit∧s.i.Fit:=⟨h.k.emb.fit.2.2,h.i.fit.2.2,h.k.emb.fit.1,h.i.fit.1⟩
def Sp.ru (s:Sp):Ru:=⟨⟨#[]⟩,s.l,[],0,[],s.r,[],0,[],s.k,s.i,true,cdOf 0 []⟩
structure Ru.Big (r:Ru):Prop where
 k:r.k.nodes.length≤bigN∧r.k.edges.length≤bigN
 i:r.i.nodes.length≤bigN∧r.i.edges.length≤bigN
 ls:r.lsl.length≤bigN
 lt:r.lte.length≤bigN
 rs:r.rsl.length≤bigN
 rt:r.rte.length≤bigN
 c:r.c.Big
def backL (l:List Int) (n:Nat):List Int:=(List.range n).map fun (k:Nat)=>indexI l (k:Int)
theorem backL_succ (l:List Int) (k:Nat):backL l (k+1)=backL l k++[indexI l k]:=by simp [backL,List.range_succ]
def backS (l:List Int) (k j:Nat):List Int:=backL l k++[indexI (l.take j) k]
theorem backS_len (l:List Int) (k j:Nat):(backS l k j).length=k+1:=by simp [backS,backL]
theorem backS_zero (l:List Int) (k:Nat):backS l k 0=backL l k++[-1]:=by simp [backS,indexI]
theorem backS_all (l:List Int) (k:Nat):backS l k l.length=backL l (k+1):=by simp [backS,backL_succ]
theorem indexI_none {l:List Int} {v:Int} (h:v∉l):indexI l v = -1:=by
 rcases indexI_spec l v with ⟨h1,_⟩|⟨k,_,h3,h4⟩
 ·exact h1
 ·exact absurd (h4 ▸ getD_mem h3) h
theorem take_mem {l:List Int} {j:Nat} (h:j<l.length) {v:Int}:v∈l.take (j+1)↔v∈l.take j∨v=l.getD j 0:=by
 rw [←List.take_append_getElem h,List.mem_append,List.mem_singleton];simp [h]
theorem index_no {l:List Int} {j:Nat} (h:j<l.length) {v:Int} (hv:l.getD j 0≠v) (hn:l.Nodup):indexI (l.take (j+1)) v=indexI (l.take j) v:=by
 by_cases hm:v∈l.take j
 ·obtain ⟨a1,a2,a3⟩:=indexI_in hm;obtain ⟨b1,b2,b3⟩:=indexI_in ((take_mem h).2 (.inl hm));have hnd:(l.take (j+1)).Nodup:=hn.sublist (List.take_sublist _ _)
  have hl:(l.take j).length≤(l.take (j+1)).length:=by simp; omega
  have e:(l.take (j+1)).getD (indexI (l.take j) v).toNat 0=v:=by
   have q:(indexI (l.take j) v).toNat<(l.take j).length:=by omega
   have q1:(indexI (l.take j) v).toNat<j:=by simp at q; omega
   have q2:(l.take (j+1)).getD (indexI (l.take j) v).toNat 0=(l.take j).getD (indexI (l.take j) v).toNat 0:=by
    simp only [List.getD_eq_getElem?_getD,List.getElem?_take];rw [if_pos (by omega),if_pos q1]
   rw [q2]; exact a3
  have:=getD_inj hnd (show (indexI (l.take j) v).toNat<(l.take (j+1)).length by omega) (show (indexI (l.take (j+1)) v).toNat<(l.take (j+1)).length by omega) (e.trans b3.symm)
  omega
 ·rw [indexI_none hm,indexI_none fun hm2=>by
   rcases (take_mem h).1 hm2 with h1|h1
   ·exact hm h1
   ·exact hv h1.symm]
theorem index_yes {l:List Int} {j:Nat} (h:j<l.length) (hn:l.Nodup):indexI (l.take (j+1)) (l.getD j 0)=j:=by
 have hnd:(l.take (j+1)).Nodup:=hn.sublist (List.take_sublist _ _)
 have hj:j<(l.take (j+1)).length:=by simp; omega
 have e:(l.take (j+1)).getD j 0=l.getD j 0:=by
  simp only [List.getD_eq_getElem?_getD,List.getElem?_take];rw [if_pos (by omega)]
 have:=indexI_gd hnd hj
 rwa [e] at this
theorem backS_no {l:List Int} {k j:Nat} (h:j<l.length) (hv:l.getD j 0≠k) (hn:l.Nodup):backS l k (j+1)=backS l k j:=by rw [backS,backS,index_no h hv hn]
theorem backS_yes {l:List Int} {k j:Nat} (h:j<l.length) (hv:l.getD j 0=k) (hn:l.Nodup):backS l k (j+1)=(backS l k j).set k j:=by
 have h2:=index_yes h hn;rw [hv] at h2;have hl:(backL l k).length=k:=by simp [backL]
 rw [backS,backS,h2,List.set_append_right _ _ (by omega),hl];simp
end Go.AM
namespace Go.Proofs.YtainalmfffjnjaaGreatDoor.back
open Go Go.Proofs Go.RowKit Go.AM
theorem info3:(Tryz.prog.info? 3).map (fun i=>(i.zero,i.size,i.bytes))=some (some (.int .i64 0),1,8):=by kernel_rfl
set_option maxHeartbeats 2000000 in
set_option maxRecDepth 100000 in
theorem any (b off n c m:Nat) (zs:List Int) (w:World) (hz:zs.length=n) (hn:n≤1000000) (hm:m≤1000000) (hd:zs.Nodup) (hb:b<w.heap.size) (hc:∀ j,j<zs.length→w.cell? ⟨b,off+j,none⟩=some (.int .i64 (zs.getD j 0))) :
  Calls Tryz.prog 146 #[.slice (some ⟨b,off,none⟩) n c,.int .i64 m] w fun e w'=>∃ v,e=.returned v∧w'.ownsRow w.heap.size 3 1 v m ((backL zs m).map (Value.int .i64))∧Below w.heap.size w w':=by
 obtain ⟨i0,hi,hz0,hz1,hz2⟩:=info_parts info3
 go_enter Tryz.func146,Tryz.ntmps146
 go_wp2
 go_loopw [5,6] (fun v i wr=>∃ k:Nat,k≤m∧i=.int .i64 k∧wr.ownsRow w.heap.size 3 1 v k ((backL zs k).map (Value.int .i64))∧Below w.heap.size w wr) (fun _ i _=>m - (intOf i).toNat)
 case atStart=>exact ⟨0,Nat.zero_le _,rfl,World.ownsRow_nil _ _ _ _,Below.refl _ _⟩
 case round =>
  obtain ⟨k,hk,rfl,hown,hnx⟩:=hrel
  go_wp2_with (first
   | (at_builtin; refine wpList_append_own _ rfl _ _ 26 rfl w.heap.size 3 i0 (.int .i64 0) 1 8 Tryz.underlying26 hi hz0 hz1 hz2 rfl (by decide) _ _ _ rfl (hown.alloc _) ⟨wr.heap.size,0,none⟩ 1 1 [.int .i64 (-1)] rfl rfl ?c1 ?c2 ?c3 ?c4 ?c5 ?_)
   | go_in)
  case c1 =>
   intro j u hj
   match j,hj with
   | 0,hj=>simp at hj; subst hj; simp [Addr.add]
  case c2=>intro u hu; simp at hu; subst hu; rfl
  case c3=>unfold maxLen; omega
  case c4=>omega
  case c5=>have:=hnx.size; simp; omega
  ·intro v' w1 hown' hgrow hne;have hk':k<m:=by assumption
   obtain ⟨g,cap,rfl,hg1,hg2⟩:=hown'.form (by omega);have hnx1:Below w.heap.size w w1:=(hnx.alloc (by have:=hnx.size; omega) _).grown hgrow (by have:=hnx.size; simp; omega) (fun q hq=>(hown.lt q hq).1)
   rw [show List.map (Value.int .i64) (backL zs k)++[Value.int .i64 (-1)]=(backS zs k 0).map (Value.int .i64) by rw [backS_zero]; simp] at hown';clear hgrow hown hnx hne
   go_wp2
   go_loopw [7] (fun i wr=>∃ j:Nat,j≤n∧i=.int .i64 j∧wr.ownsRow w.heap.size 3 1 (.slice (some ⟨g,0,none⟩) (k+1) cap) (k+1) ((backS zs k j).map (Value.int .i64))∧Below w.heap.size w wr) (fun i _=>n - (intOf i).toNat)
   case atStart=>exact ⟨0,Nat.zero_le _,rfl,hown',hnx1⟩
   case round =>
    clear hown' hnx1;obtain ⟨j,hj,rfl,hown,hnx⟩:=hrel;have hcx:j<n→wr.cell? ⟨b,off+j,none⟩=some (.int .i64 (zs.getD j 0)):=fun h=>(hnx.cell (by exact hb)).trans (hc j (by omega))
    have hst:=hown.stored k (.int .i64 j);have hfz:=hown.frozenAt k;have hck:wr.cell? ⟨g,k,none⟩=some (.int .i64 ((backS zs k j).getD k 0)):=by
     rw [hown.cellAt k (by omega),List.getElem?_map,List.getElem?_eq_getElem (by rw [backS_len]; omega)];simp [show k<(backS zs k j).length by rw [backS_len]; omega]
    go_wp2
    ·have hlt:j<n:=by assumption
     have hjl:j<zs.length:=by omega
     have h:(zs[j]==(k:Int))=true:=by assumption
     have e:zs.getD j 0=(k:Int):=by
      have:=beq_iff_eq.1 h
      simpa [hjl] using this
     refine ⟨⟨j+1,by omega,by simp,?_,hnx.setCell hg1 _⟩,by simp [intOf]; omega⟩;rw [backS_yes hjl e hd,List.map_set];exact hst.1
    ·have hlt:j<n:=by assumption
     have hjl:j<zs.length:=by omega
     have h:(zs[j]==(k:Int))=false:=by assumption
     have e:zs.getD j 0≠(k:Int):=by
      have:=beq_eq_false_iff_ne.1 h
      simpa [hjl] using this
     refine ⟨⟨j+1,by omega,by simp,?_,hnx⟩,by simp [intOf]; omega⟩;rw [backS_no hjl e hd];exact hown
    ·have hlt:¬ j<n:=by assumption
     have hjn:j=zs.length:=by omega
     rw [hjn,backS_all] at hown;exact ⟨⟨k+1,by omega,by simp,hown,hnx⟩,by simp [intOf]; omega⟩
  ·go_ret
   have hk':¬ k<m:=by assumption
   obtain rfl:k=m:=by omega
   exact ⟨_,rfl,hown,hnx⟩
end Go.Proofs.YtainalmfffjnjaaGreatDoor.back
namespace Go.Proofs.YtainalmfffjnjaaGreatDoor.back
open Go Go.Proofs Go.RowKit Go.AM
set_option maxHeartbeats 2000000 in
set_option maxRecDepth 100000 in
theorem zero (A:Option Addr) (c m:Nat) (w:World) (hm:m≤1000000) :
  Calls Tryz.prog 146 #[.slice A 0 c,.int .i64 m] w fun e w'=>∃ v,e=.returned v∧w'.ownsRow w.heap.size 3 1 v m ((backL [] m).map (Value.int .i64))∧Below w.heap.size w w':=by
 obtain ⟨i0,hi,hz0,hz1,hz2⟩:=info_parts info3
 go_enter Tryz.func146,Tryz.ntmps146
 go_wp2
 go_loopw [5,6] (fun v i wr=>∃ k:Nat,k≤m∧i=.int .i64 k∧wr.ownsRow w.heap.size 3 1 v k ((backL [] k).map (Value.int .i64))∧Below w.heap.size w wr) (fun _ i _=>m - (intOf i).toNat)
 case atStart=>exact ⟨0,Nat.zero_le _,rfl,World.ownsRow_nil _ _ _ _,Below.refl _ _⟩
 case round =>
  obtain ⟨k,hk,rfl,hown,hnx⟩:=hrel
  go_wp2_with (first
   | (at_builtin; refine wpList_append_own _ rfl _ _ 26 rfl w.heap.size 3 i0 (.int .i64 0) 1 8 Tryz.underlying26 hi hz0 hz1 hz2 rfl (by decide) _ _ _ rfl (hown.alloc _) ⟨wr.heap.size,0,none⟩ 1 1 [.int .i64 (-1)] rfl rfl ?c1 ?c2 ?c3 ?c4 ?c5 ?_)
   | go_in)
  case c1 =>
   intro j u hj
   match j,hj with
   | 0,hj=>simp at hj; subst hj; simp [Addr.add]
  case c2=>intro u hu; simp at hu; subst hu; rfl
  case c3=>unfold maxLen; omega
  case c4=>omega
  case c5=>have:=hnx.size; simp; omega
  ·intro v' w1 hown' hgrow hne;have hk':k<m:=by assumption
   have hnx1:Below w.heap.size w w1:=(hnx.alloc (by have:=hnx.size; omega) _).grown hgrow (by have:=hnx.size; simp; omega) (fun q hq=>(hown.lt q hq).1)
   rw [show List.map (Value.int .i64) (backL [] k)++[Value.int .i64 (-1)]=(backL [] (k+1)).map (Value.int .i64) by rw [backL_succ]; simp [indexI]] at hown';clear hgrow hown hnx hne
   go_wp2
   go_loopw [7] (fun i wr=>i=.int .i64 0∧wr=w1) (fun i _=>0)
   case atStart=>exact ⟨rfl,rfl⟩
   case round =>
    obtain ⟨rfl,rfl⟩:=hrel
    go_wp2
    exact ⟨⟨k+1,by omega,by simp,hown',hnx1⟩,by simp [intOf]; omega⟩
  ·go_ret
   have hk':¬ k<m:=by assumption
   obtain rfl:k=m:=by omega
   exact ⟨_,rfl,hown,hnx⟩
end Go.Proofs.YtainalmfffjnjaaGreatDoor.back
namespace Go.AM
open Go Go.Proofs Go.RowKit
def upP (ps:List Int) (i:Nat):List Int:=if _h:0≤ps.getD i 0∧(ps.getD i 0).toNat<i then (i:Int)::upP ps (ps.getD i 0).toNat else [(i:Int)]
termination_by i
decreasing_by exact _h.2
def upI (ps:List Int) (a:Int):List Int:=if a<0 then [] else upP ps a.toNat
theorem upI_neg {ps:List Int} {a:Int} (h:a<0):upI ps a=[]:=if_pos h
theorem upI_up {ps:List Int} {a:Int} (h:0≤a) (hp:ps.getD a.toNat 0<a):upI ps a=a::upI ps (ps.getD a.toNat 0):=by
 rw [upI,if_neg (by omega),upP];by_cases h0:0≤ps.getD a.toNat 0
 ·rw [dif_pos ⟨h0,by omega⟩,upI,if_neg (by omega),Int.toNat_of_nonneg h]
 ·rw [dif_neg (fun h2=>h0 h2.1),upI,if_pos (by omega),Int.toNat_of_nonneg h]
theorem upP_len (ps:List Int):∀ n i,i<n→(upP ps i).length≤i+1
 | 0,i,h=>absurd h (Nat.not_lt_zero _)
 | n+1,i,h=>by
  rw [upP];split
  ·rename_i h1;have:=upP_len ps n _ (show (ps.getD i 0).toNat<n by omega)
   simp only [List.length_cons];omega
  ·simp
theorem upI_len (ps:List Int) (a:Int):(upI ps a).length≤(a+1).toNat:=by
 unfold upI;split
 ·simp
 ·have:=upP_len ps _ _ (Nat.lt_succ_self a.toNat)
  omega
end Go.AM
namespace Go.Proofs.YtainalmfffjnjaaGreatDoor.line
open Go Go.Proofs Go.RowKit Go.AM Go.Sort
theorem own_le {w:World} {base base':Nat} {e:TypeId} {size:Nat} {v:Value} {n:Nat} {xs:List Value} (h:w.ownsRow base e size v n xs) (hb:base'≤base):w.ownsRow base' e size v n xs :=
 ⟨h.1,h.2.imp id fun ⟨g,cap,cur,a,b,c⟩=>⟨g,cap,cur,a,Nat.le_trans hb b,c⟩⟩
theorem rev {base n:Nat} {v:Value} {l:List Int} {w0 w:World} (hown:w.ownsRow base 3 1 v n (l.map (Value.int .i64))) (hb:Below base w0 w) (hl:l.length≤1000000) :
  Calls Tryz.prog 277 #[v] w fun e w'=>e=.returned (.tuple #[])∧w'.ownsRow base 3 1 v n (l.reverse.map (Value.int .i64))∧Below base w0 w':=by
 rcases hown.2 with ⟨rfl,e0⟩|⟨g,cap,cur,rfl,hg1,hg2,hg3,hg4,hg5,hg6⟩
 ·refine (Tryz.slices_Reverse_int_empty _ _ _).mono ?_;rintro e w3 ⟨rfl,rfl⟩;subst e0;have:l=[]:=List.length_eq_zero_iff.1 (by simpa using hown.1)
  subst this;exact ⟨rfl,hown,hb⟩
 ·obtain ⟨g',cap',hv,hgb,hgl,hncap,hcm,hlen,hH⟩:=Lib.holds_of_ownsRow hown (by simp);cases hv;have hrev:=Tryz.slices_Reverse_int g 0 cap l _ hH (by omega);rw [hlen] at hrev;refine hrev.mono ?_;rintro e w3 ⟨rfl,q,rfl⟩;have hh:=Lib.ownsRow_putRow (q:=q) (ys:=l.reverse) hown (by simpa using hlen) (Nat.le_refl _);rw [List.take_of_length_le (by simp [hlen])] at hh;exact ⟨rfl,hh,Lib.below_putRow hb hg1⟩
set_option maxHeartbeats 2000000 in
set_option maxRecDepth 100000 in
theorem any (b off n c:Nat) (u:Value) (a0:Int) (ps:List Int) (w:World) (hz:ps.length=n) (hn:n≤1000000) (ha:a0<n) (hp:∀ j,j<n→ps.getD j 0<j) (hb:b<w.heap.size) (hc:∀ j,j<n→w.cell? ⟨b,off+j * 4+1,none⟩=some (.int .i64 (ps.getD j 0))) :
  Calls Tryz.prog 236 #[.agg #[.slice (some ⟨b,off,none⟩) n c,u],.int .i64 a0] w fun e w'=>∃ v,e=.returned v∧w'.ownsRow w.heap.size 3 1 v (upI ps a0).length ((upI ps a0).reverse.map (Value.int .i64))∧Below w.heap.size w w':=by
 obtain ⟨i0,hi,hz0,hz1,hz2'⟩:=info_parts YtainalmfffjnjaaGreatDoor.back.info3
 go_enter Tryz.func236,Tryz.ntmps236
 go_wp2
 have hsz:(w.alloc (Obj.cells #[Value.slice (some { block:=b,off:=off }) n c,u] 25)).heap.size=w.heap.size+1:=by unfold World.alloc; exact Array.size_push _
 have hz2:(w.alloc (Obj.cells #[Value.slice (some { block:=b,off:=off }) n c,u] 25)).cell? ⟨w.heap.size,0,none⟩=some (Value.slice (some { block:=b,off:=off }) n c):=by rw [World.cell?_alloc_at _ _ _ _ rfl]; rfl
 have hcc:∀ j,j<n→(w.alloc (Obj.cells #[Value.slice (some { block:=b,off:=off }) n c,u] 25)).cell? ⟨b,off+j * 4+1,none⟩=some (.int .i64 (ps.getD j 0)):=fun j hj=>((Below.refl _ w).alloc (Nat.le_refl _) _ |>.cell (by exact hb)).trans (hc j hj)
 have hbel:Below w.heap.size w (w.alloc (Obj.cells #[Value.slice (some { block:=b,off:=off }) n c,u] 25)):=(Below.refl _ w).alloc (Nat.le_refl _) _
 generalize w.alloc (Obj.cells #[Value.slice (some { block:=b,off:=off }) n c,u] 25)=w1 at *
 go_loopw [1,5] (fun x v wr=>∃ (a:Int) (l:List Int),x=.int .i64 a∧a<n∧l++upI ps a=upI ps a0∧wr.ownsRow w1.heap.size 3 1 v l.length (l.map (Value.int .i64))∧Below w1.heap.size w1 wr) (fun x _ _=>(intOf x+1).toNat)
 case atStart=>exact ⟨a0,[],rfl,ha,rfl,World.ownsRow_nil _ _ _ _,Below.refl _ _⟩
 case round =>
  obtain ⟨a,l,rfl,hal,hl,hown,hnx⟩:=hrel;have hll:l.length≤n:=by
   have h1:=congrArg List.length hl;have h2:=upI_len ps a0;rw [List.length_append] at h1;omega
  have hr2:=(hnx.cell (p:=⟨w.heap.size,0,none⟩) (by simp; omega)).trans hz2
  go_wp2_with (first
   | (at_builtin; refine wpList_append_own _ rfl _ _ 26 rfl w1.heap.size 3 i0 (.int .i64 0) 1 8 Tryz.underlying26 hi hz0 hz1 hz2' rfl (by decide) _ _ _ rfl (hown.alloc _) ⟨wr.heap.size,0,none⟩ 1 1 [.int .i64 a] rfl rfl ?c1 ?c2 ?c3 ?c4 ?c5 ?_)
   | (go_at_call 277; refine (rev hown hnx (by omega)).mono ?_; rintro e w3 ⟨rfl,hown3,hnx3⟩)
   | go_in)
  case c1 =>
   intro j u hj
   match j,hj with
   | 0,hj=>simp at hj; subst hj; simp [Addr.add]
  case c2=>intro u hu; simp at hu; subst hu; rfl
  case c3=>unfold maxLen; omega
  case c4=>omega
  case c5=>have:=hnx.size; simp; omega
  ·intro v' w2 hown' hgrow hne;have h0:0≤a:=by assumption
   obtain ⟨k,rfl⟩:=Int.eq_ofNat_of_zero_le h0;have hnx1:Below w1.heap.size w1 w2:=(hnx.alloc (by have:=hnx.size; omega) _).grown hgrow (by have:=hnx.size; simp; omega) (fun q hq=>(hown.lt q hq).1)
   have hr3:=(hnx1.cell (p:=⟨w.heap.size,0,none⟩) (by simp; omega)).trans hz2;have hr4:=(hnx1.cell (p:=⟨b,off+k * 4+1,none⟩) (by simp; omega)).trans (hcc k (by omega));have hup:=upI_up (ps:=ps) h0 (by have:=hp k (by omega); simpa using this);rw [hup,Int.toNat_natCast] at hl;clear hgrow hown hnx hne
   go_wp2
   refine ⟨⟨ps.getD k 0,l++[(k:Int)],rfl,by have:=hp k (by omega); omega,by rw [List.append_assoc]; exact hl,by simpa [hsz] using hown',hnx1⟩,?_⟩;have:=hp k (by omega)
   simp at this;simp [intOf];omega
  ·go_ret
   have h0:a<0:=by assumption
   rw [upI_neg h0,List.append_nil] at hl;rw [←hl];exact ⟨_,rfl,own_le hown3 (by omega),hbel.trans (hnx3.mono (by omega))⟩
end Go.Proofs.YtainalmfffjnjaaGreatDoor.line
namespace Go.AM
open Go Go.Proofs Go.RowKit
abbrev Ty.pars (t:Ty):List Int:=t.nodes.map NT.par
theorem pars_getD (t:Ty) {j:Nat} (h:j<t.nodes.length):t.pars.getD j 0=(t.nd j).par:=by simp [Ty.pars,Ty.nd,h]
theorem rvd_pars {c:Addr→Option Value} {ps:Addr→Prop} {l:List NT} {v:Value} (h:RVd c ps (nts l) v) :
  ∃ A cap,v=.slice A l.length cap∧l.length≤cap∧cap≤maxLen∧(l≠[]→∃ a,A=some a)∧∀ a,A=some a→∀ i (hi:i<l.length),c (a.add (i * 4))=some (.string l[i].name)∧c (a.add (i * 4+1))=some (.int .i64 l[i].par):=by
 unfold nts at h;generalize hes:l.map NT.cells=es at h;cases h with
 | @sl _ _ A cap u hcap hmax hsz hA hc hr =>
  have hl:es.length=l.length:=by rw [←hes]; simp
  refine ⟨A,cap,by rw [hl],by omega,hmax,fun hne=>hA (by intro e; rw [e] at hl; exact hne (List.length_eq_zero_iff.1 hl.symm)),fun a ha i hi=>⟨?_,?_⟩⟩
  ·have g:=(hc a ha i 0 (by omega) (by decide)).2;have r:=hr i 0 (by omega) (by rw [hsz _ (List.getElem_mem _)]; decide);have e1:es[i][0]'(by rw [hsz _ (List.getElem_mem _)]; decide)=D.raw (.string l[i].name):=by
    subst hes;simp
   rw [e1] at r;have e2:u i 0=.string l[i].name:=by
    generalize hu:u i 0=x at r;cases r;rfl
   rw [←e2]; exact g
  ·have g:=(hc a ha i 1 (by omega) (by decide)).2;have r:=hr i 1 (by omega) (by rw [hsz _ (List.getElem_mem _)]; decide);have e1:es[i][1]'(by rw [hsz _ (List.getElem_mem _)]; decide)=D.raw (.int .i64 l[i].par):=by
    subst hes;simp
   rw [e1] at r;have e2:u i 1=.int .i64 l[i].par:=by
    generalize hu:u i 1=x at r;cases r;rfl
   rw [←e2]; exact g
theorem line_c (t:Ty) (ht:t.nodes.length≤1000000) (a:Int) (h0:0≤a) (ha:a<t.nodes.length) (hp:∀ j,j<t.nodes.length→(t.nd j).par<j) (tok:Tks) (nt:Nat):DCall Tryz.prog 236 [t.av,I a] tok nt (.d (ints (upI t.pars a).reverse)) tok nt:=by
 intro box nb;refine ⟨Enters.mk Tryz.func236 rfl (by kernel_rfl),fun G w vals hm hr=>?_⟩;obtain ⟨hlen,hrv⟩:=hr
 match vals,hlen with
 | [v,x],_ =>
  have h0:=hrv 0 (by simp) (by simp);have h1:=hrv 1 (by simp) (by simp);simp only [List.getElem_cons_zero,List.getElem_cons_succ] at h0 h1;cases h1 with
  | d h1 =>
  cases h1 with
  | raw h1 =>
  cases h0 with
  | @agg _ vs hl h2 h3 =>
   match vs,hl with
   | [v1,v2],_ =>
    have h4:=h2 0 (by simp) (by simp);simp only [List.getElem_cons_zero] at h4;cases h4 with
    | d h4 =>
     obtain ⟨A,cap,rfl,hcap,hmax,hA,hc⟩:=rvd_pars h4;have e:t.nodes≠[]:=by intro e; rw [e] at ha; simp at ha; omega
     obtain ⟨a1,rfl⟩:=hA e;have hp0:0<t.nodes.length:=List.length_pos_iff.2 e
     have hc':=hc a1 rfl
     have hs:a1.spot=none:=by
      cases hsp:a1.spot with
      | none=>rfl
      | some q =>
       exfalso
       have:=(hc' 0 hp0).1
       simp only [World.cell?,Addr.add,hsp,Option.isSome_some, ↓reduceIte] at this;split at this <;> simp at this
     obtain ⟨b,off,sp⟩:=a1;simp only at hs;subst hs;have hcc:∀ j,j<t.nodes.length→w.cell? ⟨b,off+j * 4+1,none⟩=some (.int .i64 (t.pars.getD j 0)):=fun j hj=>by
      have h1:=(hc' j hj).2;rw [pars_getD t hj,nd_at hj];unfold Addr.add at h1;split at h1
      ·rename_i e; omega
      ·rw [show off+j * 4+1=off+(j * 4+1) by omega]; exact h1
     have hbw:b<w.heap.size:=lt_of_cell (hcc 0 hp0)
     refine (YtainalmfffjnjaaGreatDoor.line.any b off t.nodes.length cap v2 a t.pars w (by simp) ht (by omega) (fun j hj=>by rw [pars_getD t hj]; exact hp j hj) hbw hcc).mono ?_;rintro e w' ⟨v,rfl,hown,hb⟩;refine ⟨v,_,_,G,rfl,⟨rfl,rfl⟩,rfl,relM_below hm hb,.d (rvd_owns hm (by rw [List.length_reverse]; exact hown)),le_below hm hb,fun k hk=>⟨hk,rfl⟩⟩
theorem Ty.Fit.hM {t:Ty} (h:t.Fit) (i:Nat):(t.nd i).own.length≤1000:=by
 by_cases hi:i<t.nodes.length
 ·rw [nd_at hi]; exact (h.a _ (List.getElem_mem hi)).1
 ·simp [Ty.nd,List.getElem?_eq_none (Nat.le_of_not_lt hi)];exact Nat.zero_le _
theorem given1_c (t:Ty) (n:Int) (box:Bxs) (nb k:Nat) (tok:Tks) (nt:Nat) (h1:box k=some [[.d (nts t.nodes),.d (ets t.edges)]]) :
  ACalls Tryz.prog 235 [I n,.ptr k 0 0] ⟨box,nb,tok,nt⟩ fun v m=>v=B (!insB t n)∧m=⟨box,nb,tok,nt⟩:=by
 by_cases h0:n<0
 ·rw [show insB t n=false by simp only [insB,decide_eq_false_iff_not]; omega];refine sI Tryz.func235 Tryz.ntmps235 fun hbox htok=>?_
  have k1n:=key_lt hbox h1;repeat (first|simp [lb_out k1n,h1,h0]|refine sR ?_)
  refine sT (sH hbox htok ?_);simp [packA]
 ·by_cases h2:(t.nodes.length:Int)≤n
  ·rw [show insB t n=false by simp only [insB,decide_eq_false_iff_not]; omega];refine sI Tryz.func235 Tryz.ntmps235 fun hbox htok=>?_
   have k1n:=key_lt hbox h1;repeat (first|simp [lb_out k1n,h1,h0,h2]|refine sR ?_)
   refine sT (sH hbox htok ?_);simp [packA]
  ·rw [show insB t n=true by simp only [insB,decide_eq_true_eq]; omega];refine sI Tryz.func235 Tryz.ntmps235 fun hbox htok=>?_
   have k1n:=key_lt hbox h1;repeat (first|simp [lb_out k1n,h1,h0,h2]|refine sR ?_)
   refine sT (sH hbox htok ?_);simp [packA]
def givE (t:Ty) (l:List Int):Int:=if tyE t=0 then (if anyB (fun a=>!insB t a) l=true then 6 else 0) else tyE t
theorem given_c (t:Ty) (ht:t.Fit) (l:List Int) (hl:l.length≤1000000) (tok:Tks) (nt:Nat):DCall Tryz.prog 171 [t.av,.d (ints l)] tok nt (I (givE t l)) tok nt:=by
 intro box nb;have h1:=valid_c4 t ht ht.hM;obtain ⟨N,hN⟩:∃ N,givE t l=N:=⟨_,rfl⟩
 rw [hN];unfold givE at hN;generalize tyE t=E at *;generalize tyN t=Z at *;refine sI Tryz.func171 Tryz.ntmps171 fun hbox htok=>?_
 repeat (first|simp|refine sR ?_)
 refine Stop.of_d (h1 _ _) ?_;repeat (first|simp|refine sR ?_)
 by_cases e1:E=0
 ·rw [if_pos e1] at hN;obtain ⟨p,hpp⟩:∃ p:Int→Bool,(fun a=>!insB t a)=p:=⟨_,rfl⟩
  have h2:=fun y box nb k hbk=>given1_c t y box nb k tok nt hbk
  have hpy:∀ y:Int,(!insB t y)=p y:=fun y=>by rw [←hpp]
  simp only [hpy] at h2;rw [hpp] at hN;refine sC ?_;simp [e1];repeat (first|simp|refine sR ?_)
  refine Stop.of_b (containsFunc_c l 235 [.ptr (nb+2) 0 0] p hl _ _ _ _ (fun c hc=>by rw [List.mem_singleton.1 hc]; simp [lb_at]) (fun y hy box' nb' he=>h2 y box' nb' _ (he _ _ (by simp [lb_at])))) ?_;simp;cases e2:anyB p l
  ·rw [e2,if_neg (by simp)] at hN;repeat (first|simp|refine sR ?_)
   refine sC ?_;repeat (first|simp|refine sR ?_)
   refine sT (sH hbox htok ?_);simp [packA,←hN]
  ·rw [e2,if_pos rfl] at hN;repeat (first|simp|refine sR ?_)
   refine sC ?_;repeat (first|simp|refine sR ?_)
   refine sT (sH hbox htok ?_);simp [packA,←hN]
 ·rw [if_neg e1] at hN;have b1:(E != 0)=true:=by simp [e1]
  refine sC ?_;simp [b1];repeat (first|simp|refine sR ?_)
  refine sT (sH hbox htok ?_);simp [packA,←hN]
def isB (t:Ty) (a b:Int):Bool:=decide (b∈upI t.pars a)
theorem is_c (t:Ty) (ht:t.Fit) (a b:Int) (h0:0≤a) (ha:a<t.nodes.length) (hp:∀ j,j<t.nodes.length→(t.nd j).par<j) (tok:Tks) (nt:Nat):DCall Tryz.prog 172 [t.av,I a,I b] tok nt (B (isB t a b)) tok nt:=by
 intro box nb;have hc:=line_c t (by have:=ht.n; omega) a h0 ha hp;have hlen:=upI_len t.pars a;have htn:=ht.n;obtain ⟨N,hN⟩:∃ N,isB t a b=N:=⟨_,rfl⟩
 rw [hN];unfold isB at hN;have hN2:decide (b∈(upI t.pars a).reverse)=N:=by rw [←hN]; simp
 have hl2:(upI t.pars a).reverse.length≤1000000:=by rw [List.length_reverse]; omega
 generalize (upI t.pars a).reverse=L at *;have hk:=contains_c L b hl2;rw [hN2] at hk;refine sI Tryz.func172 Tryz.ntmps172 fun hbox htok=>?_
 repeat (first|simp|refine sR ?_)
 refine Stop.of_d (hc _ _) ?_;repeat (first|simp|refine sR ?_)
 refine Stop.of_d (hk _ _) ?_;repeat (first|simp|refine sR ?_)
 refine sT (sH hbox htok ?_);simp [packA]
theorem tyE_par {t:Ty} (h:tyE t=0):∀ j,j<t.nodes.length→(t.nd j).par<j:=by
 unfold tyE at h;split at h
 ·cases h
 ·split at h
  ·cases h
  ·split at h
   ·cases h
   ·split at h
    ·rename_i h1;exact absurd h h1
    ·rename_i h1;exact fun j hj=>nodE_par (firstE_allZ _ (Decidable.not_not.1 h1) j hj)
def fitB (t:Ty) (e a b:Int):Bool :=
 if givE t [a,b]=0 then (if 0≤e then (if e<t.edges.length then (if isB t a (t.ed e.toNat).fr=true then isB t b (t.ed e.toNat).to else false) else false) else false) else false
theorem givE_in {t:Ty} {l:List Int} (h:givE t l=0):tyE t=0∧∀ a∈l,0≤a∧a<t.nodes.length:=by
 unfold givE at h;split at h
 ·rename_i h1;split at h
  ·cases h
  ·rename_i h2;refine ⟨h1,fun a ha=>?_⟩;simp only [anyB,List.any_eq_true,not_exists,not_and] at h2;have:=h2 a ha
   simpa [insB] using this
 ·rename_i h1;exact absurd h h1
theorem fits_c4 (t:Ty) (ht:t.Fit) (e a b:Int) (tok:Tks) (nt:Nat):DCall Tryz.prog 137 [t.av,I e,I a,I b] tok nt (B (fitB t e a b)) tok nt:=by
 intro box nb;have h1:=given_c t ht [a,b] (by simp);have hin:=@givE_in t [a,b];obtain ⟨N,hN⟩:∃ N,fitB t e a b=N:=⟨_,rfl⟩
 rw [hN];unfold fitB at hN;generalize givE t [a,b]=E at *;refine sI Tryz.func137 Tryz.ntmps137 fun hbox htok=>?_
 repeat (first|simp|refine sR ?_)
 refine ⟨rfl,?_⟩;refine Stop.data ?_;refine Stop.of_d (h1 _ _) ?_;simp;by_cases e1:E=0
 ·obtain ⟨htE,hin⟩:=hin e1;have ha:=hin a (by simp);have hb:=hin b (by simp);rw [if_pos e1] at hN;by_cases e2:0≤e
  ·have e2':¬ e<0:=by omega
   rw [if_pos e2] at hN;by_cases e3:e<t.edges.length
   ·have e3':¬ (t.edges.length:Int)≤e:=by omega
    rw [if_pos e3] at hN;obtain ⟨k,rfl⟩:=Int.eq_ofNat_of_zero_le e2;have hk:k<t.edges.length:=by omega
    rw [Int.toNat_natCast,ed_at hk] at hN;have c1:=is_c t ht a t.edges[k].fr ha.1 ha.2 (tyE_par htE);have c2:=is_c t ht b t.edges[k].to hb.1 hb.2 (tyE_par htE);repeat (first|simp [e1,e2',e3',hk]|refine sR ?_)
    refine sC ?_;simp [e1,e2',e3',hk];repeat (first|simp [hk]|refine sR ?_)
    refine Stop.of_d (c1 _ _) ?_;simp;cases f1:isB t a t.edges[k].fr
    ·rw [f1,if_neg (by simp)] at hN;repeat (first|simp|refine sR ?_)
     refine sT (sH hbox htok ?_);simp [packA,←hN]
    ·rw [f1,if_pos rfl] at hN;repeat (first|simp [hk]|refine sR ?_)
     refine Stop.of_d (c2 _ _) ?_;repeat (first|simp|refine sR ?_)
     refine sT (sH hbox htok ?_);simp [packA,←hN]
   ·have e3':(t.edges.length:Int)≤e:=by omega
    rw [if_neg e3] at hN;repeat (first|simp [e1,e2',e3']|refine sR ?_|refine sC ?_)
    refine sT (sH hbox htok ?_);simp [packA,←hN]
  ·have e2':e<0:=by omega
   rw [if_neg e2] at hN;repeat (first|simp [e1,e2']|refine sR ?_|refine sC ?_)
   refine sT (sH hbox htok ?_);simp [packA,←hN]
 ·rw [if_neg e1] at hN;have b1:(E != 0)=true:=by simp [e1]
  repeat (first|simp [b1]|refine sR ?_|refine sC ?_)
  refine sT (sH hbox htok ?_);simp [packA,←hN]
def leafB (t:Ty) (k:Int):Bool:=!anyB (fun n=>n.par==k) t.nodes
def allP {α:Type} (p:α→Bool) (l:List α):Bool:=l.all p
theorem all_no {α:Type} {p:α→Bool} {l:List α} {i:Nat} (h:i<l.length) (hp:p l[i]=false):allP p l=false:=by
 unfold allP;rw [←Bool.not_eq_true,List.all_eq_true];intro h2;have:=h2 _ (List.getElem_mem h)
 rw [hp] at this;cases this
theorem all_more {α:Type} {p:α→Bool} {l:List α} {i:Nat} (h:i<l.length) (h1:allP p (l.take i)=true) (hp:p l[i]=true):allP p (l.take (i+1))=true:=by
 unfold allP at *;rw [List.take_succ_eq_append_getElem h,List.all_append,h1];simp [hp]
def lvN (t:Ty) (n:Int):Bool:=if (t.nodes.length:Int)≤n then false else leafB t n
def lvE (t:Ty) (g:Gr) (e:E):Bool:=fitB t e.ty (g.nodes.getD e.fr.toNat 0) (g.nodes.getD e.to.toNat 0)
def lvsB (t:Ty) (g:Gr):Bool:=if allP (lvN t) g.nodes=true then allP (lvE t g) g.edges else false
structure Xt where
 m:Mo
 g:Gr
structure Co where
 name:ByteArray
 kind:Int
 g:Gr
 exts:List Xt
abbrev Xt.cells (x:Xt):List D:=[ints x.m.nodes,ints x.m.edges,ints x.g.nodes,AM.edges x.g.edges]
abbrev xts (l:List Xt):D:=.sl 4 (l.map Xt.cells)
abbrev Xt.av (x:Xt):AV:=.agg [.d (ints x.m.nodes),.d (ints x.m.edges),.d (ints x.g.nodes),.d (AM.edges x.g.edges)]
abbrev Co.row (c:Co):List AV:=[Sb c.name,I c.kind,.d (ints c.g.nodes),.d (AM.edges c.g.edges),.d (xts c.exts)]
abbrev Co.av (c:Co):AV:=.agg c.row
structure Xt.Fit (x:Xt):Prop where
 m:x.m.Fit
 g:x.g.Fit
structure Co.Fit (c:Co):Prop where
 name:c.name.size≤200000000000000
 g:c.g.Fit
 n:c.exts.length≤1000000
 exts:∀ x∈c.exts,x.Fit
def lrgB (g:Gr):Bool:=if 6<g.nodes.length then true else decide (8<g.edges.length)
def xtE (p:Gr) (x:Xt):Int:=if validM p x.g x.m≠0 then validM p x.g x.m else if lrgB x.g=true then 3 else if injM p x.g x.m=true then 0 else 1
def xtAt (c:Co) (i:Nat):Int:=match c.exts[i]? with|some x=>xtE c.g x|none=>0
theorem xtAt_at {c:Co} {i:Nat} (h:i<c.exts.length):xtAt c i=xtE c.g c.exts[i]:=by simp [xtAt,h]
def kdE (c:Co):Int :=
 if c.kind=1 then if c.exts=[] then 0 else 1 else if c.kind=2 then if c.exts=[] then 7 else if 6<c.exts.length then 3 else 0 else 1
def shpE (c:Co):Int :=
 if nameB c.name=false then 2 else if kdE c≠0 then kdE c else if validG c.g≠0 then validG c.g else if lrgB c.g=true then 3 else firstE (xtAt c) c.exts.length
def lvX (t:Ty) (c:Co):Bool:=if lvsB t c.g=true then allP (fun x:Xt=>lvsB t x.g) c.exts else false
def cnE (t:Ty) (c:Co):Int:=if tyE t≠0 then tyE t else if shpE c≠0 then shpE c else if lvX t c=true then 0 else 13
theorem shpE_zero {c:Co} (h:shpE c=0):nameB c.name=true∧kdE c=0∧validG c.g=0∧lrgB c.g=false∧∀ x∈c.exts,validM c.g x.g x.m=0∧lrgB x.g=false∧injM c.g x.g x.m=true:=by
 unfold shpE at h;split at h
 ·cases h
 rename_i h1;split at h
 ·rename_i h2; exact absurd h h2
 rename_i h2;split at h
 ·rename_i h3; exact absurd h h3
 rename_i h3;split at h
 ·cases h
 rename_i h4;refine ⟨by simpa using h1,by simpa using h2,by simpa using h3,by simpa using h4,fun x hx=>?_⟩;obtain ⟨i,hi,rfl⟩:=List.getElem_of_mem hx;have h5:=firstE_allZ _ h i hi;rw [xtAt_at hi] at h5;unfold xtE at h5;split at h5
 ·rename_i h6; exact absurd h5 h6
 rename_i h6;split at h5
 ·cases h5
 rename_i h7;split at h5
 ·rename_i h8; exact ⟨by simpa using h6,by simpa using h7,h8⟩
 ·cases h5
def valE (A:List At) (vals:List Int) (i:Nat):Int:=if vals.getD i 0<(A.getD i ⟨eB,0,0,[]⟩).lo∨(A.getD i ⟨eB,0,0,[]⟩).hi<vals.getD i 0 then 6 else 0
def hnodE (t:Ty) (A:List At) (k:Int) (vals:List Int):Int :=
 if (t.nodes.length:Int)≤k then 6 else if (t.nd k.toNat).abs=true then 13 else if vals.length≠A.length then 20 else firstE (valE A vals) A.length
def stNdE (A:List At) (vals:List Int) (nb:Nat) (box:Bxs) (tok:Tks) (nt:Nat) (i:Nat):AState :=
 ⟨tl [(33,.d (atts A)),(34,I A.length),(35,I i),(2,.d (ints vals))],lb nb box [],tok,nt⟩
set_option maxRecDepth 100000 in
theorem hnode_c (t:Ty) (A:List At) (hA:A.length≤1000000) (k:Int) (hk:0≤k) (vals:List Int) (tok:Tks) (nt:Nat)
  (hat:k<(t.nodes.length:Int)→(t.nd k.toNat).abs=false→DCall Tryz.prog 265 [t.av,I k] tok nt (.tup [.d (atts A),I 0]) tok nt) :
  DCall Tryz.prog 229 [t.av,I k,.d (ints vals)] tok nt (I (hnodE t A k vals)) tok nt:=by
 intro box nb;obtain ⟨Res,hRes⟩:∃ Res,hnodE t A k vals=Res:=⟨_,rfl⟩
 rw [hRes];unfold hnodE at hRes;refine sI Tryz.func229 Tryz.ntmps229 fun hbox htok=>?_
 by_cases c1:(t.nodes.length:Int)≤k
 ·have b1:decide ((t.nodes.length:Int)≤k)=true:=by simpa using c1
  rw [if_pos c1] at hRes;subst hRes;try (simp [c1,b1])
  repeat (first|(refine sR ?_; simp [c1,b1])|(refine sC ?_; simp [c1,b1])|(refine sX ?_; simp only [AU, ↓reduceIte]))
  refine sT (sH hbox htok ?_);simp [packA]
 rw [if_neg c1] at hRes;have b1:decide ((t.nodes.length:Int)≤k)=false:=by simpa using c1
 have hk1:k.toNat<t.nodes.length:=by omega
 have hk2:k<(t.nodes.length:Int):=by omega
 have hnd:t.nd k.toNat=t.nodes[k.toNat]:=by simp [Ty.nd,hk1]
 rw [hnd] at hRes hat;cases e1:t.nodes[k.toNat].abs
 ·rw [e1] at hRes;simp only [Bool.false_eq_true, ↓reduceIte] at hRes;have hat:=hat hk2 e1;try (simp [c1,b1,hk,hk1,hk2,e1])
  repeat (first|(refine sR ?_; simp [c1,b1,hk,hk1,hk2,e1])|(refine sC ?_; simp [c1,b1,hk,hk1,hk2,e1])|(refine sX ?_; simp only [AU, ↓reduceIte]))
  refine Stop.of_d (hat) ?_;simp;by_cases c2:vals.length=A.length
  ·have b2:((vals.length:Int) != (A.length:Int))=false:=by simp [c2]
   rw [if_neg (fun h=>h c2)] at hRes;try (simp [b2,c2])
   repeat (first|(refine sR ?_; simp [b2,c2])|(refine sC ?_; simp [b2,c2])|(refine sX ?_; simp only [AU, ↓reduceIte]))
   refine sN ?_;refine AL.loopT (stNdE A vals nb box tok nt) (fun i=>i≤A.length∧firstE (valE A vals) i=0) (fun i=>A.length - i) 0 ⟨Nat.zero_le _,rfl⟩ wkA ?_;rintro i S ⟨hi,h0⟩ hS;simp only [stNdE] at hS;subst hS;have hw:=sW (i:=i) (by omega);repeat (first|simp|refine sR ?_|refine sC ?_)
   refine ⟨fun hlt=>?_,fun hge=>?_⟩
   ·have hv:i<vals.length:=by omega
    have hve:valE A vals i=if vals[i]<A[i].lo∨A[i].hi<vals[i] then 6 else 0:=by simp [valE,hv,hlt]
    by_cases c3:vals[i]<A[i].lo
    ·have b3:decide (vals[i]<A[i].lo)=true:=by simpa using c3
     rw [if_pos (.inl c3)] at hve;rw [firstE_stop h0 (by rw [hve]; decide) _ hlt,hve] at hRes;subst hRes;try (simp [hlt,hv,c3,b3])
     repeat (first|(refine sR ?_; simp [hlt,hv,c3,b3])|(refine sC ?_; simp [hlt,hv,c3,b3])|(refine sX ?_; simp only [AU, ↓reduceIte]))
     refine sT (sH hbox htok ?_);simp [packA]
    ·have b3:decide (vals[i]<A[i].lo)=false:=by simpa using c3
     by_cases c4:A[i].hi<vals[i]
     ·have b4:decide (A[i].hi<vals[i])=true:=by simpa using c4
      rw [if_pos (.inr c4)] at hve;rw [firstE_stop h0 (by rw [hve]; decide) _ hlt,hve] at hRes;subst hRes;try (simp [hlt,hv,c3,b3,c4,b4])
      repeat (first|(refine sR ?_; simp [hlt,hv,c3,b3,c4,b4])|(refine sC ?_; simp [hlt,hv,c3,b3,c4,b4])|(refine sX ?_; simp only [AU, ↓reduceIte]))
      refine sT (sH hbox htok ?_);simp [packA]
     ·have b4:decide (A[i].hi<vals[i])=false:=by simpa using c4
      rw [if_neg (fun h=>h.elim c3 c4)] at hve;try (simp [hlt,hv,c3,b3,c4,b4,hw])
      repeat (first|(refine sR ?_; simp [hlt,hv,c3,b3,c4,b4,hw])|(refine sC ?_; simp [hlt,hv,c3,b3,c4,b4,hw])|(refine sX ?_; simp only [AU, ↓reduceIte]))
      refine sE ?_;exact ⟨i+1,⟨hlt,by simp only [firstE,h0, ↓reduceIte]; exact hve⟩,by omega,wkA⟩
   ·refine sX ?_;simp only [AU, ↓reduceIte];have:i=A.length:=by omega
    subst this;rw [h0] at hRes;subst hRes;try (simp)
    repeat (first|(refine sR ?_; simp)|(refine sC ?_; simp)|(refine sX ?_; simp only [AU, ↓reduceIte]))
    refine sT (sH hbox htok ?_);simp [packA]
  ·have b2:((vals.length:Int) != (A.length:Int))=true:=by simpa using fun h=>c2 (by omega)
   rw [if_pos c2] at hRes;subst hRes;try (simp [b2,c2])
   repeat (first|(refine sR ?_; simp [b2,c2])|(refine sC ?_; simp [b2,c2])|(refine sX ?_; simp only [AU, ↓reduceIte]))
   refine sT (sH hbox htok ?_);simp [packA]
 ·rw [e1,if_pos rfl] at hRes;subst hRes;try (simp [c1,b1,hk,hk1,hk2,e1])
  repeat (first|(refine sR ?_; simp [c1,b1,hk,hk1,hk2,e1])|(refine sC ?_; simp [c1,b1,hk,hk1,hk2,e1])|(refine sX ?_; simp only [AU, ↓reduceIte]))
  refine sT (sH hbox htok ?_);simp [packA]
variable {P:Program}
section
variable (R:AV→AV→Prop)
def CvR (r r':List AV):Prop:=r.length=r'.length∧∀ i (h1:i<r.length) (h2:i<r'.length),R r[i] r'[i]
def CvRs (r r':List (List AV)):Prop:=r.length=r'.length∧∀ i (h1:i<r.length) (h2:i<r'.length),CvR R r[i] r'[i]
def CvL:List (Nat × AV)→List (Nat × AV)→Prop
 | [],[]=>True
 | (i,x)::a,(j,y)::b=>i=j∧R x y∧CvL a b
 | _,_=>False
def CvB:List (Nat × List (List AV))→List (Nat × List (List AV))→Prop
 | [],[]=>True
 | (i,x)::a,(j,y)::b=>i=j∧CvRs R x y∧CvB a b
 | _,_=>False
end
section
variable {R:AV→AV→Prop}
theorem CvL.at (h0:R .bot .bot):∀ {l l':List (Nat × AV)},CvL R l l'→∀ i,R (tl l i) (tl l' i)
 | [],[],_,i=>h0
 | (i,x)::a,(j,y)::b,h,q=>by
  obtain ⟨rfl,h1,h2⟩:=h;rw [tl_cons,tl_cons];split
  ·exact h1
  ·exact CvL.at h0 h2 q
 | [],_::_,h,_=>h.elim
 | _::_,[],h,_=>h.elim
theorem CvB.at:∀ {l l':List (Nat × List (List AV))},CvB R l l'→∀ i,(lk l i=none∧lk l' i=none)∨∃ r r',lk l i=some r∧lk l' i=some r'∧CvRs R r r'
 | [],[],_,i=>.inl ⟨rfl,rfl⟩
 | (i,x)::a,(j,y)::b,h,q=>by
  obtain ⟨rfl,h1,h2⟩:=h;rw [lk_cons,lk_cons];split
  ·exact .inr ⟨x,y,rfl,rfl,h1⟩
  ·exact CvB.at h2 q
 | [],_::_,h,_=>h.elim
 | _::_,[],h,_=>h.elim
theorem CvRs.flat:∀ {r r':List (List AV)},CvRs R r r'→CvR R r.flatten r'.flatten
 | [],[],_=>⟨rfl,fun i h=>by simp at h⟩
 | x::a,y::b,h=>by
  have h0:=h.2 0 (by simp) (by simp);have ih:CvR R a.flatten b.flatten:=CvRs.flat ⟨by simpa using h.1,fun i h1 h2=>h.2 (i+1) (by simpa using h1) (by simpa using h2)⟩
  simp only [List.getElem_cons_zero] at h0;refine ⟨by simp [h0.1,ih.1],fun i h1 h2=>?_⟩;have hl:=h0.1;have hi2:=ih.1;simp only [List.flatten_cons] at h1 h2 ⊢;rw [List.length_append] at h1 h2;by_cases hi:i<x.length
  ·have e1:(x++a.flatten)[i]'(by rw [List.length_append]; omega)=x[i]:=List.getElem_append_left hi
   have e2:(y++b.flatten)[i]'(by rw [List.length_append]; omega)=y[i]'(by omega):=List.getElem_append_left (by omega)
   rw [e1,e2];exact h0.2 i hi _
  ·have e1:(x++a.flatten)[i]'(by rw [List.length_append]; omega)=a.flatten[i - x.length]'(by omega):=List.getElem_append_right (by omega)
   have e2:(y++b.flatten)[i]'(by rw [List.length_append]; omega)=b.flatten[i - y.length]'(by omega):=List.getElem_append_right (by omega)
   rw [e1,e2];have:=ih.2 (i - x.length) (by omega) (by omega)
   simp only [hl] at this ⊢;exact this
 | [],_::_,h=>by have:=h.1; simp at this
 | _::_,[],h=>by have:=h.1; simp at this
theorem CvR.vs {G:Gh} {w:World} (hto:∀ x y v,R x y→RV G w x v→RV G w y v) {xs ys:List AV} {vs:List Value} (h:CvR R xs ys) (hr:RVs G w xs vs):RVs G w ys vs :=
 ⟨h.1.symm.trans hr.1,fun i h1 h2=>hto _ _ _ (h.2 i (by rw [h.1]; exact h1) h1) (hr.2 i _ h2)⟩
theorem RelM.rows {G:Gh} {w:World} {base nb nt:Nat} {out:Bxs} {loc loc':List (Nat × List (List AV))} {tok:Nat→Bool} (hto:∀ x y v,R x y→RV G w x v→RV G w y v) (hb:CvB R loc loc')
  (hm:RelM G ⟨lb base out loc,nb,tok,nt⟩ w):RelM G ⟨lb base out loc',nb,tok,nt⟩ w:=by
 constructor
 case box =>
  intro k rows b z hk hbx;simp only at hk;by_cases hkb:k<base
  ·rw [lb_out hkb] at hk;exact hm.box k rows b z (by simp only; rw [lb_out hkb]; exact hk) hbx
  ·have hkk:k=base+(k - base):=by omega
   rw [hkk,lb_at] at hk;rcases hb.at (k - base) with ⟨_,h2⟩|⟨r0,r',h1,h2,h3⟩
   ·rw [h2] at hk; cases hk
   ·rw [h2] at hk;cases hk;obtain ⟨g1,cs,e,g2,g3,g4,g5⟩:=hm.box k r0 b z (by simp only; rw [hkk,lb_at]; exact h1) hbx;refine ⟨g1,cs,e,g2,fun q hq=>?_,h3.flat.vs hto g4,g5⟩;obtain ⟨i,hi,rfl⟩:=List.getElem_of_mem hq;have hi0:i<r0.length:=by rw [h3.1]; exact hi
    rw [←(h3.2 i hi0 hi).1];exact g3 _ (List.getElem_mem _)
 case nobox =>
  intro k hk;refine hm.nobox k ?_;simp only at hk ⊢;by_cases hkb:k<base
  ·rw [lb_out hkb] at hk ⊢; exact hk
  ·have hkk:k=base+(k - base):=by omega
   rw [hkk,lb_at] at hk ⊢;rcases hb.at (k - base) with ⟨h1,_⟩|⟨r0,r',_,h2,_⟩
   ·exact h1
   ·rw [h2] at hk; cases hk
 case inj=>exact hm.inj
 case nb =>
  intro k hk;have h0:=hm.nb k hk;simp only at h0 ⊢;by_cases hkb:k<base
  ·rw [lb_out hkb] at h0 ⊢; exact h0
  ·have hkk:k=base+(k - base):=by omega
   rw [hkk,lb_at] at h0 ⊢;rcases hb.at (k - base) with ⟨_,h2⟩|⟨r0,r',h1,_,_⟩
   ·exact h2
   ·rw [h1] at h0; cases h0
 case nt=>exact hm.nt
 case toks=>exact hm.toks
 case tokb=>exact hm.tokb
 case tinj=>exact hm.tinj
 case tnt=>exact hm.tnt
 case glob=>exact hm.glob
 case fresh=>exact hm.fresh
end
inductive OpTo (t sz:Nat):AV→AV→Prop
 | bot {x}:OpTo t sz x .bot
 | same {x}:OpTo t sz x x
 | nil {n}:OpTo t sz (.osl n [] .full) (.stk t sz [])
theorem OpTo.rv {G:Gh} {w:World} {t sz:Nat} (ht:t<G.nt) (hk:G.tk t=some none) {x y:AV} {v:Value} (h:OpTo t sz x y) (hr:RV G w x v):RV G w y v:=by
 cases h with
 | bot=>exact .bot
 | same=>exact hr
 | nil =>
  cases hr with
  | osl _ ho =>
   obtain ⟨A,rfl,_⟩:=ho;refine .stk ⟨ht,A,0,rfl,Nat.le_refl _,Nat.zero_le _,fun x hx=>?_⟩;rw [hk] at hx;cases hx;rfl
theorem Trans.opn {cx:Cx} {nt0 nt:Nat} {l l':List (Nat × AV)} {out:Bxs} {loc loc':List (Nat × List (List AV))} {tok:Nat→Bool} (sz:Nat)
  (hl:CvL (OpTo nt sz) l l') (hb:CvB (OpTo nt sz) loc loc') :
  Trans cx nt0 ⟨tl l,lb cx.base out loc,tok,nt⟩ ⟨tl l',lb cx.base out loc',upd tok nt true,nt+1⟩:=by
 intro G0 w0 G a w he hn0 hS hL;have hm:=hS.mem;have hgnt:G.nt=nt:=hm.nt
 have hle:=Le.newtok (G:=G) (w:=w) none;have hm':=hm.newtok none (fun g h=>by cases h)
 have h1:nt<(G.newtok none).nt:=by simp only [Gh.newtok]; omega
 have h2:(G.newtok none).tk nt=some none:=by simp only [Gh.newtok]; rw [←hgnt,upd_same]
 refine ⟨G.newtok none,⟨hS.defers,hS.size,fun i=>(hl.at .bot i).rv h1 h2 ((hS.tmps i).mono hle),hm'.rows (fun x y v h hr=>h.rv h1 h2 hr) hb⟩,?_⟩;refine hL.step ⟨hle,fun k hkb hg=>⟨hg,?_⟩⟩;simp only;rw [lb_out hkb,lb_out hkb]
section
variable {t sz:Nat}
@[simp] theorem opTo_bot (x:AV):OpTo t sz x .bot:=.bot
@[simp] theorem opTo_same (x:AV):OpTo t sz x x:=.same
@[simp] theorem opTo_nil (n:Nat):OpTo t sz (.osl n [] .full) (.stk t sz []):=.nil
end
@[simp] theorem to_stk {p:Nat→Prop} {fz:Option (Nat × Nat × List (List D))} (t sz:Nat) (es:List (List D)):To p (fun _=>True) fz (.stk t sz es) (.stk t sz es):=.same (.stk trivial)
@[simp] theorem to_que {p:Nat→Prop} {fz:Option (Nat × Nat × List (List D))} (t sz:Nat) (es:List (List D)):To p (fun _=>True) fz (.que t sz es) (.que t sz es):=.same (.que trivial)
@[simp] theorem okIn_que {p q:Nat→Prop} {t sz:Nat} {es:List (List D)}:OkIn p q (.que t sz es)↔q t:=⟨fun h=>by cases h; assumption,.que⟩
@[simp] theorem okIn_stk {p q:Nat→Prop} {t sz:Nat} {es:List (List D)}:OkIn p q (.stk t sz es)↔q t:=⟨fun h=>by cases h; assumption,.stk⟩
theorem cvR_nil {R:AV→AV→Prop}:CvR R [] []:=⟨rfl,fun i h=>by simp at h⟩
theorem cvR_cons {R:AV→AV→Prop} {x y:AV} {a b:List AV} (h:R x y) (r:CvR R a b):CvR R (x::a) (y::b):=⟨by simp [r.1],fun i h1 h2=>by
 cases i with
 | zero=>exact h
 | succ i=>exact r.2 i (by simpa using h1) (by simpa using h2)⟩
theorem cvRs_one {R:AV→AV→Prop} {r r':List AV} (h:CvR R r r'):CvRs R [r] [r']:=⟨rfl,fun i h1 h2=>by
 have:i=0:=by simp at h1; omega
 subst this;exact h⟩
variable {P:Program}
inductive CellD (tok:Tks):AV→D→Prop
 | d {x}:CellD tok (.d x) x
 | osl {sz es o}:CellD tok (.osl sz es o) (.sl sz es)
 | stk {t sz es} (h:tok t=true):CellD tok (.stk t sz es) (.sl sz es)
def CellDs (tok:Tks):List AV→List D→Prop
 | [],[]=>True
 | x::a,y::b=>CellD tok x y∧CellDs tok a b
 | _,_=>False
theorem CellDs.at {tok:Nat→Bool}:∀ {a:List AV} {b:List D},CellDs tok a b→a.length=b.length∧∀ i (h1:i<a.length) (h2:i<b.length),CellD tok a[i] b[i]
 | [],[],_=>⟨rfl,fun i h=>by simp at h⟩
 | x::a,y::b,h=>by
  obtain ⟨h1,h2⟩:=CellDs.at h.2;refine ⟨by simp [h1],fun i g1 g2=>?_⟩;cases i with
  | zero=>exact h.1
  | succ i=>exact h2 i (by simpa using g1) (by simpa using g2)
 | [],_::_,h=>h.elim
 | _::_,[],h=>h.elim
inductive Lent (box:Bxs) (tok:Tks):AV→AV→Prop
 | same {x} (h:OkIn (fun _=>False) (fun _=>True) x):Lent box tok x x
 | stk {t sz es} (h:tok t=true):Lent box tok (.stk t sz es) (.d (.sl sz es))
 | ptr {k row ds} (hk:box k=some [row]) (h:CellDs tok row ds):Lent box tok (.ptr k 0 0) (.cptr ds 0)
 | fn {f} {caps caps':List AV} (hl:caps.length=caps'.length) (h:∀ i (h1:i<caps.length) (h2:i<caps'.length),Lent box tok caps[i] caps'[i]):Lent box tok (.fn f caps) (.fn f caps')
def LentL (box:Bxs) (tok:Tks):List AV→List AV→Prop
 | [],[]=>True
 | x::a,y::b=>Lent box tok x y∧LentL box tok a b
 | _,_=>False
theorem Lent.ext {box box':Bxs} {tok:Nat→Bool} (he:Ext box box') {x y:AV} (h:Lent box tok x y):Lent box' tok x y:=by
 induction h with
 | same h=>exact .same h
 | stk h=>exact .stk h
 | ptr hk h=>exact .ptr (he _ _ hk) h
 | fn hl _ ih=>exact .fn hl ih
theorem LentL.ext {box box':Bxs} {tok:Nat→Bool} (he:Ext box box'):∀ {a b:List AV},LentL box tok a b→LentL box' tok a b
 | [],[],_=>trivial
 | x::a,y::b,h=>⟨h.1.ext he,LentL.ext he h.2⟩
 | [],_::_,h=>h.elim
 | _::_,[],h=>h.elim
def Gh.lb (G:Gh) (b:Nat):Prop:=(∃ k sz,G.bx k=some (b,sz))∨∃ t,G.tk t=some (some b)∧G.kind b=.ex
def Gh.lt (G:Gh) (t:Nat):Prop:=∃ g,G.tk t=some (some g)∧G.kind g=.ex
open Classical in
noncomputable def Gh.lent (G:Gh):Gh:={ bx:=fun _=>none,kind:=fun b=>if G.lb b then .whole else G.kind b,tk:=fun t=>if G.lt t then none else G.tk t,nt:=G.nt }
open Classical in
noncomputable def Gh.back (G G1:Gh):Gh:={ bx:=G.bx,kind:=fun b=>if G.lb b then G.kind b else G1.kind b,tk:=fun t=>if G.lt t then G.tk t else G1.tk t,nt:=G1.nt }
theorem lent_ps {G:Gh} {a:Addr} (h:G.ps a):G.lent.ps a:=by
 unfold Gh.ps at h ⊢;simp only [Gh.lent];by_cases e:G.lb a.block
 ·simp [e]
 ·simp only [e, ↓reduceIte]; exact h
theorem lent_tk {G:Gh} {t:Nat} {x:Option Nat} (h:G.lent.tk t=some x):G.tk t=some x∧¬ G.lt t:=by
 simp only [Gh.lent] at h;split at h
 ·cases h
 ·rename_i hn; exact ⟨h,hn⟩
theorem lent_cell {G:Gh} {m:AMem} {w:World} (hm:RelM G m w) {x:AV} {y:D} {v:Value} (hc:CellD m.tok x y) (h:RV G w x v):RVd w.cell? G.lent.ps y v:=by
 have hcm:∀ (a:Addr) (u:Value),G.ps a→w.cell? a=some u→G.lent.ps a∧w.cell? a=some u:=fun a u h1 h2=>⟨lent_ps h1,h2⟩
 cases hc with
 | d=>cases h with|d h1=>exact h1.mono hcm
 | osl=>cases h with|osl h1 _=>exact h1.mono hcm
 | @stk t sz es ht =>
  cases h with
  | stk hs =>
   obtain ⟨_,A,cap,rfl,hcap,hmax,hst⟩:=hs;obtain ⟨_,y,hy⟩:=hm.toks t ht;have hst:=hst y hy;cases y with
   | none =>
    have hes:es=[]:=List.eq_nil_of_length_eq_zero (by have:cap=0:=hst; omega)
    subst hes;exact .sl (es:=[]) (fun _ _=>default) (Nat.zero_le _) hmax (by simp) (by simp) (fun a _ i j hi _=>by simp at hi) (fun i j hi _=>by simp at hi)
   | some g =>
    obtain ⟨hA,vs,sp,e,h1,h2,h3,h4,h5⟩:=hst;refine RVd.of_flat hcap hmax ⟨h4.len,fun a ha q u hq=>?_,h4.one,fun _=>⟨_,hA⟩,h4.each,fun i j hi hj=>?_⟩
    ·rw [hA] at ha;cases ha;rw [add_none];refine ⟨?_,?_⟩
     ·have hl:G.lb g:=.inr ⟨t,hy,h1⟩
      simp [Gh.ps,Gh.lent,hl]
     ·rw [cell_of_row w g _ _ e (0,0) h2,Nat.zero_add];simp only [List.getElem?_toArray];rw [List.getElem?_append_left (List.getElem?_eq_some_iff.1 hq).1];exact hq
    ·obtain ⟨u,hu,hr⟩:=h4.read i j hi hj;exact ⟨u,hu,hr.mono hcm⟩
theorem lb_kind {G:Gh} {m:AMem} {w:World} (hm:RelM G m w) {b:Nat} (h:G.lb b):b<w.heap.size∧(G.kind b=.box∨G.kind b=.ex):=by
 rcases h with ⟨k,sz,h⟩|⟨t,h1,h2⟩
 ·have:=hm.blt h
  exact ⟨this.1,.inl this.2⟩
 ·obtain ⟨f,cur,e,_,h3⟩:=hm.tokb t b h1;exact ⟨heap_lt h3,.inr h2⟩
theorem RV.lent {G:Gh} {m:AMem} {w:World} (hm:RelM G m w) {x:AV} {v:Value} (h:RV G w x v) (ho:OkIn (fun _=>False) (fun _=>True) x):RV G.lent w x v:=by
 have hc:∀ (a:Addr) (u:Value),G.ps a→w.cell? a=some u→G.lent.ps a∧w.cell? a=some u:=fun a u h1 h2=>⟨lent_ps h1,h2⟩
 have hk:∀ g f c,G.kind g=.part f c→G.lent.kind g=G.kind g:=fun g f c hg=>by
  simp only [Gh.lent];rw [if_neg fun e=>by rcases (lb_kind hm e).2 with h|h <;> rw [hg] at h <;> cases h]
 have hown:∀ {sz n:Nat} {o:Own} {v:Value},OwnR G sz n o v→OwnR G.lent sz n o v:=by
  intro sz n o v h2;cases o with
  | full=>exact h2
  | tok t =>
   refine ⟨h2.1,fun y hy=>?_⟩;have:=h2.2 y (lent_tk hy).1
   cases y with
   | none=>exact this
   | some g =>
    obtain ⟨cap,hv,hg⟩:=this;exact ⟨cap,hv,(hk g _ _ hg).trans hg⟩
 induction h with
 | bot=>exact .bot
 | d h1=>exact .d (h1.mono hc)
 | osl h1 h2=>exact .osl (h1.mono hc) (hown h2)
 | ptr h1=>cases ho with|ptr h=>exact h.elim
 | here h1 h2=>cases ho with|here h=>exact h.elim
 | buf h1 h2 h3 h4=>exact .buf (h1.mono hc) (hown h2) (fun e=>h3 (lent_tk e).1) (fun g hg=>h4 g (lent_tk hg).1)
 | cptr a u h1 h2=>exact .cptr a u (fun j hj=>hc _ _ (h1 j hj).1 (h1 j hj).2) fun j hj=>(h2 j hj).mono hc
 | msl h1=>cases ho with|msl h=>exact h.elim
 | fn hl _ ih=>cases ho with|fn h=>exact .fn hl fun i h1 h2=>ih i h1 h2 (h _ (List.getElem_mem h1))
 | agg hl _ hone ih=>cases ho with|agg h=>exact .agg hl (fun i h1 h2=>ih i h1 h2 (h _ (List.getElem_mem h1))) hone
 | tup hl _ ih=>cases ho with|tup h=>exact .tup hl fun i h1 h2=>ih i h1 h2 (h _ (List.getElem_mem h1))
 | ex h1 =>
  obtain ⟨r1,r0,r2⟩:=h1;refine .ex ⟨r1,r0,fun y hy=>?_⟩;obtain ⟨hy1,hn⟩:=lent_tk hy;obtain ⟨g,cap,cs,e,rfl,h2,h3,h4,h5,_⟩:=r2 y hy1;exact absurd ⟨g,hy1,h5⟩ hn
 | stk h1 =>
  obtain ⟨r1,A,cap,hv,hc1,hmx,r2⟩:=h1;refine .stk ⟨r1,A,cap,hv,hc1,hmx,fun y hy=>?_⟩;obtain ⟨hy1,hn⟩:=lent_tk hy;have h0:=r2 y hy1;cases y with
  | none=>exact h0
  | some g =>
   obtain ⟨hA,vs,sp,e,h5,_⟩:=h0;exact absurd ⟨g,hy1,h5⟩ hn
 | que h1 h2=>exact .que (h1.mono hc) (h2.imp h2.1 fun x hx=>⟨(lent_tk hx).1,fun g _ f c he=>(hk g f c he).trans he⟩)
 | mp h1 =>
  obtain ⟨r1,r0,r,hv,r2⟩:=h1;refine .mp ⟨r1,r0,r,hv,fun y hy=>?_⟩;obtain ⟨hy1,hn⟩:=lent_tk hy;obtain ⟨rfl,h5,_⟩:=r2 y hy1;exact absurd ⟨r,hy1,h5⟩ hn
 | mpd h1=>exact .mpd (h1.imp hc fun r _ hk1=>⟨by simp only [Gh.lent]; split; rfl; exact hk1,rfl⟩)
theorem Lent.rv {G:Gh} {m:AMem} {w:World} (hm:RelM G m w) {x y:AV} {v:Value} (hb:Lent m.box m.tok x y) (h:RV G w x v):RV G.lent w y v:=by
 induction hb generalizing v with
 | fn hl _ ih =>
  cases h with
  | fn hl' hh=>exact .fn (hl.symm.trans hl') fun i h1 h2=>ih i (by omega) h1 (hh i (by omega) h2)
 | same ho=>exact h.lent hm ho
 | stk ht=>exact .d (lent_cell hm (.stk ht) h)
 | @ptr k row ds hk hd =>
  generalize hx:AV.ptr k 0 0=x at h;cases h with
  | @ptr k' i off b sz hbx =>
   cases hx;obtain ⟨hkind,cs,e,hheap,hrows,hR,hone⟩:=hm.box k [row] b sz hk hbx;have hR:RVs G w row cs.toList:=by simpa using hR
   obtain ⟨hl,hat⟩:=hd.at;have hlb:G.lb b:=.inl ⟨k,sz,hbx⟩
   have:=RV.cptr (G:=G.lent) (w:=w) (cs:=ds) (off:=0) ⟨b,0,none⟩ (fun j=>cs.getD j default) (fun j hj=>?_) (fun j hj=>?_)
   ·rw [add_none] at this;simpa using this
   ·rw [add_none];refine ⟨by simp [Gh.ps,Gh.lent,hlb],?_⟩;rw [cell_of_row w b _ _ e (0,0) hheap,Nat.zero_add];have hjl:j<cs.size:=by have:=hR.1; simp at this; omega
    simp [hjl]
   ·have hjl:j<cs.size:=by have:=hR.1; simp at this; omega
    have h1:=lent_cell hm (hat j (by omega) hj) (hR.2 j (by omega) (by simpa using hjl));simpa [hjl] using h1
  | _=>cases hx
theorem LentL.rvs {G:Gh} {m:AMem} {w:World} (hm:RelM G m w):∀ {xs ys:List AV} {vs:List Value},LentL m.box m.tok xs ys→RVs G w xs vs→RVs G.lent w ys vs
 | [],[],vs,_,h=>⟨by have:=h.1; simpa using this,fun i h=>by simp at h⟩
 | x::a,y::b,vs,hb,h=>by
  obtain ⟨v,us,rfl,h1,h2⟩:=h.uncons;exact RVs.cons (hb.1.rv hm h1) (LentL.rvs hm hb.2 h2)
 | [],_::_,_,h,_=>h.elim
 | _::_,[],_,h,_=>h.elim
theorem RCall.lends {f:FuncId} {args args':List AV} {box:Bxs} {tok:Nat→Bool} {nt:Nat} {u:Value} (hu:u.oneCell'=true)
  (h:∀ tok,DCall P f args' tok nt (.d (.raw u)) tok nt) (hb:LentL box tok args args'):RCall P f args box tok nt (.d (.raw u)) tok nt:=by
 classical
 intro box' nb hext;have hb':=hb.ext hext
 refine ⟨(h tok (fun _=>none) nb).1,fun G w vals hm hr=>?_⟩;obtain ⟨_,hc⟩:=h (fun t=>tok t&&decide (¬ G.lt t)) (fun _=>none) nb;have hlbk:=fun {b} (hb:G.lb b)=>lb_kind hm hb
 have hnl:∀ t g,G.tk t=some (some g)→¬ G.lt t→¬ G.lb g:=fun t g ht hn hl=>by
  rcases hl with ⟨k,sz,hk⟩|⟨t2,h1,h2⟩
  ·obtain ⟨f',cur,e,h1,_⟩:=hm.tokb t g ht;rw [(hm.blt hk).2] at h1;rcases h1 with ⟨h1,_⟩|h1 <;> cases h1
  ·exact hn ⟨g,ht,h2⟩
 have hm1:RelM G.lent ⟨fun _=>none,nb,fun t=>tok t&&decide (¬ G.lt t),nt⟩ w:=by
  constructor
  case box=>intro k rows b sz h1; cases h1
  case nobox=>intro k _; rfl
  case inj=>intro k k' b sz sz' h1; cases h1
  case nb=>intro k _; rfl
  case nt=>exact hm.nt
  case toks =>
   intro t ht;simp only [Bool.and_eq_true,decide_eq_true_eq] at ht;obtain ⟨h1,x,h2⟩:=hm.toks t ht.1;exact ⟨h1,x,by simp only [Gh.lent]; rw [if_neg ht.2]; exact h2⟩
  case tokb =>
   intro t g ht;obtain ⟨h1,h2⟩:=lent_tk ht;obtain ⟨f',cur,e,h3,h4⟩:=hm.tokb t g h1;refine ⟨f',cur,e,?_,h4⟩;simp only [Gh.lent];rw [if_neg (hnl t g h1 h2)];exact h3
  case tinj=>exact fun t t' g h1 h2=>hm.tinj t t' g (lent_tk h1).1 (lent_tk h2).1
  case tnt=>exact fun t x h1=>hm.tnt t x (lent_tk h1).1
  case glob=>exact hm.glob.mono fun a u h1 h2=>⟨lent_ps h1,h2⟩
  case fresh =>
   intro b hb1;simp only [Gh.lent];split
   ·rfl
   ·exact hm.fresh b hb1
 refine Calls.mono (hc G.lent w vals hm1 (hb'.rvs hm hr)) ?_;rintro e w' ⟨v,av,m',G1,rfl,⟨rfl,rfl⟩,h3,h4,h5,h6,h7⟩;have hv:v=u:=by cases h5 with|d h=>cases h; rfl
 subst hv;have hkeep:∀ b,G.lb b→G1.kind b=.whole∧w'.heap[b]?=w.heap[b]?:=fun b hb1=>h6.whole b (hlbk hb1).1 (by simp [Gh.lent,hb1])
 have hltb:∀ t,G.lt t→∃ g,G.tk t=some (some g)∧G.kind g=.ex∧G.lb g:=fun t ⟨g,h1,h2⟩=>⟨g,h1,h2,.inr ⟨t,h1,h2⟩⟩
 have hle:Le G w (G.back G1) w':=by
  refine ⟨h6.os,h6.tape,h6.output,h6.size,fun b hb1 hk=>?_,fun b f' c hk=>?_,fun _ _ h=>h,h6.nt,fun t ht=>?_,?_⟩
  ·have hn:¬ G.lb b:=fun e=>by rcases (hlbk e).2 with h|h <;> rw [hk] at h <;> cases h
   obtain ⟨a1,a2⟩:=h6.whole b hb1 (by simp only [Gh.lent]; rw [if_neg hn]; exact hk);exact ⟨by simp only [Gh.back]; rw [if_neg hn]; exact a1,a2⟩
  ·have hn:¬ G.lb b:=fun e=>by rcases (hlbk e).2 with h|h <;> rw [hk] at h <;> cases h
   obtain ⟨⟨f2,a1,a2⟩,a3⟩:=h6.part b f' c (by simp only [Gh.lent]; rw [if_neg hn]; exact hk);exact ⟨⟨f2,a1,by simp only [Gh.back]; rw [if_neg hn]; exact a2⟩,a3⟩
  ·by_cases hl:G.lt t
   ·refine .inr ⟨by simp only [Gh.back]; rw [if_pos hl],fun g hg=>?_⟩;obtain ⟨g',h1,h2,h3⟩:=hltb t hl;rw [hg] at h1;cases h1;exact ⟨by simp only [Gh.back]; rw [if_pos h3],fun _=>(hkeep g h3).2⟩
   ·have e1:(G.back G1).tk t=G1.tk t:=by simp only [Gh.back]; rw [if_neg hl]
    have e2:G.lent.tk t=G.tk t:=by simp only [Gh.lent]; rw [if_neg hl]
    rcases h6.tk t ht with a1|⟨a1,a2⟩
    ·exact .inl (e1.trans a1)
    ·refine .inr ⟨(e1.trans a1).trans e2,fun g hg=>?_⟩;have hn:=hnl t g hg hl;obtain ⟨b1,b2⟩:=a2 g (e2.trans hg);simp only [Gh.lent] at b1 b2;rw [if_neg hn] at b1 b2;exact ⟨by simp only [Gh.back]; rw [if_neg hn]; exact b1,b2⟩
  ·exact h6.ty
 refine ⟨v,_,_,G.back G1,rfl,⟨rfl,rfl⟩,rfl,?_,.d (.raw hu),hle,fun k hk=>⟨hk,rfl⟩⟩;have hG1:∀ t g,¬ G.lt t→(G.back G1).tk t=some (some g)→G1.tk t=some (some g)∧¬ G.lb g:=fun t g hl ht=>by
  have e1:G1.tk t=some (some g):=by simp only [Gh.back] at ht; rw [if_neg hl] at ht; exact ht
  refine ⟨e1,fun hpg=>?_⟩;obtain ⟨f',cur,e,g1,_⟩:=h4.tokb t g e1;rw [(hkeep g hpg).1] at g1;rcases g1 with ⟨g1,_⟩|g1 <;> cases g1
 have hG0:∀ t,G.lt t→(G.back G1).tk t=G.tk t:=fun t hl=>by simp only [Gh.back]; rw [if_pos hl]
 constructor
 case box =>
  intro k rows b sz hk hb1;obtain ⟨g1,cs,e,g2,g3,g4,g5⟩:=hm.box k rows b sz hk hb1;have hpk:G.lb b:=.inl ⟨k,sz,hb1⟩
  exact ⟨by simp only [Gh.back]; rw [if_pos hpk]; exact g1,cs,e,(hkeep b hpk).2.trans g2,g3,g4.mono hle,g5⟩
 case nobox=>exact hm.nobox
 case inj=>exact hm.inj
 case nb=>exact hm.nb
 case nt=>exact h4.nt
 case toks =>
  intro t ht;obtain ⟨h1,x,h2⟩:=hm.toks t ht;refine ⟨h1,?_⟩;by_cases hl:G.lt t
  ·exact ⟨x,(hG0 t hl).trans h2⟩
  ·obtain ⟨_,y,h3⟩:=h4.toks t (by simp only [Bool.and_eq_true,decide_eq_true_eq]; exact ⟨ht,hl⟩);exact ⟨y,by simp only [Gh.back]; rw [if_neg hl]; exact h3⟩
 case tokb =>
  intro t g ht;by_cases hl:G.lt t
  ·rw [hG0 t hl] at ht;obtain ⟨g',h1,h2,h3⟩:=hltb t hl;rw [ht] at h1;cases h1;obtain ⟨f',cur,e,g1,g2⟩:=hm.tokb t g ht;exact ⟨f',cur,e,by simp only [Gh.back]; rw [if_pos h3]; exact g1,(hkeep g h3).2.trans g2⟩
  ·obtain ⟨h1,hn⟩:=hG1 t g hl ht;obtain ⟨f',cur,e,g1,g2⟩:=h4.tokb t g h1;exact ⟨f',cur,e,by simp only [Gh.back]; rw [if_neg hn]; exact g1,g2⟩
 case tinj =>
  intro t t' g ht ht';by_cases hl:G.lt t <;> by_cases hl':G.lt t'
  ·rw [hG0 t hl] at ht; rw [hG0 t' hl'] at ht';exact hm.tinj t t' g ht ht'
  ·rw [hG0 t hl] at ht;obtain ⟨g',h1,_,h3⟩:=hltb t hl;rw [ht] at h1;cases h1;exact absurd h3 (hG1 t' g hl' ht').2
  ·rw [hG0 t' hl'] at ht';obtain ⟨g',h1,_,h3⟩:=hltb t' hl';rw [ht'] at h1;cases h1;exact absurd h3 (hG1 t g hl ht).2
  ·exact h4.tinj t t' g (hG1 t g hl ht).1 (hG1 t' g hl' ht').1
 case tnt =>
  intro t x ht;by_cases hl:G.lt t
  ·rw [hG0 t hl] at ht;have:=hm.tnt t x ht
   have e1:=hm.nt; have e2:=h4.nt;simp only [Gh.back];simp only at e1 e2;omega
  ·simp only [Gh.back] at ht;rw [if_neg hl] at ht;exact h4.tnt t x ht
 case glob=>exact hm.glob.mono hle.cells
 case fresh =>
  intro b hb1;have:=h6.size
  have hn:¬ G.lb b:=fun hpb1=>by have:=(hlbk hpb1).1; omega
  simp only [Gh.back];rw [if_neg hn];exact h4.fresh b hb1
variable {P:Program}
theorem Le.reKind {G:Gh} {w:World} {g:Nat} (k:BK) (hk:G.kind g=.ex) (ht:∀ t,G.tk t≠some (some g)):Le G w (G.setKind g k) w where
 os:=rfl
 tape:=rfl
 output:=rfl
 size:=Nat.le_refl _
 whole b _ h:=⟨by simp only [Gh.setKind]; rw [upd_other _ _ (fun e=>by subst e; rw [hk] at h; cases h)]; exact h,rfl⟩
 part b f c h:=⟨⟨f,Nat.le_refl _,by simp only [Gh.setKind]; rw [upd_other _ _ (fun e=>by subst e; rw [hk] at h; cases h)]; exact h⟩,fun _ _ _=>rfl⟩
 bx _ _ h:=h
 nt:=Nat.le_refl _
 tk t _:=.inr ⟨rfl,fun j hj=>⟨by simp only [Gh.setKind]; exact upd_other _ _ (fun e=>by subst e; exact ht t hj),fun _=>rfl⟩⟩
 ty _ cs T f h:=⟨cs,f,h⟩
theorem RelM.reKind {G:Gh} {m:AMem} {w:World} (h:RelM G m w) {g:Nat} (k:BK) (hk:G.kind g=.ex) (ht:∀ t,G.tk t≠some (some g)) (hg:g<w.heap.size):RelM (G.setKind g k) m w:=by
 have hle:=Le.reKind (w:=w) k hk ht;constructor
 case box =>
  intro q rows b sz hq hb;obtain ⟨h1,cs,e,h2,h3,h4,h5⟩:=h.box q rows b sz hq hb;refine ⟨?_,cs,e,h2,h3,h4.mono hle,h5⟩;simp only [Gh.setKind];rw [upd_other _ _ (fun e=>by subst e; rw [hk] at h1; cases h1)];exact h1
 case nobox=>exact h.nobox
 case inj=>exact h.inj
 case nb=>exact h.nb
 case nt=>exact h.nt
 case toks=>exact h.toks
 case tokb =>
  intro t j hj;obtain ⟨f0,cur0,e0,h1,h2⟩:=h.tokb t j hj;refine ⟨f0,cur0,e0,?_,h2⟩;simp only [Gh.setKind];rw [upd_other _ _ (fun e=>by subst e; exact ht t hj)];exact h1
 case tinj=>exact h.tinj
 case tnt=>exact h.tnt
 case glob=>exact h.glob.mono hle.cells
 case fresh =>
  intro b hb;simp only [Gh.setKind];rw [upd_other _ _ (by omega)];exact h.fresh b hb
theorem kill_not {G:Gh} {m:AMem} {w:World} (hm:RelM G m w) {t g:Nat} (hx:G.tk t=some (some g)):∀ q,(G.kill (.tok t)).tk q≠some (some g):=by
 intro q hq;simp only [Gh.kill] at hq;by_cases e:q=t
 ·subst e; simp [upd_same] at hq
 ·rw [upd_other _ _ e] at hq;exact e (hm.tinj q t g hq hx)
inductive SdTo (t:Nat):AV→AV→Prop
 | bot {x}:SdTo t x .bot
 | same {x}:SdTo t x x
 | stk {sz es}:SdTo t (.stk t sz es) (.d (.sl sz es))
theorem Trans.stkD {cx:Cx} {nt0 nt:Nat} {l l':List (Nat × AV)} {out:Bxs} {loc loc':List (Nat × List (List AV))} {tok:Nat→Bool} (t:Nat) (ht:tok t=true)
  (hl:CvL (SdTo t) l l') (hb:CvB (SdTo t) loc loc') :
  Trans cx nt0 ⟨tl l,lb cx.base out loc,tok,nt⟩ ⟨tl l',lb cx.base out loc',upd tok t false,nt⟩:=by
 intro G0 w0 G a w he hn0 hS hL;have hm:=hS.mem;obtain ⟨hlt,x,hx⟩:=hm.toks t ht;have hmk:=hm.kill (.tok t);have hlk:=Le.kill (G:=G) (w:=w) (.tok t);have hstk:∀ {sz:Nat} {es:List (List D)} {v:Value},RV G w (.stk t sz es) v→StkR G w t sz es v:=fun h=>by cases h with|stk h=>exact h
 have fin:∀ G',Le G w G' w→G'.bx=G.bx→RelM G' ⟨lb cx.base out loc,cx.nb,upd tok t false,nt⟩ w→(∀ sz es v,StkR G w t sz es v→RVd w.cell? G'.ps (.sl sz es) v) →
   ∃ G',RelS cx.n cx.nb G' ⟨tl l',lb cx.base out loc',upd tok t false,nt⟩ a w∧LeC cx G0 w0 G' w ⟨tl l',lb cx.base out loc',upd tok t false,nt⟩:=by
  intro G' hle hbx hm' hd;have hto:∀ x y v,SdTo t x y→RV G w x v→RV G' w y v:=fun x y v h hr=>by
   cases h with
   | bot=>exact .bot
   | same=>exact hr.mono hle
   | stk=>exact .d (hd _ _ v (hstk hr))
  refine ⟨G',⟨hS.defers,hS.size,fun i=>hto _ _ _ (hl.at .bot i) (hS.tmps i),?_⟩,?_⟩
  ·constructor
   case box =>
    intro k rows b z hk hbk;simp only at hk;by_cases hkb:k<cx.base
    ·rw [lb_out hkb] at hk;exact hm'.box k rows b z (by simp only; rw [lb_out hkb]; exact hk) hbk
    ·have hkk:k=cx.base+(k - cx.base):=by omega
     rw [hkk,lb_at] at hk;rcases hb.at (k - cx.base) with ⟨_,h2⟩|⟨r0,r',h1,h2,h3⟩
     ·rw [h2] at hk; cases hk
     ·rw [h2] at hk;cases hk;obtain ⟨_,cs,e,g2,g3,g4,g5⟩:=hm.box k r0 b z (by simp only; rw [hkk,lb_at]; exact h1) (by rw [←hbx]; exact hbk);obtain ⟨g1,_⟩:=hm'.box k r0 b z (by simp only; rw [hkk,lb_at]; exact h1) hbk;refine ⟨g1,cs,e,g2,fun q hq=>?_,⟨h3.flat.1.symm.trans g4.1,fun i h1 h2=>hto _ _ _ (h3.flat.2 i (by rw [h3.flat.1]; exact h1) h1) (g4.2 i _ h2)⟩,g5⟩;obtain ⟨i,hi,rfl⟩:=List.getElem_of_mem hq;have hi0:i<r0.length:=by rw [h3.1]; exact hi
      rw [←(h3.2 i hi0 hi).1];exact g3 _ (List.getElem_mem _)
   case nobox =>
    intro k hk;refine hm'.nobox k ?_;simp only at hk ⊢;by_cases hkb:k<cx.base
    ·rw [lb_out hkb] at hk ⊢; exact hk
    ·have hkk:k=cx.base+(k - cx.base):=by omega
     rw [hkk,lb_at] at hk ⊢;rcases hb.at (k - cx.base) with ⟨h1,_⟩|⟨r0,r',_,h2,_⟩
     ·exact h1
     ·rw [h2] at hk; cases hk
   case inj=>exact hm'.inj
   case nb =>
    intro k hk;have h0:=hm'.nb k hk;simp only at h0 ⊢;by_cases hkb:k<cx.base
    ·rw [lb_out hkb] at h0 ⊢; exact h0
    ·have hkk:k=cx.base+(k - cx.base):=by omega
     rw [hkk,lb_at] at h0 ⊢;rcases hb.at (k - cx.base) with ⟨_,h2⟩|⟨r0,r',h1,_,_⟩
     ·exact h2
     ·rw [h1] at h0; cases h0
   case nt=>exact hm'.nt
   case toks=>exact hm'.toks
   case tokb=>exact hm'.tokb
   case tinj=>exact hm'.tinj
   case tnt=>exact hm'.tnt
   case glob=>exact hm'.glob
   case fresh=>exact hm'.fresh
  ·refine hL.step ⟨hle,fun k hkb hg=>⟨by rw [hbx]; exact hg,?_⟩⟩;simp only;rw [lb_out hkb,lb_out hkb]
 cases x with
 | none =>
  refine fin (G.kill (.tok t)) hlk rfl hmk fun sz es v hv=>?_
  obtain ⟨_,A,cap,rfl,hcap,hmax,hst⟩:=hv;have hc0:cap=0:=hst _ hx
  have hes:es=[]:=List.eq_nil_of_length_eq_zero (by omega)
  subst hes;exact .sl (es:=[]) (fun _ _=>default) (Nat.zero_le _) hmax (by simp) (by simp) (fun a _ i j hi _=>by simp at hi) (fun i j hi _=>by simp at hi)
 | some g =>
  obtain ⟨f,cur,e,hkg,hg⟩:=hm.tokb t g hx;by_cases hex:G.kind g=.ex
  ·have hnot:=kill_not hm hx;have hlr:=Le.reKind (G:=G.kill (.tok t)) (w:=w) .whole hex hnot;refine fin ((G.kill (.tok t)).setKind g .whole) (hlk.trans hlr) rfl (hmk.reKind .whole hex hnot (heap_lt hg)) fun sz es v hv=>?_
   obtain ⟨_,A,cap,rfl,hcap,hmax,hst⟩:=hv;obtain ⟨hA,vs,sp,e,h1,h2,h3,h4,h5⟩:=hst _ hx;refine RVd.of_flat hcap hmax ⟨h4.len,fun a ha q u hq=>?_,h4.one,fun _=>⟨_,hA⟩,h4.each,fun i j hi hj=>?_⟩
   ·rw [hA] at ha;cases ha;rw [add_none];refine ⟨by simp [Gh.ps,Gh.setKind,upd_same],?_⟩;rw [cell_of_row w g _ _ e (0,0) h2,Nat.zero_add];simp only [List.getElem?_toArray];rw [List.getElem?_append_left (List.getElem?_eq_some_iff.1 hq).1];exact hq
   ·obtain ⟨u,hu,hr⟩:=h4.read i j hi hj;exact ⟨u,hu,hr.mono (hlk.trans hlr).cells⟩
  ·refine fin (G.kill (.tok t)) hlk rfl hmk fun sz es v hv=>?_
   obtain ⟨_,A,cap,rfl,hcap,hmax,hst⟩:=hv;obtain ⟨_,vs,sp,e,h1,_⟩:=hst _ hx;exact absurd h1 hex
def AV.sdT (t:Nat):AV→AV
 | .stk t' sz es=>if t'=t then .d (.sl sz es) else .stk t' sz es
 | x=>x
theorem sdT_to (t:Nat) (x:AV):SdTo t x (x.sdT t):=by
 cases x with
 | stk t' sz es =>
  simp only [AV.sdT];split
  ·rename_i h; subst h; exact .stk
  ·exact .same
 | _=>exact .same
theorem cvL_map {R:AV→AV→Prop} {f:AV→AV} (h:∀ x,R x (f x)):∀ l:List (Nat × AV),CvL R l (l.map fun q=>(q.1,f q.2))
 | []=>trivial
 | (i,x)::l=>⟨rfl,h x,cvL_map h l⟩
theorem cvB_map {R:AV→AV→Prop} {f:AV→AV} (h:∀ x,R x (f x)):∀ l:List (Nat × List (List AV)),CvB R l (l.map fun q=>(q.1,q.2.map fun r=>r.map f))
 | []=>trivial
 | (i,x)::l=>⟨rfl,⟨by simp,fun i h1 h2=>⟨by simp,fun j g1 g2=>by simp only [List.getElem_map]; exact h _⟩⟩,cvB_map h l⟩
theorem AL.stkD {cx:Cx} {nt0 nt:Nat} {K:Exit→AState→Prop} {q:List CI} {x:Code} {l:List (Nat × AV)} {out:Bxs} {loc:List (Nat × List (List AV))} {tok:Nat→Bool} (t:Nat) (ht:tok t=true)
  (h:AL P cx nt0 K (.c x::q) ⟨tl (l.map fun q=>(q.1,q.2.sdT t)),lb cx.base out (loc.map fun q=>(q.1,q.2.map fun r=>r.map (AV.sdT t))),upd tok t false,nt⟩):AL P cx nt0 K (.c x::q) ⟨tl l,lb cx.base out loc,tok,nt⟩ :=
 AL.trans (Trans.stkD t ht (cvL_map (sdT_to t) l) (cvB_map (sdT_to t) loc)) h
variable {P:Program}
theorem FlatV.rvs {G:Gh} {w:World} {sz:Nat}:∀ {es:List (List D)} {vs:List Value},FlatV w.cell? G.ps sz es vs→RVs G w (es.flatten.map AV.d) vs
 | [],vs,h=>by
  have hv:vs=[]:=List.eq_nil_of_length_eq_zero (by simpa using h.len)
  subst hv;exact ⟨rfl,fun i h=>by simp at h⟩
 | e::es,vs,h=>by
  have he:e.length=sz:=h.each e (by simp)
  have hl:=h.len;rw [List.length_cons,Nat.add_mul] at hl;have h1:FlatV w.cell? G.ps sz es (vs.drop sz):=by
   refine ⟨by rw [List.length_drop]; omega,fun u hu=>h.one u (List.mem_of_mem_drop hu),fun q hq=>h.each q (by simp [hq]),fun i j hi hj=>?_⟩;obtain ⟨u,hu,hr⟩:=h.read (i+1) j (by simpa using hi) (by simpa using hj);refine ⟨u,?_,by simpa using hr⟩;rw [List.getElem?_drop,←hu];congr 1
   rw [Nat.add_mul]; omega
  have ih:=FlatV.rvs h1;have h2:RVs G w (e.map AV.d) (vs.take sz):=by
   refine ⟨by rw [List.length_map,List.length_take]; omega,fun j g1 g2=>?_⟩;have hj:j<e.length:=by simpa using g1
   obtain ⟨u,hu,hr⟩:=h.read 0 j (by simp) (by simpa using hj);simp only [List.getElem_map,List.getElem_take];obtain ⟨hlt,rfl⟩:=List.getElem?_eq_some_iff.1 hu;simp only [Nat.zero_mul,Nat.zero_add] at hr ⊢;exact .d (by simpa using hr)
  have:=h2.append ih
  rw [List.take_append_drop] at this;simpa using this
inductive TsTo (t k sz:Nat) (es:List (List D)):AV→AV→Prop
 | bot {x}:TsTo t k sz es x .bot
 | same {x}:TsTo t k sz es x x
 | stk:TsTo t k sz es (.stk t sz es) (.msl k 0 es.length sz)
theorem AT.thawS {cx:Cx} {nt0 nt:Nat} {c:Code} {K:Exit→AState→Prop} {l l':List (Nat × AV)} {out:Bxs} {loc loc':List (Nat × List (List AV))} {tok:Nat→Bool} (t s sz:Nat) (es:List (List D)) (r:Nat)
  (hn:cx.nb=cx.base+cx.n) (hs:s<cx.n) (hk:lk loc s=none) (ht:tok t=true) (hne:es≠[]) (hr:tl l r=.stk t sz es)
  (hl:CvL (TsTo t (cx.base+s) sz es) l l') (hb:CvB (TsTo t (cx.base+s) sz es) loc loc')
  (h:∀ m,AT P cx nt0 c ⟨tl l',lb cx.base out ((s,rowsD es++List.replicate m (List.replicate sz .bot))::loc'),upd tok t false,nt⟩ K):AT P cx nt0 c ⟨tl l,lb cx.base out loc,tok,nt⟩ K:=by
 intro G0 w0 hen hnt G a w hS hL;have hm:=hS.mem;obtain ⟨hlt,x,hx⟩:=hm.toks t ht;have hstk:∀ {v:Value},RV G w (.stk t sz es) v→StkR G w t sz es v:=fun h=>by cases h with|stk h=>exact h
 have hwit:=hS.tmps r;simp only at hwit;rw [hr] at hwit;obtain ⟨_,A,cap,hv,hcap,hmax,hst⟩:=hstk hwit;have hst:=hst x hx;cases x with
 | none =>
  have hc0:cap=0:=hst
  exact absurd (List.eq_nil_of_length_eq_zero (by omega)) hne
 | some g =>
  obtain ⟨hA,vs,sp,e,hkg,hheap,hlen,hf,hsp⟩:=hst;have hboxk:lb cx.base out loc (cx.base+s)=none:=by rw [lb_at]; exact hk
  have hbxk:G.bx (cx.base+s)=none:=hm.nobox _ hboxk
  have hnb:∀ {k b z},G.bx k=some (b,z)→b≠g:=fun h e=>by
   have:=(hm.blt h).2
   rw [e,hkg] at this; cases this
  have hmk:=hm.kill (.tok t);have hnot:=kill_not hm hx;have hm1:=hmk.reKind .box hkg hnot (heap_lt hheap)
  let G1:Gh:=(G.kill (.tok t)).setKind g .box
  let G':Gh:={ G1 with bx:=upd G.bx (cx.base+s) (some (g,sz)) }
  have hle1:Le G w G1 w:=(Le.kill (.tok t)).trans (Le.reKind .box hkg hnot)
  have hle2:Le G1 w G' w:=⟨rfl,rfl,rfl,Nat.le_refl _,fun _ _ h=>⟨h,rfl⟩,fun _ f _ h=>⟨⟨f,Nat.le_refl _,h⟩,fun _ _ _=>rfl⟩,fun k x hk=>by
   simp only [G'];rw [upd_other _ _ (fun e=>by
    have hk:G.bx k=some x:=hk
    rw [e,hbxk] at hk; cases hk)]
   exact hk,Nat.le_refl _,fun t _=>.inr ⟨rfl,fun _ _=>⟨rfl,fun _=>rfl⟩⟩,fun _ cs T f h=>⟨cs,f,h⟩⟩
  have hle:=hle1.trans hle2;have hto:∀ x y v,TsTo t (cx.base+s) sz es x y→RV G w x v→RV G' w y v:=fun x y v h hr=>by
   cases h with
   | bot=>exact .bot
   | same=>exact hr.mono hle
   | stk =>
    obtain ⟨_,A',cap',rfl,hc1,hc2,h2⟩:=hstk hr;obtain ⟨hA',_⟩:=h2 _ hx;subst hA';have:=RV.msl (G:=G') (w:=w) (k:=cx.base+s) (off:=0) (n:=es.length) (b:=g) (sz:=sz) (cap:=cap') (by simp [G',upd_same]) hc1 hc2
    simpa using this
  have hf':=hf.mono hle.cells
  have hvl:=hf.len;obtain ⟨m,hmm⟩:∃ m,cap=es.length+m:=⟨cap - es.length,by omega⟩
  have hspl:sp.length=m * sz:=by
   rw [List.length_append,hvl,hmm,Nat.add_mul] at hlen;omega
  refine h m G0 w0 hen hnt G' a w ⟨hS.defers,hS.size,fun i=>hto _ _ _ (hl.at .bot i) (hS.tmps i),?_⟩ ?_
  ·constructor
   case box =>
    intro k rows b z hk' hb';by_cases e1:k=cx.base+s
    ·subst e1;simp only [lb_at,lk_cons, ↓reduceIte,Option.some.injEq] at hk';simp only [G',upd_same,Option.some.injEq,Prod.mk.injEq] at hb';obtain ⟨rfl,rfl⟩:=hb';subst hk';refine ⟨by simp [G',G1,Gh.setKind,upd_same],_,e,hheap,fun q hq=>?_,?_,fun v hv=>?_⟩
     ·rcases List.mem_append.1 hq with hq|hq
      ·obtain ⟨p,hp,rfl⟩:=List.mem_map.1 hq;simpa using hf.each p hp
      ·rw [List.eq_of_mem_replicate hq]; simp
     ·rw [List.flatten_append,rowsD_flat];have h2:RVs G' w (List.replicate m (List.replicate sz AV.bot)).flatten sp:=by
       refine ⟨by rw [hspl]; simp [List.length_flatten],fun i g1 g2=>?_⟩;have hmem:(List.replicate m (List.replicate sz AV.bot)).flatten[i]∈(List.replicate m (List.replicate sz AV.bot)).flatten:=List.getElem_mem _
       obtain ⟨q,hq,hiq⟩:=List.mem_flatten.1 hmem;rw [List.eq_of_mem_replicate hq] at hiq;rw [List.eq_of_mem_replicate hiq];exact .bot
      simpa using hf'.rvs.append h2
     ·have hv:v∈vs++sp:=by simpa using hv
      rcases List.mem_append.1 hv with hv|hv
      ·exact hf.one v hv
      ·exact hsp v hv
    ·simp only [G'] at hb';rw [upd_other _ _ e1] at hb';have hold:∃ rows0,lb cx.base out loc k=some rows0∧(rows0=rows∨CvRs (TsTo t (cx.base+s) sz es) rows0 rows):=by
      by_cases hkb:k<cx.base
      ·refine ⟨rows,?_,.inl rfl⟩;simp only at hk';rw [lb_out hkb] at hk' ⊢;exact hk'
      ·have hkk:k=cx.base+(k - cx.base):=by omega
       simp only at hk';rw [hkk,lb_at] at hk' ⊢;rw [lk_cons,if_neg (by omega)] at hk';rcases hb.at (k - cx.base) with ⟨_,h2⟩|⟨r0,r',h1,h2,h3⟩
       ·rw [h2] at hk'; cases hk'
       ·rw [h2] at hk';cases hk'
        exact ⟨r0,h1,.inr h3⟩
     obtain ⟨rows0,h1,h2⟩:=hold;obtain ⟨g1,cs',e',g2,g3,g4,g5⟩:=hm.box k rows0 b z h1 hb';refine ⟨by simp only [G',G1,Gh.setKind]; rw [upd_other _ _ (hnb hb')]; exact g1,cs',e',g2,?_,?_,g5⟩
     ·rcases h2 with rfl|h2
      ·exact g3
      ·intro q hq;obtain ⟨i,hi,rfl⟩:=List.getElem_of_mem hq;have hi0:i<rows0.length:=by rw [h2.1]; exact hi
       rw [←(h2.2 i hi0 hi).1];exact g3 _ (List.getElem_mem _)
     ·rcases h2 with rfl|h2
      ·exact g4.mono hle
      ·exact ⟨h2.flat.1.symm.trans g4.1,fun i k1 k2=>hto _ _ _ (h2.flat.2 i (by rw [h2.flat.1]; exact k1) k1) (g4.2 i _ k2)⟩
   case nobox =>
    intro k hk';have hne:k≠cx.base+s:=fun e=>by subst e; simp [lb_at,lk_cons] at hk'
    simp only [G'];rw [upd_other _ _ hne];refine hm.nobox k ?_;simp only at hk' ⊢;by_cases hkb:k<cx.base
    ·rw [lb_out hkb] at hk' ⊢; exact hk'
    ·have hkk:k=cx.base+(k - cx.base):=by omega
     rw [hkk,lb_at] at hk' ⊢;rw [lk_cons,if_neg (by omega)] at hk';rcases hb.at (k - cx.base) with ⟨h1,_⟩|⟨r0,r',_,h2,_⟩
     ·exact h1
     ·rw [h2] at hk'; cases hk'
   case inj =>
    intro j j' b z z' hj hj';simp only [G'] at hj hj';by_cases e1:j=cx.base+s <;> by_cases e2:j'=cx.base+s
    ·exact e1.trans e2.symm
    ·subst e1;rw [upd_same] at hj; rw [upd_other _ _ e2] at hj';cases hj;exact absurd rfl (hnb hj')
    ·subst e2;rw [upd_same] at hj'; rw [upd_other _ _ e1] at hj;cases hj'
     exact absurd rfl (hnb hj)
    ·rw [upd_other _ _ e1] at hj; rw [upd_other _ _ e2] at hj';exact hm.inj j j' b z z' hj hj'
   case nb =>
    intro k hk';have h0:=hm.nb k hk';simp only at h0 ⊢;have hkb:¬ k<cx.base:=by simp only at hk'; omega
    have hkk:k=cx.base+(k - cx.base):=by omega
    rw [hkk,lb_at] at h0 ⊢;rw [lk_cons,if_neg (by simp only at hk'; omega)];rcases hb.at (k - cx.base) with ⟨_,h2⟩|⟨r0,r',h1,_,_⟩
    ·exact h2
    ·rw [h1] at h0; cases h0
   case nt=>exact hm1.nt
   case toks=>exact hm1.toks
   case tokb=>exact hm1.tokb
   case tinj=>exact hm1.tinj
   case tnt=>exact hm1.tnt
   case glob=>exact hm.glob.mono hle.cells
   case fresh=>exact hm1.fresh
  ·refine hL.step ⟨hle,fun k hkb hg=>⟨?_,?_⟩⟩
   ·simp only [G']; rw [upd_other _ _ (by omega)]; exact hg
   ·simp only; rw [lb_out hkb,lb_out hkb]
theorem AL.thawS {cx:Cx} {nt0 nt:Nat} {K:Exit→AState→Prop} {q:List CI} {x:Code} {l l':List (Nat × AV)} {out:Bxs} {loc loc':List (Nat × List (List AV))} {tok:Nat→Bool} (t s sz:Nat) (es:List (List D)) (r:Nat)
  (hn:cx.nb=cx.base+cx.n) (hs:s<cx.n) (hk:lk loc s=none) (ht:tok t=true) (hne:es≠[]) (hr:tl l r=.stk t sz es)
  (hl:CvL (TsTo t (cx.base+s) sz es) l l') (hb:CvB (TsTo t (cx.base+s) sz es) loc loc')
  (h:∀ m,AL P cx nt0 K (.c x::q) ⟨tl l',lb cx.base out ((s,rowsD es++List.replicate m (List.replicate sz .bot))::loc'),upd tok t false,nt⟩):AL P cx nt0 K (.c x::q) ⟨tl l,lb cx.base out loc,tok,nt⟩:=by
 simp only [AL] at h ⊢;exact AT.thawS t s sz es r hn hs hk ht hne hr hl hb h
section
variable {t k sz:Nat} {es:List (List D)}
@[simp] theorem tsTo_bot (x:AV):TsTo t k sz es x .bot:=.bot
@[simp] theorem tsTo_same (x:AV):TsTo t k sz es x x:=.same
@[simp] theorem tsTo_stk {n:Nat}:TsTo t k sz es (.stk t sz es) (.msl k 0 n sz)↔n=es.length:=⟨fun h=>by cases h; rfl,fun h=>by subst h; exact .stk⟩
end
end Go.AM
