import Derived.Test.YtchfmhhbiealcaaGreatDoorPIC9
import Derived.Shelf.Spec.SlicesGrow
import Derived.Deep.AppendLies
import Derived.WalkKit
import Derived.ProofKit
import Derived.OpenShut
import Derived.ChangeStays
import Derived.SizedLaws
set_option linter.unusedSimpArgs false
set_option linter.unusedVariables false
namespace Go.AM
theorem di.{u}:type_of% @List.length_filter_le.{u}:=@List.length_filter_le
theorem ch:type_of% @Int.eq_ofNat_of_zero_le:=@Int.eq_ofNat_of_zero_le
theorem fu.{u}:type_of% @List.any_eq_not_all_not.{u}:=@List.any_eq_not_all_not
theorem gl:type_of% @Go.DataW.trod_struct:=@Go.DataW.trod_struct
open Go Go.Proofs
open Go.Proofs.Tryz
def iU(f:Nat->Int)(g:Nat->ByteArray):Nat->ByteArray
 | 0=>eB
 | n+1=>if aA f n=0 then (if f n=0 then eB else g n) else iU f g n
theorem gH{f:Nat->Int}{g:Nat->ByteArray}{i:Nat}(h0:aA f i=0)(h:f i≠0):∀n,i<n->iU f g n=g i
 | 0,hi=>absurd hi (b9 _)
 | n+1,hi=>by
  simp only[iU];by_cases e:i=n
  .subst e;rw[af h0,ac h]
  .have:=aK h0 h n (by omega)
   rw[ac (by rw[this];exact h),gH h0 h n (by omega)]
theorem tA{f:Nat->Int}{g:Nat->ByteArray}:∀n,aA f n=0->iU f g n=eB
 | 0,_=>rfl
 | n+1,h=>by
  simp only[aA] at h;split at h
  .rename_i h1;rw[iU,af h1,af h]
  .rename_i h1;exact absurd h h1
def tyE(t:Ty):Int :=
 if t.nodes.length=0 then 7 else if 12<t.nodes.length then 3 else if 20<t.edges.length then 3
 else if aA (fH t) t.nodes.length≠0 then aA (fH t) t.nodes.length else aA (fV t) t.edges.length
def tyN(t:Ty):ByteArray :=
 if t.nodes.length=0 then eB else if 12<t.nodes.length then eB else if 20<t.edges.length then eB
 else if aA (fH t) t.nodes.length≠0 then iU (fH t) (fun i=>(t.nd i).name) t.nodes.length else iU (fV t) (fun i=>(t.ed i).name) t.edges.length
theorem wN{t:Ty}{i:Nat}(h:fH t i=0):(t.nd i).par<i:=by
 unfold fH at h;split at h
 .cases h
 .split at h
  .cases h
  .split at h
   .cases h
   .omega
theorem dU{f:Nat->Int}:∀n,aA f n=0->∀i,i<n->f i=0
 | 0,_,i,hi=>absurd hi (b9 _)
 | n+1,h,i,hi=>by
  simp only[aA] at h;split at h
  .rename_i h1;by_cases e:i=n
   .subst e;exact h
   .exact dU n h1 i (by omega)
  .rename_i h1;exact absurd h h1
def aLP(t:Ty)(nb:Nat)(box:Bxs)(tok:Tks)(nt:Nat)(i:Nat):AS:=⟨tl [(4,I i),(1,.ptr (nb+1) 0 0)],lb nb box [(1,[[.d (nts t.nodes),.d (ets t.edges)]])],tok,nt⟩
def aK8(t:Ty)(nb:Nat)(box:Bxs)(tok:Tks)(nt:Nat)(i:Nat):AS:=⟨tl [(6,I i),(1,.ptr (nb+1) 0 0)],lb nb box [(1,[[.d (nts t.nodes),.d (ets t.edges)]])],tok,nt⟩
theorem jV(t:Ty)(ht:t.Fit)(hM:∀i,(t.nd i).own.length<=1000):DC 77 [t.av] (.tup [Sb (tyN t),I (tyE t)]):=by
 intro tok nt box nb;have qb:=ht.n;have vv:=ht.e;obtain⟨N,hN⟩:∃N,tyE t=N:=⟨_,rfl⟩
 obtain⟨Z,hZ⟩:∃Z,tyN t=Z:=⟨_,rfl⟩
 rw[hN,hZ];unfold tyE at hN;unfold tyN at hZ;by_cases e1:t.nodes.length=0
 .have jt:t.nodes=[]:=dh.1 e1
  rw[af e1] at hN hZ;refine sI func77 ntmps77 fun Hb Ht=>?_
  repeat first|simp[jt]|refine sR ?_|apply sC
  refine sT (sH ?_);simp[<-hN,<-hZ]
 .have jt:¬t.nodes=[]:=fun h=>e1 (by rw[h];rfl)
  rw[ac e1] at hN hZ;by_cases e2:12<t.nodes.length
  .have ji:(12:Int)<t.nodes.length:=by omega
   rw[af e2] at hN hZ;refine sI func77 ntmps77 fun Hb Ht=>?_
   repeat first|simp[jt,e2,ji]|refine sR ?_
   apply sC;simp[jt,e2,ji];repeat first|simp[e2,ji]|refine sR ?_|apply sC
   refine sT (sH ?_);simp[<-hN,<-hZ]
  .have ji:¬(12:Int)<t.nodes.length:=by omega
   rw[ac e2] at hN hZ;by_cases e3:20<t.edges.length
   .have oz:(20:Int)<t.edges.length:=by omega
    rw[af e3] at hN hZ;refine sI func77 ntmps77 fun Hb Ht=>?_
    repeat first|simp[jt,e2,ji,e3,oz]|refine sR ?_
    apply sC;simp[jt,e2,ji];repeat first|simp[e2,ji,e3,oz]|refine sR ?_|apply sC
    refine sT (sH ?_);simp[<-hN,<-hZ]
   .have oz:¬(20:Int)<t.edges.length:=by omega
    rw[ac e3] at hN hZ;refine sI func77 ntmps77 fun Hb Ht=>?_
    repeat first|simp[jt,e2,ji,e3,oz]|refine sR ?_
    apply sC;simp[jt,e2,ji];repeat first|simp[e2,ji,e3,oz]|refine sR ?_|apply sC
    apply sN;refine sL (aLP t nb box tok nt) (fun i=>i<=t.nodes.length/\aA (fH t) i=0) (fun i=>t.nodes.length-i) 0 ⟨ai _,rfl⟩ wkA ?_;rintro i S' ⟨hi,gt⟩ hS;simp only[aLP] at hS;subst hS;have hw:=sW (i:=i) (by omega);repeat first|simp|refine sR ?_|apply sC
    refine⟨fun hlt=>?_,fun hge=>?_⟩
    .have hc:=aIM t ht hM i hlt (fun j hj=>wN (dU i gt j hj));have hR:fH t i≠0->aA (fH t) t.nodes.length=fH t i:=fun h0=>aK gt h0 _ hlt
     have m8:fH t i≠0->iU (fH t) (fun i=>(t.nd i).name) t.nodes.length=t.nodes[i].name:=fun h0=>by rw[gH gt h0 _ hlt,iJ hlt]
     have hnx:fH t i=0->aA (fH t) (i+1)=0:=fun h0=>by simp only[aA,gt,h0,↓reduceIte]
     generalize fH t i=E at *;repeat first|simp[hlt]|refine sR ?_
     refine sD (hc _ _) ?_;repeat first|simp|refine sR ?_
     by_cases e7:E=0
     .apply sC;simp[e7];repeat first|simp[hw]|refine sR ?_
      apply sE;exact⟨i+1,⟨hlt,hnx e7⟩,by omega,wkA⟩
     .have b7:(E != 0)=true:=by simp[e7]
      rw[hR e7,af e7] at hN hZ;rw[m8 e7] at hZ;apply sC;simp[e7,b7];repeat first|simp[hlt]|refine sR ?_
      refine sT (sH ?_);simp[<-hN,<-hZ]
    .apply sX;simp only[AU,↓reduceIte];have:i=t.nodes.length:=by omega
     subst this;rw[ac (by rw[gt];simp)] at hN hZ;repeat first|simp|refine sR ?_
     apply sN;refine sL (aK8 t nb box tok nt) (fun i=>i<=t.edges.length/\aA (fV t) i=0) (fun i=>t.edges.length-i) 0 ⟨ai _,rfl⟩ wkA ?_;rintro i S' ⟨hi,j0⟩ hS;simp only[aK8] at hS;subst hS;have hw:=sW (i:=i) (by omega);repeat first|simp|refine sR ?_|apply sC
     refine⟨fun hlt=>?_,fun hge=>?_⟩
     .have hc:=aHe t ht i hlt;have hR:fV t i≠0->aA (fV t) t.edges.length=fV t i:=fun h0=>aK j0 h0 _ hlt
      have m8:fV t i≠0->iU (fV t) (fun i=>(t.ed i).name) t.edges.length=t.edges[i].name:=fun h0=>by rw[gH j0 h0 _ hlt,uV hlt]
      have hnx:fV t i=0->aA (fV t) (i+1)=0:=fun h0=>by simp only[aA,j0,h0,↓reduceIte]
      generalize fV t i=E at *;repeat first|simp[hlt]|refine sR ?_
      refine sD (hc _ _) ?_;repeat first|simp|refine sR ?_
      by_cases e7:E=0
      .apply sC;simp[e7];repeat first|simp[hw]|refine sR ?_
       apply sE;exact⟨i+1,⟨hlt,hnx e7⟩,by omega,wkA⟩
      .have b7:(E != 0)=true:=by simp[e7]
       rw[hR e7] at hN;rw[m8 e7] at hZ;apply sC;simp[e7,b7];repeat first|simp[hlt]|refine sR ?_
       refine sT (sH ?_);simp[<-hN,<-hZ]
     .apply sX;simp only[AU,↓reduceIte];have:i=t.edges.length:=by omega
      subst this;rw[j0] at hN;rw[tA _ j0] at hZ;repeat first|simp|refine sR ?_
      refine sT (sH ?_);simp[<-hN,<-hZ]
def aPJ(t:Ty)(nb:Nat)(box:Bxs)(tok:Tks)(nt:Nat)(i:Nat):AS:=⟨tl [(29,I i),(28,I t.nodes.length),(27,.d (nts t.nodes)),(1,.ptr (nb+1) 0 0)],lb nb box [(1,[[.d (nts t.nodes),.d (ets t.edges)]])],tok,nt⟩
def aOh(t:Ty)(nb:Nat)(box:Bxs)(tok:Tks)(nt:Nat)(i:Nat):AS:=⟨tl [(46,I i),(45,I t.edges.length),(44,.d (ets t.edges)),(1,.ptr (nb+1) 0 0)],lb nb box [(1,[[.d (nts t.nodes),.d (ets t.edges)]])],tok,nt⟩
theorem lW(t:Ty)(ht:t.Fit)(hM:∀i,(t.nd i).own.length<=1000):DC 119 [t.av] (.tup [Sb (tyN t),I (tyE t)]):=by
 intro tok nt box nb;have qb:=ht.n;have vv:=ht.e;obtain⟨N,hN⟩:∃N,tyE t=N:=⟨_,rfl⟩
 obtain⟨Z,hZ⟩:∃Z,tyN t=Z:=⟨_,rfl⟩
 rw[hN,hZ];unfold tyE at hN;unfold tyN at hZ;by_cases e1:t.nodes.length=0
 .have jt:t.nodes=[]:=dh.1 e1
  rw[af e1] at hN hZ;refine sI func119 ntmps119 fun Hb Ht=>?_
  repeat first|simp[jt]|refine sR ?_|apply sC
  refine sT (sH ?_);simp[<-hN,<-hZ]
 .have jt:¬t.nodes=[]:=fun h=>e1 (by rw[h];rfl)
  rw[ac e1] at hN hZ;by_cases e2:12<t.nodes.length
  .have ji:(12:Int)<t.nodes.length:=by omega
   rw[af e2] at hN hZ;refine sI func119 ntmps119 fun Hb Ht=>?_
   repeat first|simp[jt,e2,ji]|refine sR ?_
   apply sC;simp[jt,e2,ji];repeat first|simp[e2,ji]|refine sR ?_|apply sC
   refine sT (sH ?_);simp[<-hN,<-hZ]
  .have ji:¬(12:Int)<t.nodes.length:=by omega
   rw[ac e2] at hN hZ;by_cases e3:20<t.edges.length
   .have oz:(20:Int)<t.edges.length:=by omega
    rw[af e3] at hN hZ;refine sI func119 ntmps119 fun Hb Ht=>?_
    repeat first|simp[jt,e2,ji,e3,oz]|refine sR ?_
    apply sC;simp[jt,e2,ji];repeat first|simp[e2,ji,e3,oz]|refine sR ?_|apply sC
    refine sT (sH ?_);simp[<-hN,<-hZ]
   .have oz:¬(20:Int)<t.edges.length:=by omega
    rw[ac e3] at hN hZ;refine sI func119 ntmps119 fun Hb Ht=>?_
    repeat first|simp[jt,e2,ji,e3,oz]|refine sR ?_
    apply sC;simp[jt,e2,ji];repeat first|simp[e2,ji,e3,oz]|refine sR ?_|apply sC
    apply sN;refine sL (aPJ t nb box tok nt) (fun i=>i<=t.nodes.length/\aA (fH t) i=0) (fun i=>t.nodes.length-i) 0 ⟨ai _,rfl⟩ wkA ?_;rintro i S' ⟨hi,gt⟩ hS;simp only[aPJ] at hS;subst hS;have hw:=sW (i:=i) (by omega);repeat first|simp|refine sR ?_|apply sC
    refine⟨fun hlt=>?_,fun hge=>?_⟩
    .have hc:=aMl t ht hM i hlt (fun j hj=>wN (dU i gt j hj));have hR:fH t i≠0->aA (fH t) t.nodes.length=fH t i:=fun h0=>aK gt h0 _ hlt
     have m8:fH t i≠0->iU (fH t) (fun i=>(t.nd i).name) t.nodes.length=t.nodes[i].name:=fun h0=>by rw[gH gt h0 _ hlt,iJ hlt]
     have hnx:fH t i=0->aA (fH t) (i+1)=0:=fun h0=>by simp only[aA,gt,h0,↓reduceIte]
     generalize fH t i=E at *;repeat first|simp[hlt]|refine sR ?_
     refine sD (hc _ _) ?_;repeat first|simp|refine sR ?_
     by_cases e7:E=0
     .apply sC;simp[e7];repeat first|simp[hw]|refine sR ?_
      apply sE;exact⟨i+1,⟨hlt,hnx e7⟩,by omega,wkA⟩
     .have b7:(E != 0)=true:=by simp[e7]
      rw[hR e7,af e7] at hN hZ;rw[m8 e7] at hZ;apply sC;simp[e7,b7];repeat first|simp[hlt]|refine sR ?_
      refine sT (sH ?_);simp[<-hN,<-hZ]
    .apply sX;simp only[AU,↓reduceIte];have:i=t.nodes.length:=by omega
     subst this;rw[ac (by rw[gt];simp)] at hN hZ;repeat first|simp|refine sR ?_
     apply sN;refine sL (aOh t nb box tok nt) (fun i=>i<=t.edges.length/\aA (fV t) i=0) (fun i=>t.edges.length-i) 0 ⟨ai _,rfl⟩ wkA ?_;rintro i S' ⟨hi,j0⟩ hS;simp only[aOh] at hS;subst hS;have hw:=sW (i:=i) (by omega);repeat first|simp|refine sR ?_|apply sC
     refine⟨fun hlt=>?_,fun hge=>?_⟩
     .have hc:=aMS t ht i hlt;have hR:fV t i≠0->aA (fV t) t.edges.length=fV t i:=fun h0=>aK j0 h0 _ hlt
      have m8:fV t i≠0->iU (fV t) (fun i=>(t.ed i).name) t.edges.length=t.edges[i].name:=fun h0=>by rw[gH j0 h0 _ hlt,uV hlt]
      have hnx:fV t i=0->aA (fV t) (i+1)=0:=fun h0=>by simp only[aA,j0,h0,↓reduceIte]
      generalize fV t i=E at *;repeat first|simp[hlt]|refine sR ?_
      refine sD (hc _ _) ?_;repeat first|simp|refine sR ?_
      by_cases e7:E=0
      .apply sC;simp[e7];repeat first|simp[hw]|refine sR ?_
       apply sE;exact⟨i+1,⟨hlt,hnx e7⟩,by omega,wkA⟩
      .have b7:(E != 0)=true:=by simp[e7]
       rw[hR e7] at hN;rw[m8 e7] at hZ;apply sC;simp[e7,b7];repeat first|simp[hlt]|refine sR ?_
       refine sT (sH ?_);simp[<-hN,<-hZ]
     .apply sX;simp only[AU,↓reduceIte];have:i=t.edges.length:=by omega
      subst this;rw[j0] at hN;rw[tA _ j0] at hZ;repeat first|simp|refine sR ?_
      refine sT (sH ?_);simp[<-hN,<-hZ]
structure Ru where
 name:ByteArray
 lg:Gr
 lsl:List Sl
 lv:Int
 lte:List Te
 rg:Gr
 rsl:List Sl
 rv:Int
 rte:List Te
 k:Mo
 i:Mo
 inj:Bool
 c:Cd
abbrev Ru.row(r:Ru):List AV:=[.d (.raw (.string r.name)),.d (ints r.lg.nodes),.d (AM.edges r.lg.edges),.d (gS r.lsl),I r.lv,.d (gT r.lte),.d (ints r.rg.nodes),.d (AM.edges r.rg.edges),.d (gS r.rsl),I r.rv,.d (gT r.rte),
 .d (ints r.k.nodes),.d (ints r.k.edges),.d (ints r.i.nodes),.d (ints r.i.edges),B r.inj,I r.c.kind,.d (zW r.c.kids),.d (ints r.c.m.nodes),.d (ints r.c.m.edges),.d (ints r.c.g.nodes),.d (AM.edges r.c.g.edges),.d (gS r.c.sl),I r.c.vars,.d (gT r.c.te)]
abbrev Ru.av(r:Ru):AV:=.agg r.row
structure Ru.Fit (r:Ru):Prop where
 lg:r.lg.Fit
 rg:r.rg.Fit
 k:r.k.Fit
 i:r.i.Fit
 ls:r.lsl.length<=dI
 lt:r.lte.length<=dI
 rs:r.rsl.length<=dI
 rt:r.rte.length<=dI
def Ru.sp(r:Ru):Sp:=⟨r.lg,r.rg,r.k,r.i⟩
def Ru.plainL(r:Ru):Prop:=r.lsl.length+r.lte.length=0/\r.lv=0
def Ru.plainR(r:Ru):Prop:=r.rsl.length+r.rte.length=0/\r.rv=0
instance (r:Ru):Decidable r.plainL:=inferInstanceAs (Decidable (_/\_))
instance (r:Ru):Decidable r.plainR:=inferInstanceAs (Decidable (_/\_))
def cN(r:Ru):Int :=
 if vG r.lg≠0 then vG r.lg else if vG r.rg≠0 then vG r.rg else if cQ r.lg r.k≠0 then cQ r.lg r.k
 else if aG (exG r.lg r.k) r.rg r.i≠0 then aG (exG r.lg r.k) r.rg r.i else if fJ (exG r.lg r.k) r.rg r.i=false then 11
 else if r.plainL/\r.plainR/\r.inj=true then 0 else 8
theorem fZ{r:Ru}(h:cN r=0):aBp r.sp/\vG r.lg=0/\vG r.rg=0:=by
 unfold cN at h;split at h
 .contradiction
 .split at h
  .contradiction
  .split at h
   .contradiction
   .split at h
    .contradiction
    .split at h
     .cases h
     .rename_i h1 h2 h3 h4 h5;exact⟨⟨VP.of (dm.1 h3),Emb.of (show fJ (exG r.lg r.k) r.rg r.i=true by simpa using h5)⟩,dm.1 h1,dm.1 h2⟩
def kH(images keep:List Int)(i:Nat):List Int:=((List.range i).filter fun (i:Nat)=>decide ((i:Int)∉keep)).map fun (i:Nat)=>images.getD i 0
theorem pC(images keep:List Int):kH images keep 0=[]:=rfl
theorem oT(images keep:List Int)(i:Nat):kH images keep (i+1)=if (i:Int)∈keep then kH images keep i else kH images keep i++[images.getD i 0]:=by
 unfold kH;rw[cu,dj,cw];by_cases h:(i:Int)∈keep
 .simp[h]
 .simp[h]
theorem nU(images keep:List Int)(i:Nat):(kH images keep i).length<=i:=by
 unfold kH;rw[br];have:=di (fun (i:Nat)=>decide ((i:Int)∉keep)) (List.range i)
 simpa using this
def aJc(images keep:List Int)(nb:Nat)(box:Bxs)(x:Acc):AS:=⟨tl [(0,.d (ints images)),(1,.d (ints keep)),(5,.osl 1 (rI (kH images keep x.i)) x.own),(6,I x.i)],lb nb box [],x.tok,x.nt⟩
theorem xN(images keep:List Int)(h1:images.length<=1000000)(h2:keep.length<=1000000):DC 212 [.d (ints images),.d (ints keep)] (.d (ints (bY images keep))):=by
 intro tok nt box nb;have hh:=fun v=>uH keep v h2
 refine sI func212 ntmps212 fun Hb Ht=>?_
 repeat first|simp|refine sR ?_
 apply sN;refine sL (aJc images keep nb box) (fun x=>x.i<=images.length/\TK tok nt x.tok x.nt [x.own]) (fun x=>images.length-x.i) ⟨0,.full,tok,nt⟩ ⟨ai _,(TK.start Ht).full⟩ (wM (nr0 _) rfl (by simp[ToL,lk,pC]) trivial) ?_;rintro⟨i,own,tok',nt'⟩ S ⟨hi,htk⟩ hS;simp only[aJc] at hS hi htk;subst hS;have hw:=sW (i:=i) (by omega);have lw:=oT images keep i;have hlen:=nU images keep i;repeat first|simp|refine sR ?_|apply sC
 refine⟨fun hlt=>?_,fun hge=>?_⟩
 .have hg:images.getD i 0=images[i]:=by simp[hlt]
  rw[hg] at lw;repeat first|simp|refine sR ?_
  refine sD (hh _ _ _) ?_;simp;by_cases hm:(i:Int)∈keep
  .rw[af hm] at lw;simp only[hm];repeat first|simp[hw]|refine sR ?_|apply sC
   apply sE;exact⟨⟨i+1,own,tok',nt'⟩,⟨hlt,htk⟩,by simp only;omega,wM htk.le rfl (by simp[ToL,lk,lw]) trivial⟩
  .rw[ac hm] at lw;simp only[hm];repeat first|simp[hlt]|refine sR ?_|apply sC
   refine⟨⟨by omega,htk.live⟩,?_⟩;repeat first|simp[hw]|refine sR ?_
   apply sE;exact⟨⟨i+1,_,_,_⟩,⟨hlt,htk.app⟩,by simp only;omega,wM htk.app.le rfl (by simp[ToL,lk,lw]) trivial⟩
 .apply sX;simp only[AU,↓reduceIte];have:i=images.length:=by omega
  subst this;repeat first|simp|refine sR ?_
  have e:bY images keep=kH images keep images.length:=rfl
  refine sT (sG Hb Ht htk.old htk.le ?_);simp[e]
def mS(n:Nat)(l:List Int):List Int:=((List.range n).filter fun (k:Nat)=>decide ((k:Int)∉l)).map fun (k:Nat)=>(k:Int)
theorem uN(l:List Int)(i:Nat):mS (i+1) l=if (i:Int)∈l then mS i l else mS i l++[(i:Int)]:=by
 unfold mS;rw[cu,dj,cw];by_cases h:(i:Int)∈l
 .simp[h]
 .simp[h]
theorem zH(n:Nat)(l:List Int):(mS n l).length<=n:=by
 unfold mS;rw[br];have:=di (fun (k:Nat)=>decide ((k:Int)∉l)) (List.range n)
 simpa using this
theorem wE(l:List Int):mS 0 l=[]:=rfl
def aH6(n:Nat)(l:List Int)(nb:Nat)(box:Bxs)(x:Acc):AS:=⟨tl [(0,I n),(1,.d (ints l)),(5,.osl 1 (rI (mS x.i l)) x.own),(6,I x.i)],lb nb box [],x.tok,x.nt⟩
theorem aCl(n:Nat)(l:List Int)(h1:n<=1000000)(h2:l.length<=1000000):DC 211 [I n,.d (ints l)] (.d (ints (mS n l))):=by
 intro tok nt box nb;have hh:=fun v=>uH l v h2
 refine sI func211 ntmps211 fun Hb Ht=>?_
 repeat first|simp|refine sR ?_
 apply sN;refine sL (aH6 n l nb box) (fun x=>x.i<=n/\TK tok nt x.tok x.nt [x.own]) (fun x=>n-x.i) ⟨0,.full,tok,nt⟩ ⟨ai _,(TK.start Ht).full⟩ (wM (nr0 _) rfl (by simp[ToL,lk,wE]) trivial) ?_;rintro⟨i,own,tok',nt'⟩ S ⟨hi,htk⟩ hS;simp only[aH6] at hS hi htk;subst hS;have hw:=sW (i:=i) (by omega);have lw:=uN l i;have hlen:=zH i l;repeat first|simp|refine sR ?_|apply sC
 refine⟨fun hlt=>?_,fun hge=>?_⟩
 .repeat first|simp|refine sR ?_
  refine sD (hh _ _ _) ?_;simp;by_cases hm:(i:Int)∈l
  .rw[af hm] at lw;simp only[hm];repeat first|simp[hw]|refine sR ?_|apply sC
   apply sE;exact⟨⟨i+1,own,tok',nt'⟩,⟨hlt,htk⟩,by simp only;omega,wM htk.le rfl (by simp[ToL,lk,lw]) trivial⟩
  .rw[ac hm] at lw;simp only[hm];repeat first|simp|refine sR ?_
   apply sC;repeat first|simp|refine sR ?_
   refine⟨⟨by omega,htk.live⟩,?_⟩;repeat first|simp[hw]|refine sR ?_
   apply sE;exact⟨⟨i+1,_,_,_⟩,⟨hlt,htk.app⟩,by simp only;omega,wM htk.app.le rfl (by simp[ToL,lk,lw]) trivial⟩
 .apply sX;simp only[AU,↓reduceIte];have:i=n:=by omega
  subst this;repeat first|simp|refine sR ?_
  refine sT (sG Hb Ht htk.old htk.le ?_);simp
def lG(g:Gr)(keep m:Mo)(i:Nat):Bool:=decide ((i:Int)∉m.edges/\((g.edges.getD i default).fr∈bY m.nodes keep.nodes∨(g.edges.getD i default).to∈bY m.nodes keep.nodes))
def eL(g:Gr)(keep m:Mo)(n:Nat):List Int:=((List.range n).filter (lG g keep m)).map fun (k:Nat)=>(k:Int)
theorem uM(g:Gr)(keep m:Mo)(i:Nat):eL g keep m (i+1)=if lG g keep m i=true then eL g keep m i++[(i:Int)] else eL g keep m i:=by
 unfold eL;rw[cu,dj,cw];by_cases h:lG g keep m i=true
 .simp[h]
 .simp[h]
theorem aAe(g:Gr)(keep m:Mo)(n:Nat):(eL g keep m n).length<=n:=by
 unfold eL;rw[br];have:=di (lG g keep m) (List.range n)
 simpa using this
theorem zD(g:Gr)(keep m:Mo):decide (0<(eL g keep m g.edges.length).length)=jK g keep m:=by
 rw[dl,au,jK,dv,eL,br,List.length_pos_iff_exists_mem];constructor
 .rintro⟨k,hk⟩;have:=b8.1 hk;exact⟨k,this.1,this.2⟩
 .rintro⟨k,h1,h2⟩;exact⟨k,b8.2 ⟨h1,h2⟩⟩
theorem vY(g:Gr)(keep m:Mo):eL g keep m 0=[]:=rfl
def aH3(g:Gr)(keep m:Mo)(nb:Nat)(box:Bxs)(x:Acc):AS :=
 ⟨tl [(11,I x.i),(10,.d (ints (bY m.nodes keep.nodes))),(9,.osl 1 (rI (eL g keep m x.i)) x.own),(7,.ptr (nb+7) 0 0),(5,.ptr (nb+5) 0 0)],lb nb box [(7,[[.d (ints m.nodes),.d (ints m.edges)]]),(5,[[.d (ints g.nodes),.d (AM.edges g.edges)]])],x.tok,x.nt⟩
theorem aBy(l g:Gr)(keep m:Mo)(hg:g.Fit)(hm:m.Fit)(hk:keep.Fit):DC 210 [l.av,g.av,keep.av,m.av] (.d (ints (eL g keep m g.edges.length))):=by
 intro tok nt box nb;have hh:=fun v=>uH m.edges v hm.e
 have A5:=xN m.nodes keep.nodes hm.n hk.n;have uj:=fun v=>uH (bY m.nodes keep.nodes) v (by have:=nU m.nodes keep.nodes m.nodes.length;have:=hm.n;unfold bY;unfold kH at *;omega)
 refine sI func210 ntmps210 fun Hb Ht=>?_
 repeat first|simp|refine sR ?_
 refine sD (A5 _ _) ?_;repeat first|simp|refine sR ?_
 apply sN;have hge:=hg.e;refine sL (aH3 g keep m nb box) (fun x=>x.i<=g.edges.length/\TK tok nt x.tok x.nt [x.own]) (fun x=>g.edges.length-x.i) ⟨0,.full,tok,nt⟩ ⟨ai _,(TK.start Ht).full⟩ (wM (nr0 _) rfl (by simp[ToL,lk,vY]) (by simp[aE,lk])) ?_;rintro⟨i,own,tok',nt'⟩ S ⟨hi,htk⟩ hS;simp only[aH3] at hS hi htk;subst hS;have hw:=sW (i:=i) (by omega);have lw:=uM g keep m i;have hlen:=aAe g keep m i;repeat first|simp|refine sR ?_|apply sC
 refine⟨fun hlt=>?_,fun hge=>?_⟩
 .have mt:g.edges.getD i default=g.edges[i]:=by simp[hlt]
  have hP:lG g keep m i=(decide ((i:Int)∉m.edges)&&(decide (g.edges[i].fr∈bY m.nodes keep.nodes)||decide (g.edges[i].to∈bY m.nodes keep.nodes))):=by unfold lG;rw[mt];simp
  have no:lG g keep m i=false->eL g keep m (i+1)=eL g keep m i:=fun h=>by rw[lw,ac (by simp[h])]
  have yes:lG g keep m i=true->eL g keep m (i+1)=eL g keep m i++[(i:Int)]:=fun h=>by rw[lw,af h]
  repeat first|simp|refine sR ?_
  refine sD (hh _ _ _) ?_;simp;by_cases hm:(i:Int)∈m.edges
  .have no:=no (by rw[hP];simp[hm]);simp only[hm];repeat first|simp[hw]|refine sR ?_|apply sC
   apply sE;exact⟨⟨i+1,own,tok',nt'⟩,⟨hlt,htk⟩,by simp only;omega,wM htk.le rfl (by simp[ToL,lk,no]) (by simp[aE,lk])⟩
  .simp only[hm];repeat first|simp[hlt]|refine sR ?_
   refine sD (uj _ _ _) ?_;simp;by_cases h1:g.edges[i].fr∈bY m.nodes keep.nodes
   .have yes:=yes (by rw[hP];simp[hm,h1]);simp only[h1];repeat first|simp|refine sR ?_
    apply sC;repeat first|simp|refine sR ?_
    refine⟨⟨by omega,htk.live⟩,?_⟩;repeat first|simp[hw]|refine sR ?_
    apply sE;exact⟨⟨i+1,_,_,_⟩,⟨hlt,htk.app⟩,by simp only;omega,wM htk.app.le rfl (by simp[ToL,lk,yes]) (by simp[aE,lk])⟩
   .simp only[h1];repeat first|simp[hlt]|refine sR ?_
    refine sD (uj _ _ _) ?_;simp;by_cases h2:g.edges[i].to∈bY m.nodes keep.nodes
    .have yes:=yes (by rw[hP];simp[hm,h2]);simp only[h2];repeat first|simp|refine sR ?_
     apply sC;repeat first|simp|refine sR ?_
     refine⟨⟨by omega,htk.live⟩,?_⟩;repeat first|simp[hw]|refine sR ?_
     apply sE;exact⟨⟨i+1,_,_,_⟩,⟨hlt,htk.app⟩,by simp only;omega,wM htk.app.le rfl (by simp[ToL,lk,yes]) (by simp[aE,lk])⟩
    .have no:=no (by rw[hP];simp[hm,h1,h2]);simp only[h2];repeat first|simp[hw]|refine sR ?_|apply sC
     apply sE;exact⟨⟨i+1,own,tok',nt'⟩,⟨hlt,htk⟩,by simp only;omega,wM htk.le rfl (by simp[ToL,lk,no]) (by simp[aE,lk])⟩
 .apply sX;simp only[AU,↓reduceIte];have:i=g.edges.length:=by omega
  subst this;repeat first|simp|refine sR ?_
  refine sT (sG Hb Ht htk.old htk.le ?_);simp
def aIb(images keep:List Int)(nb:Nat)(box:Bxs)(tok:Tks)(nt:Nat)(i:Nat):AS:=⟨tl [(0,.d (ints images)),(1,.d (ints keep)),(5,.osl 0 [] .full),(6,I i)],lb nb box [],tok,nt⟩
def aE4(images keep:List Int)(i:Nat)(nb:Nat)(box:Bxs)(tok:Tks)(nt:Nat)(k:Nat):AS:=⟨tl [(0,.d (ints images)),(1,.d (ints keep)),(5,.osl 0 [] .full),(6,I i),(7,I k)],lb nb box [],tok,nt⟩
theorem nA(images keep:List Int)(h1:images.length<=1000000)(h2:keep.length<=1000000)(hn:images.Nodup):DC 209 [.d (ints images),.d (ints keep)] (.d (.sl 2 [])):=by
 intro tok nt box nb;refine sI func209 ntmps209 fun Hb Ht=>?_
 repeat first|simp|refine sR ?_
 apply sN;refine sL (aIb images keep nb box tok nt) (fun i=>i<=images.length) (fun i=>images.length-i) 0 (ai _) (wM (nr0 _) rfl (by simp[ToL,lk]) trivial) ?_;rintro i S hi hS;simp only[aIb] at hS;subst hS;have hw:=sW (i:=i) (by omega);repeat first|simp|refine sR ?_|apply sC
 refine⟨fun hlt=>?_,fun hge=>?_⟩
 .repeat first|simp[hw]|refine sR ?_
  apply sN;refine sL (aE4 images keep i nb box tok nt) (fun k=>i<k/\k<=images.length) (fun k=>images.length-k) (i+1) ⟨d5 _,hlt⟩ (wM (nr0 _) rfl (by simp[ToL,lk]) trivial) ?_;rintro k S ⟨A1,hk⟩ hS;simp only[aE4] at hS;subst hS;have nc:=sW (i:=k) (by omega);repeat first|simp|refine sR ?_|apply sC
  refine⟨fun ku=>?_,fun hge=>?_⟩
  .have hne:(images[i]==images[k])=false:=by
    have:=dk.1 hn i k hlt ku A1
    simpa using this
   repeat first|simp[hlt,ku,hne]|refine sR ?_
   apply sC;simp;repeat first|simp[nc]|refine sR ?_
   apply sE;exact⟨k+1,⟨by omega,ku⟩,by omega,wM (nr0 _) rfl (by simp[ToL,lk]) trivial⟩
  .apply sX;simp only[AU,↓reduceIte];repeat first|simp[hw]|refine sR ?_
   apply sE;exact⟨i+1,hlt,by omega,wM (nr0 _) rfl (by simp[ToL,lk]) trivial⟩
 .apply sX;simp only[AU,↓reduceIte];repeat first|simp|refine sR ?_
  refine sT (sH ?_);simp
theorem aGa(l g:Gr)(keep m:Mo)(hl:l.Fit)(hg:g.Fit)(hm:m.Fit)(hk:keep.Fit):DC 208 [l.av,g.av,keep.av,m.av] (I (if aG l g m≠0 then aG l g m else cQ l keep)):=by
 intro tok nt box nb;have h1:=kI l g m hl hg;have h2:=nJ l keep hl hk;refine sI func208 ntmps208 fun Hb Ht=>?_
 repeat first|simp|refine sR ?_
 refine sD (h1 _ _) ?_;repeat first|simp|refine sR ?_
 by_cases e1:aG l g m=0
 .simp only[e1];apply sC;repeat first|simp|refine sR ?_
  refine sD (h2 _ _) ?_;repeat first|simp|refine sR ?_
  refine sT (sH ?_);simp[e1]
 .have b1:(aG l g m != 0)=true:=by simp[e1]
  simp only[b1];apply sC;repeat first|simp|refine sR ?_
  refine sT (sH ?_);simp[e1]
def uA(l g:Gr)(keep m:Mo):Mo × Int:=if jK g keep m=true then (⟨[],[]⟩,14) else (aGB g keep m,0)
theorem wC(n:Nat)(images keep:List Int):mS n (bY images keep)=fX n images keep:=rfl
theorem rK(images keep:List Int):(bY images keep).length<=images.length:=nU images keep images.length
theorem aMJ(l g:Gr)(keep m:Mo)(hl:l.Fit)(hg:g.Fit)(hm:m.Fit)(hk:keep.Fit)(he:Emb l g m)(hp:VP l keep):DC 147 [l.av,g.av,keep.av,m.av] (.tup [(uA l g keep m).1.av,I (uA l g keep m).2]):=by
 intro tok nt box nb;have h1:=aGa l g keep m hl hg hm hk;rw[he.v,hp.v] at h1;have i1:=nA m.nodes keep.nodes hm.n hk.n he.n;have i2:=nA m.edges keep.edges hm.e hk.e he.e;have hd:=aBy l g keep m hg hm hk;have sd:=zD g keep m;have w6:=hm.n;have BQ:=hm.e;have sc:=hg.n;have hge:=hg.e;have g1:=xN m.nodes keep.nodes hm.n hk.n;have g2:=xN m.edges keep.edges hm.e hk.e;have l1:=rK m.nodes keep.nodes;have l2:=rK m.edges keep.edges;have r1:=aCl g.nodes.length (bY m.nodes keep.nodes) (by omega) (by omega);have r2:=aCl g.edges.length (bY m.edges keep.edges) (by omega) (by omega);rw[wC] at r1 r2;refine sI func147 ntmps147 fun Hb Ht=>?_
 repeat first|simp|refine sR ?_
 refine sD (h1 _ _) ?_;repeat first|simp|refine sR ?_
 apply sC;repeat first|simp|refine sR ?_
 refine sD (i1 _ _) ?_;repeat first|simp|refine sR ?_
 have w0:IntKind.i64.wrap 0=0:=rfl
 refine sD (i2 _ _) ?_;simp[w0];repeat first|simp[w0]|refine sR ?_
 apply sC;repeat first|simp|refine sR ?_
 refine sD (hd _ _) ?_;repeat first|simp|refine sR ?_
 have zo:aGB g keep m=⟨fX g.nodes.length m.nodes keep.nodes,fX g.edges.length m.edges keep.edges⟩:=rfl
 rw[sd];cases hx:jK g keep m
 .apply sC;repeat first|simp|refine sR ?_
  refine sD (g1 _ _) ?_;repeat first|simp|refine sR ?_
  refine sD (r1 _ _) ?_;repeat first|simp|refine sR ?_
  refine sD (g2 _ _) ?_;repeat first|simp|refine sR ?_
  refine sD (r2 _ _) ?_;repeat first|simp|refine sR ?_
  refine sT (sH ?_);simp[uA,hx,zo]
 .apply sC;repeat first|simp|refine sR ?_
  refine sT (sH ?_);simp[uA,hx,ints]
abbrev aJW(l g:Gr)(keep m:Mo):AV:=.agg [.d (ints l.nodes),.d (AM.edges l.edges),.d (ints g.nodes),.d (AM.edges g.edges),.d (ints keep.nodes),.d (ints keep.edges),.d (ints m.nodes),.d (ints m.edges)]
theorem aHz(l g:Gr)(keep m:Mo)(hl:l.Fit)(hg:g.Fit)(hm:m.Fit)(hk:keep.Fit):DC 111 [aJW l g keep m] (I (if aG l g m≠0 then aG l g m else cQ l keep)):=by
 intro tok nt box nb;have h1:=kF l g m hl hg;have h2:=pV l keep hl hk;refine sI func111 ntmps111 fun Hb Ht=>?_
 repeat first|simp|refine sR ?_
 refine sD (h1 _ _) ?_;repeat first|simp|refine sR ?_
 by_cases e1:aG l g m=0
 .simp only[e1];apply sC;repeat first|simp|refine sR ?_
  refine sD (h2 _ _) ?_;repeat first|simp|refine sR ?_
  refine sT (sH ?_);simp[e1]
 .have b1:(aG l g m != 0)=true:=by simp[e1]
  simp only[b1];apply sC;repeat first|simp|refine sR ?_
  refine sT (sH ?_);simp[e1]
def aPl(l g:Gr)(keep m:Mo)(nb:Nat)(box:Bxs)(x:Acc):AS :=
 ⟨tl [(10,I x.i),(9,I m.nodes.length),(8,.d (ints m.nodes)),(3,.osl 1 (rI (kH m.nodes keep.nodes x.i)) x.own),(1,.ptr (nb+1) 0 0)],lb nb box [(1,[[.d (ints l.nodes),.d (AM.edges l.edges),.d (ints g.nodes),.d (AM.edges g.edges),.d (ints keep.nodes),.d (ints keep.edges),.d (ints m.nodes),.d (ints m.edges)]])],x.tok,x.nt⟩
theorem aF0(l g:Gr)(keep m:Mo)(hm:m.Fit)(hk:keep.Fit):DC 172 [aJW l g keep m] (.d (ints (bY m.nodes keep.nodes))):=by
 intro tok nt box nb;have hh:=fun v=>bN keep.nodes v hk.n
 refine sI func172 ntmps172 fun Hb Ht=>?_
 repeat first|simp|refine sR ?_
 apply sN;have w6:=hm.n;refine sL (aPl l g keep m nb box) (fun x=>x.i<=m.nodes.length/\TK tok nt x.tok x.nt [x.own]) (fun x=>m.nodes.length-x.i) ⟨0,.full,tok,nt⟩ ⟨ai _,(TK.start Ht).full⟩ (wM (nr0 _) rfl (by simp[ToL,lk,pC]) (by simp[aE,lk])) ?_;rintro⟨i,own,tok',nt'⟩ S ⟨hi,htk⟩ hS;simp only[aPl] at hS hi htk;subst hS;have hw:=sW (i:=i) (by omega);have lw:=oT m.nodes keep.nodes i;have hlen:=nU m.nodes keep.nodes i;repeat first|simp|refine sR ?_|apply sC
 refine⟨fun hlt=>?_,fun hge=>?_⟩
 .have hg:m.nodes.getD i 0=m.nodes[i]:=by simp[hlt]
  rw[hg] at lw;repeat first|simp[hlt]|refine sR ?_
  refine sD (hh _ _ _) ?_;simp;by_cases qa:(i:Int)∈keep.nodes
  .rw[af qa] at lw;simp only[qa];repeat first|simp[hw]|refine sR ?_|apply sC
   apply sE;exact⟨⟨i+1,own,tok',nt'⟩,⟨hlt,htk⟩,by simp only;omega,wM htk.le rfl (by simp[ToL,lk,lw]) (by simp[aE,lk])⟩
  .rw[ac qa] at lw;simp only[qa];repeat first|simp|refine sR ?_
   apply sC;repeat first|simp|refine sR ?_
   refine⟨⟨by omega,htk.live⟩,?_⟩;repeat first|simp[hw]|refine sR ?_
   apply sE;exact⟨⟨i+1,_,_,_⟩,⟨hlt,htk.app⟩,by simp only;omega,wM htk.app.le rfl (by simp[ToL,lk,lw]) (by simp[aE,lk])⟩
 .apply sX;simp only[AU,↓reduceIte];have:i=m.nodes.length:=by omega
  subst this;repeat first|simp|refine sR ?_
  have e:bY m.nodes keep.nodes=kH m.nodes keep.nodes m.nodes.length:=rfl
  refine sT (sG Hb Ht htk.old htk.le ?_);simp[e]
def aOz(images keep:List Int)(nb:Nat)(box:Bxs)(tok:Tks)(nt:Nat)(i:Nat):AS:=⟨tl [(10,I i),(9,I images.length),(8,.d (ints images)),(0,.d (ints images)),(1,.d (ints keep)),(5,.osl 0 [] .full)],lb nb box [],tok,nt⟩
def aLs(images keep:List Int)(i:Nat)(nb:Nat)(box:Bxs)(tok:Tks)(nt:Nat)(k:Nat):AS:=⟨tl [(10,I i),(9,I images.length),(8,.d (ints images)),(0,.d (ints images)),(1,.d (ints keep)),(5,.osl 0 [] .full),(6,I i),(7,I k)],lb nb box [],tok,nt⟩
theorem aCG(images keep:List Int)(h1:images.length<=1000000)(h2:keep.length<=1000000)(hn:images.Nodup):DC 171 [.d (ints images),.d (ints keep)] (.d (.sl 2 [])):=by
 intro tok nt box nb;refine sI func171 ntmps171 fun Hb Ht=>?_
 repeat first|simp|refine sR ?_
 apply sN;refine sL (aOz images keep nb box tok nt) (fun i=>i<=images.length) (fun i=>images.length-i) 0 (ai _) (wM (nr0 _) rfl (by simp[ToL,lk]) trivial) ?_;rintro i S hi hS;simp only[aOz] at hS;subst hS;have hw:=sW (i:=i) (by omega);repeat first|simp|refine sR ?_|apply sC
 refine⟨fun hlt=>?_,fun hge=>?_⟩
 .repeat first|simp[hw]|refine sR ?_
  apply sN;refine sL (aLs images keep i nb box tok nt) (fun k=>i<k/\k<=images.length) (fun k=>images.length-k) (i+1) ⟨d5 _,hlt⟩ (wM (nr0 _) rfl (by simp[ToL,lk]) trivial) ?_;rintro k S ⟨A1,hk⟩ hS;simp only[aLs] at hS;subst hS;have nc:=sW (i:=k) (by omega);repeat first|simp|refine sR ?_|apply sC
  refine⟨fun ku=>?_,fun hge=>?_⟩
  .have hne:(images[i]==images[k])=false:=by
    have:=dk.1 hn i k hlt ku A1
    simpa using this
   repeat first|simp[hlt,ku,hne]|refine sR ?_
   apply sC;simp;repeat first|simp[nc]|refine sR ?_
   apply sE;exact⟨k+1,⟨by omega,ku⟩,by omega,wM (nr0 _) rfl (by simp[ToL,lk]) trivial⟩
  .apply sX;simp only[AU,↓reduceIte];repeat first|simp[hw]|refine sR ?_
   apply sE;exact⟨i+1,hlt,by omega,wM (nr0 _) rfl (by simp[ToL,lk]) trivial⟩
 .apply sX;simp only[AU,↓reduceIte];repeat first|simp|refine sR ?_
  refine sT (sH ?_);simp
def aOj(l g:Gr)(keep m:Mo)(nb:Nat)(box:Bxs)(x:Acc):AS :=
 ⟨tl [(13,I x.i),(12,I g.edges.length),(11,.d (AM.edges g.edges)),(4,.osl 1 (rI (eL g keep m x.i)) x.own),(3,.d (ints (bY m.nodes keep.nodes))),(1,.ptr (nb+1) 0 0)],lb nb box [(1,[[.d (ints l.nodes),.d (AM.edges l.edges),.d (ints g.nodes),.d (AM.edges g.edges),.d (ints keep.nodes),.d (ints keep.edges),.d (ints m.nodes),.d (ints m.edges)]])],x.tok,x.nt⟩
theorem aCc(l g:Gr)(keep m:Mo)(hg:g.Fit)(hm:m.Fit)(hk:keep.Fit):DC 113 [aJW l g keep m] (.d (ints (eL g keep m g.edges.length))):=by
 intro tok nt box nb;have hh:=fun v=>bN m.edges v hm.e
 have A5:=aF0 l g keep m hm hk;have uj:=fun v=>bN (bY m.nodes keep.nodes) v (by have:=rK m.nodes keep.nodes;have:=hm.n;omega)
 refine sI func113 ntmps113 fun Hb Ht=>?_
 repeat first|simp|refine sR ?_
 refine sD (A5 _ _) ?_;repeat first|simp|refine sR ?_
 apply sN;have hge:=hg.e;refine sL (aOj l g keep m nb box) (fun x=>x.i<=g.edges.length/\TK tok nt x.tok x.nt [x.own]) (fun x=>g.edges.length-x.i) ⟨0,.full,tok,nt⟩ ⟨ai _,(TK.start Ht).full⟩ (wM (nr0 _) rfl (by simp[ToL,lk,vY]) (by simp[aE,lk])) ?_;rintro⟨i,own,tok',nt'⟩ S ⟨hi,htk⟩ hS;simp only[aOj] at hS hi htk;subst hS;have hw:=sW (i:=i) (by omega);have lw:=uM g keep m i;have hlen:=aAe g keep m i;repeat first|simp|refine sR ?_|apply sC
 refine⟨fun hlt=>?_,fun hge=>?_⟩
 .have mt:g.edges.getD i default=g.edges[i]:=by simp[hlt]
  have hP:lG g keep m i=(decide ((i:Int)∉m.edges)&&(decide (g.edges[i].fr∈bY m.nodes keep.nodes)||decide (g.edges[i].to∈bY m.nodes keep.nodes))):=by unfold lG;rw[mt];simp
  have no:lG g keep m i=false->eL g keep m (i+1)=eL g keep m i:=fun h=>by rw[lw,ac (by simp[h])]
  have yes:lG g keep m i=true->eL g keep m (i+1)=eL g keep m i++[(i:Int)]:=fun h=>by rw[lw,af h]
  repeat first|simp[hlt]|refine sR ?_
  refine sD (hh _ _ _) ?_;simp;by_cases qa:(i:Int)∈m.edges
  .have no:=no (by rw[hP];simp[qa]);simp only[qa];repeat first|simp[hw]|refine sR ?_|apply sC
   apply sE;exact⟨⟨i+1,own,tok',nt'⟩,⟨hlt,htk⟩,by simp only;omega,wM htk.le rfl (by simp[ToL,lk,no]) (by simp[aE,lk])⟩
  .simp only[qa];repeat first|simp|refine sR ?_
   refine sD (uj _ _ _) ?_;simp;by_cases h1:g.edges[i].fr∈bY m.nodes keep.nodes
   .have yes:=yes (by rw[hP];simp[qa,h1]);simp only[h1];repeat first|simp|refine sR ?_
    apply sC;repeat first|simp|refine sR ?_
    refine⟨⟨by omega,htk.live⟩,?_⟩;repeat first|simp[hw]|refine sR ?_
    apply sE;exact⟨⟨i+1,_,_,_⟩,⟨hlt,htk.app⟩,by simp only;omega,wM htk.app.le rfl (by simp[ToL,lk,yes]) (by simp[aE,lk])⟩
   .simp only[h1];repeat first|simp|refine sR ?_
    refine sD (uj _ _ _) ?_;simp;by_cases h2:g.edges[i].to∈bY m.nodes keep.nodes
    .have yes:=yes (by rw[hP];simp[qa,h2]);simp only[h2];repeat first|simp|refine sR ?_
     apply sC;repeat first|simp|refine sR ?_
     refine⟨⟨by omega,htk.live⟩,?_⟩;repeat first|simp[hw]|refine sR ?_
     apply sE;exact⟨⟨i+1,_,_,_⟩,⟨hlt,htk.app⟩,by simp only;omega,wM htk.app.le rfl (by simp[ToL,lk,yes]) (by simp[aE,lk])⟩
    .have no:=no (by rw[hP];simp[qa,h1,h2]);simp only[h2];repeat first|simp[hw]|refine sR ?_|apply sC
     apply sE;exact⟨⟨i+1,own,tok',nt'⟩,⟨hlt,htk⟩,by simp only;omega,wM htk.le rfl (by simp[ToL,lk,no]) (by simp[aE,lk])⟩
 .apply sX;simp only[AU,↓reduceIte];have:i=g.edges.length:=by omega
  subst this;repeat first|simp|refine sR ?_
  refine sT (sG Hb Ht htk.old htk.le ?_);simp
def fY(bs:List Bool):List (List AV):=bs.map fun b=>[AV.d (.raw (.bool b))]
theorem aBR(bs:List Bool):fY bs=cG (bs.map fun b=>[D.raw (.bool b)]):=by simp[fY,cG]
@[simp] theorem aRI(bs:List Bool)(i:Nat)(v:Bool):(fY bs).set i [AV.d (.raw (.bool v))]=fY (bs.set i v):=by simp[fY,List.map_set]
@[simp] theorem aKw(bs:List Bool):(fY bs).length=bs.length:=by simp[fY]
@[simp high] theorem aNo{bs:List Bool}{i:Nat}(h:i<bs.length):(fY bs)[i]?=some [AV.d (.raw (.bool bs[i]))]:=by simp[fY,h]
@[simp] theorem aNs{p q:Nat->Prop}{fz:Option (Nat × Nat × List (List D))}(bs:List Bool):gA p q fz (fY bs) (fY bs):=by rw[aBR];simp
def fS(n:Nat)(images keep:List Int):Nat->List Bool
 | 0=>List.replicate n false
 | i+1=>if (i:Int)∈keep then fS n images keep i else (fS n images keep i).set (images.getD i 0).toNat true
theorem kJ(n:Nat)(images keep:List Int):∀i,(fS n images keep i).length=n
 | 0=>by simp[fS]
 | i+1=>by
  unfold fS;split
  .exact kJ n images keep i
  .rw[List.length_set];exact kJ n images keep i
theorem aAg(n:Nat)(images keep:List Int)(hr:∀x∈images,0<=x/\x<n):∀i,i<=images.length->∀k,k<n->(fS n images keep i).getD k false=decide ((k:Int)∈kH images keep i)
 | 0,_,k,hk=>by simp[fS,pC,hk]
 | i+1,hi,k,hk=>by
  have ih:=aAg n images keep hr i (by omega) k hk;have rg:=hr _ (aO (d:=0) (show i<images.length by omega));rw[oT];unfold fS;by_cases hm:(i:Int)∈keep
  .rw[af hm,af hm];exact ih
  .rw[ac hm,ac hm];have hl:=kJ n images keep i;by_cases e:(images.getD i 0).toNat=k
   .rw[e,ao,List.getElem?_set_self (by omega)];have:(k:Int)=images.getD i 0:=by omega
    simp[this]
   .rw[ao,List.getElem?_set_ne e,<-List.getD_eq_getElem?_getD,ih];have:¬(k:Int)=images.getD i 0:=by omega
    rw[decide_eq_decide,ap,a7];simp only[this,or_false]
def aPb(n:Nat)(images keep:List Int)(nb:Nat)(box:Bxs)(tok:Tks)(nt:Nat)(i:Nat):AS :=
 ⟨tl [(17,I i),(16,I images.length),(15,.d (ints images)),(7,.msl (nb+14) 0 n 1),(6,.osl 0 [] .full),(0,I n),(2,.d (ints keep))],lb nb box [(14,fY (fS n images keep i))],tok,nt⟩
def aPY(n:Nat)(images keep:List Int)(nb:Nat)(box:Bxs)(x:Acc):AS :=
 ⟨tl [(32,I x.i),(31,I n),(30,.msl (nb+14) 0 n 1),(10,.osl 1 (rI (mS x.i (bY images keep))) x.own)],lb nb box [(14,fY (fS n images keep images.length))],x.tok,x.nt⟩
theorem aEF(n:Nat)(images keep:List Int)(hn:n<=1000000)(h1:images.length<=1000000)(h2:keep.length<=1000000)(hr:∀x∈images,0<=x/\x<n):DC 114 [I n,.d (ints images),.d (ints keep)] (.d (ints (fX n images keep))):=by
 intro tok nt box nb;have hh:=fun v=>bN keep v h2
 refine sI func114 ntmps114 fun Hb Ht=>?_
 repeat first|simp|refine sR ?_
 refine⟨by omega,?_⟩;repeat first|simp|refine sR ?_
 apply sN;have BX:List.replicate n [B false]=fY (fS n images keep 0):=by simp[fS,fY]
 refine sL (aPb n images keep nb box tok nt) (fun i=>i<=images.length) (fun i=>images.length-i) 0 (ai _) (wM (nr0 _) rfl (by simp[ToL,lk]) (by simp[aE,lk,BX])) ?_;rintro i S hi hS;simp only[aPb] at hS;subst hS;have hw:=sW (i:=i) (by omega);have hgl:=kJ n images keep i;repeat first|simp|refine sR ?_|apply sC
 refine⟨fun hlt=>?_,fun hge=>?_⟩
 .obtain⟨r1,r2⟩:=hr _ (aa hlt);have r3:images[i].toNat<n:=by omega
  have hg:images.getD i 0=images[i]:=by simp[hlt]
  repeat first|simp[hlt]|refine sR ?_
  refine sD (hh _ _ _) ?_;simp;by_cases hm:(i:Int)∈keep
  .have lw:fS n images keep (i+1)=fS n images keep i:=af hm
   simp only[hm];repeat first|simp[hw]|refine sR ?_|apply sC
   apply sE;exact⟨i+1,hlt,by omega,wM (nr0 _) rfl (by simp[ToL,lk]) (by simp[aE,lk,lw])⟩
  .have lw:fS n images keep (i+1)=(fS n images keep i).set images[i].toNat true:=by rw[<-hg];exact ac hm
   simp only[hm];repeat first|simp[r1,r2,r3,hgl,hw]|refine sR ?_|apply sC
   apply sE;exact⟨i+1,hlt,by omega,wM (nr0 _) rfl (by simp[ToL,lk]) (by simp[aE,lk,lw])⟩
 .apply sX;simp only[AU,↓reduceIte];have:i=images.length:=by omega
  subst this;repeat first|simp|refine sR ?_
  apply sN;refine sL (aPY n images keep nb box) (fun x=>x.i<=n/\TK tok nt x.tok x.nt [x.own]) (fun x=>n-x.i) ⟨0,.full,tok,nt⟩ ⟨ai _,(TK.start Ht).full⟩ (wM (nr0 _) rfl (by simp[ToL,lk,wE]) (by simp[aE,lk])) ?_;rintro⟨i,own,tok',nt'⟩ S ⟨hi,htk⟩ hS;simp only[aPY] at hS hi htk;subst hS;have hw:=sW (i:=i) (by omega);have lw:=uN (bY images keep) i;have hlen:=zH i (bY images keep);have uy:=aAg n images keep hr images.length (nr0 _) i;repeat first|simp|refine sR ?_|apply sC
  refine⟨fun hlt=>?_,fun hge=>?_⟩
  .have uy:=uy hlt;have BY:=kJ n images keep images.length
   have uy:(fS n images keep images.length)[i]'(by omega)=decide ((i:Int)∈bY images keep):=by
    have h:(fS n images keep images.length)[i]?=some ((fS n images keep images.length)[i]'(by omega)):=ab (by omega)
    rw[ao,h] at uy;exact uy
   repeat first|simp[hlt,BY]|refine sR ?_
   rw[uy];by_cases hm:(i:Int)∈bY images keep
   .rw[af hm] at lw;simp only[hm];apply sC;simp;repeat first|simp[hw]|refine sR ?_
    apply sE;exact⟨⟨i+1,own,tok',nt'⟩,⟨hlt,htk⟩,by simp only;omega,wM htk.le rfl (by simp[ToL,lk,lw]) (by simp[aE,lk])⟩
   .rw[ac hm] at lw;simp only[hm];apply sC;repeat first|simp|refine sR ?_
    refine⟨⟨by omega,htk.live⟩,?_⟩;repeat first|simp[hw]|refine sR ?_
    apply sE;exact⟨⟨i+1,_,_,_⟩,⟨hlt,htk.app⟩,by simp only;omega,wM htk.app.le rfl (by simp[ToL,lk,lw]) (by simp[aE,lk])⟩
  .apply sX;simp only[AU,↓reduceIte];have:i=n:=by omega
   subst this;repeat first|simp|refine sR ?_
   refine sT (sG Hb Ht htk.old htk.le ?_);simp[wC]
theorem aHa(l g:Gr)(keep m:Mo)(hm:m.Fit)(hk:keep.Fit)(hn:m.nodes.Nodup)(he:m.edges.Nodup):DC 112 [aJW l g keep m] (.tup [.d (.sl 2 []),.d (.sl 2 [])]):=by
 intro tok nt box nb;have i1:=aCG m.nodes keep.nodes hm.n hk.n hn;have i2:=aCG m.edges keep.edges hm.e hk.e he;refine sI func112 ntmps112 fun Hb Ht=>?_
 repeat first|simp|refine sR ?_
 refine sD (i1 _ _) ?_;repeat first|simp|refine sR ?_
 refine sD (i2 _ _) ?_;repeat first|simp|refine sR ?_
 refine sT (sH ?_);simp
theorem aPu(l g:Gr)(keep m:Mo)(hl:l.Fit)(hg:g.Fit)(hm:m.Fit)(hk:keep.Fit)(he:Emb l g m)(hp:VP l keep):DC 68 [l.av,g.av,keep.av,m.av] (.tup [(uA l g keep m).1.av,I (uA l g keep m).2]):=by
 intro tok nt box nb;have h1:=aHz l g keep m hl hg hm hk;rw[he.v,hp.v] at h1;have i1:=aHa l g keep m hm hk he.n he.e;have hd:=aCc l g keep m hg hm hk;have sd:=zD g keep m;have sc:=hg.n;have hge:=hg.e;have v:=he.vm;have r1:=aEF g.nodes.length m.nodes keep.nodes (by omega) hm.n hk.n v.n;have r2:=aEF g.edges.length m.edges keep.edges (by omega) hm.e hk.e v.e;have w0:IntKind.i64.wrap 0=0:=rfl
 refine sI func68 ntmps68 fun Hb Ht=>?_
 repeat first|simp|refine sR ?_
 refine sD (h1 _ _) ?_;repeat first|simp|refine sR ?_
 apply sC;repeat first|simp|refine sR ?_
 refine sD (i1 _ _) ?_;simp;repeat first|simp[w0]|refine sR ?_
 have zo:aGB g keep m=⟨fX g.nodes.length m.nodes keep.nodes,fX g.edges.length m.edges keep.edges⟩:=rfl
 apply sC;repeat first|simp|refine sR ?_
 refine sD (hd _ _) ?_;repeat first|simp|refine sR ?_
 rw[sd];cases hx:jK g keep m
 .apply sC;repeat first|simp|refine sR ?_
  refine sD (r1 _ _) ?_;repeat first|simp|refine sR ?_
  refine sD (r2 _ _) ?_;repeat first|simp|refine sR ?_
  refine sT (sH ?_);simp[uA,hx,zo]
 .apply sC;repeat first|simp|refine sR ?_
  refine sT (sH ?_);simp[uA,hx,ints]
def aLr(ns:List Int)(js:List Int)(i:Nat):List Int:=(js.take i).map fun j=>ns.getD j.toNat 0
@[simp] theorem aNc(l h:List Int)(i:Nat):(aLr l h i).length=min i h.length:=by simp[aLr]
def aLp(es:List E)(ns js:List Int)(i:Nat):List E:=(js.take i).map fun j=>⟨(es.getD j.toNat default).ty,aQ ns (es.getD j.toNat default).fr,aQ ns (es.getD j.toNat default).to⟩
@[simp] theorem aNq(l:List E)(ns h:List Int)(i:Nat):(aLp l ns h i).length=min i h.length:=by simp[aLp]
def rkK(ns:List Int)(bit:Nat->Bool):Nat->List Int
 | 0=>[]
 | i+1=>if bit i=true then rkK ns bit i++[((chN ns bit i).1.length:Int)] else rkK ns bit i++[0]
def rkR(ns:List Int)(bit:Nat->Bool)(n i:Nat):List Int:=rkK ns bit i++List.replicate (n-i) 0
theorem aFs(ns:List Int)(bit:Nat->Bool):∀i,(rkK ns bit i).length=i
 | 0=>rfl
 | i+1=>by
  simp only[rkK];split<;>simp[aFs ns bit i]
@[simp] theorem aP7(ns:List Int)(bit:Nat->Bool){n i:Nat}(h:i<=n):(rkR ns bit n i).length=n:=by simp[rkR,aFs];omega
def sameAt(a b:List Int)(i k:Nat):Bool:=decide (a.getD i 0=a.getD k 0)==decide (b.getD i 0=b.getD k 0)
def aPh(l:List Int)(lo hi:Int)(i:Nat):List Int:=(l.take i).map fun k=>if k=hi then lo else k
@[simp] theorem aOs(l:List Int)(lo hi:Int)(i:Nat):(aPh l lo hi i).length=min i l.length:=by simp[aPh]
def aPC(l:List Int)(i:Nat):List Int:=l.take i
@[simp] theorem aOB(l:List Int)(i:Nat):(aPC l i).length=min i l.length:=by simp[aPC]
theorem Emb.fit{a b:Gr}{m:Mo}(h:Emb a b m):m.Fit/\a.Fit/\b.Fit:=by
 have v:=h.vm;have h1:=(bE v.va).1;have h2:=(bE v.vb).1;have h3:=v.ln;have h4:=v.le;exact⟨⟨by omega,by omega⟩,⟨by omega,by omega⟩,⟨by omega,by omega⟩⟩
end Go.AM
namespace Go.Proofs
open Go.Shelf
open Go.Proofs.Tryz
end Go.Proofs
namespace Go.AM
open Go Go.Proofs Go.RowKit Go.Lib
open Go.Proofs.Tryz
theorem zM{l:List Int}{n:Nat}(hn:l.Nodup)(hr:∀x∈l,0<=x/\x<n):cP l=lR l n:=by
 have hp:(cP l).Perm l:=List.mergeSort_perm _ _
 have hs:(cP l).Pairwise fun a b=>(decide (a<=b))=true:=List.pairwise_mergeSort (fun a b c h1 h2=>by simp only[au] at *;omega) (fun a b=>by simp only[ek,au];omega) l
 have hd:(cP l).Nodup:=hp.nodup_iff.2 hn
 refine aGQ (List.Pairwise.imp₂ (fun a b h1 h2=>?_) hs hd) (aBz _ _) fun x=>?_
 .simp only[au] at h1;have:a≠b:=h2
  omega
 .rw[hp.mem_iff,iM];exact⟨fun h=>⟨h,hr x h⟩,fun h=>h.1⟩
theorem aFE{a y:Gr}{q:Mo}(hq:Emb a y q):(xZ y q)=⟨cP q.nodes,cP q.edges⟩:=by
 have v:=hq.vm;rw[xZ,zM hq.n v.n,zM hq.e v.e]
theorem aBp.fit{s:Sp}(h:aBp s):s.l.Fit/\s.r.Fit/\s.k.Fit/\s.i.Fit:=⟨h.k.emb.fit.2.2,h.i.fit.2.2,h.k.emb.fit.1,h.i.fit.1⟩
def aNt(s:Sp)(c:Cd):Cd × Int:=if aAD s.r c≠0 then (rM 0 [],aAD s.r c) else if (c.lft s).2≠0 then (rM 0 [],(c.lft s).2) else if aAD s.l (c.lft s).1≠0 then (rM 0 [],aAD s.l (c.lft s).1) else ((c.lft s).1,0)
def aL7(r:Ru)(c:Cd):Cd × Int:=if cN r≠0 then (rM 0 [],cN r) else aNt r.sp c
def Sp.ru(s:Sp):Ru:=⟨⟨#[]⟩,s.l,[],0,[],s.r,[],0,[],s.k,s.i,true,rM 0 []⟩
set_option maxRecDepth 100000 in
theorem fU(r:Ru)(hr:r.Fit):DC 63 [r.av] (I (cN r)):=by
 intro tok nt box nb;have h1:=dS r.lg hr.lg;have h2:=dS r.rg hr.rg;have h3:=nJ r.lg r.k hr.lg hr.k;have h4:=fun h=>aCj r.lg r.k hr.lg hr.k h
 have h5:=fun h=>kI (exG r.lg r.k) r.rg r.i h hr.rg
 have h6:=fun h=>jO (exG r.lg r.k) r.rg r.i h hr.rg hr.i
 have yj:=hr.ls;have hlt:=hr.lt;have p7:=hr.rs;have BZ:=hr.rt;rw[bI] at yj hlt p7 BZ;refine sI func63 ntmps63 fun Hb Ht=>?_
 repeat first|simp|refine sR ?_
 refine sD (h1 _ _) ?_;repeat first|simp|refine sR ?_
 by_cases e1:vG r.lg=0
 .simp only[e1];apply sC;repeat first|simp|refine sR ?_
  refine sD (h2 _ _) ?_;repeat first|simp|refine sR ?_
  by_cases e2:vG r.rg=0
  .simp only[e2];apply sC;repeat first|simp|refine sR ?_
   refine sD (h3 _ _) ?_;repeat first|simp|refine sR ?_
   by_cases e3:cQ r.lg r.k=0
   .simp only[e3];apply sC;repeat first|simp|refine sR ?_
    have hp:=VP.of e3;have hx:=hp.emb.fit.2.1;refine sD (h4 hp _ _) ?_;repeat first|simp|refine sR ?_
    refine sD (h5 hx _ _) ?_;repeat first|simp|refine sR ?_
    by_cases e4:aG (exG r.lg r.k) r.rg r.i=0
    .simp only[e4];apply sC;repeat first|simp|refine sR ?_
     refine sD (h6 hx _ _) ?_;repeat first|simp|refine sR ?_
     cases e5:fJ (exG r.lg r.k) r.rg r.i
     .apply sC;repeat first|simp|refine sR ?_
      refine sT (sH ?_);simp[cN,e1,e2,e3,e4,e5]
     .apply sC;simp;have w0:IntKind.i64.wrap ((r.lsl.length:Int)+r.lte.length)=(r.lsl.length:Int)+r.lte.length:=aL (by omega) (by omega)
      have w1:IntKind.i64.wrap ((r.lsl.length:Int)+r.lte.length+r.rsl.length)=(r.lsl.length:Int)+r.lte.length+r.rsl.length:=aL (by omega) (by omega)
      have w2:IntKind.i64.wrap ((r.lsl.length:Int)+r.lte.length+r.rsl.length+r.rte.length)=(r.lsl.length:Int)+r.lte.length+r.rsl.length+r.rte.length:=aL (by omega) (by omega)
      by_cases s1:((r.lsl.length:Int)+r.lte.length+r.rsl.length+r.rte.length)=0
      .have b1:(((r.lsl.length:Int)+r.lte.length+r.rsl.length+r.rte.length)==0)=true:=by rw[gr];exact s1
       by_cases s2:r.lv=0
       .have b2:(r.lv==0)=true:=by simp[s2]
        by_cases s3:r.rv=0
        .have b3:(r.rv==0)=true:=by simp[s3]
         have y1:r.plainL:=⟨by omega,s2⟩
         have y2:r.plainR:=⟨by omega,s3⟩
         cases i6:r.inj
         .repeat first|simp[w0,w1,w2,b1,b2,b3,i6]|refine sR ?_
          apply sC;repeat first|simp|refine sR ?_
          refine sT (sH ?_);simp[cN,e1,e2,e3,e4,e5,y1,y2,i6]
         .repeat first|simp[w0,w1,w2,b1,b2,b3,i6]|refine sR ?_
          apply sC;repeat first|simp|refine sR ?_
          refine sT (sH ?_);simp[cN,e1,e2,e3,e4,e5,y1,y2,i6]
        .have b3:(r.rv==0)=false:=by simp[s3]
         have n2:¬r.plainR:=fun h=>s3 h.2
         repeat first|simp[w0,w1,w2,b1,b2,b3]|refine sR ?_
         apply sC;repeat first|simp|refine sR ?_
         refine sT (sH ?_);simp[cN,e1,e2,e3,e4,e5,n2]
       .have b2:(r.lv==0)=false:=by simp[s2]
        have n1:¬r.plainL:=fun h=>s2 h.2
        repeat first|simp[w0,w1,w2,b1,b2]|refine sR ?_
        apply sC;repeat first|simp|refine sR ?_
        refine sT (sH ?_);simp[cN,e1,e2,e3,e4,e5,n1]
      .have b1:(((r.lsl.length:Int)+r.lte.length+r.rsl.length+r.rte.length)==0)=false:=by rw[beq_eq_false_iff_ne];exact s1
       have n1:¬(r.plainL/\r.plainR/\r.inj=true):=fun h=>by
        have h1:=h.1.1;have h2:=h.2.1.1;omega
       have hS:cN r=8:=by simp only[cN,e1,e2,e3,e4,e5];simp[n1]
       rw[hS];repeat first|simp[w0,w1,w2,b1]|refine sR ?_
       apply sC;repeat first|simp|refine sR ?_
       refine sT (sH ?_);simp
    .have b4:(aG (exG r.lg r.k) r.rg r.i != 0)=true:=by simp[e4]
     simp only[b4];apply sC;repeat first|simp|refine sR ?_
     refine sT (sH ?_);simp[cN,e1,e2,e3,e4]
   .have b3:(cQ r.lg r.k != 0)=true:=by simp[e3]
    simp only[b3];apply sC;repeat first|simp|refine sR ?_
    refine sT (sH ?_);simp[cN,e1,e2,e3]
  .have b2:(vG r.rg != 0)=true:=by simp[e2]
   simp only[b2];apply sC;repeat first|simp|refine sR ?_
   refine sT (sH ?_);simp[cN,e1,e2]
 .have b1:(vG r.lg != 0)=true:=by simp[e1]
  simp only[b1];apply sC;repeat first|simp|refine sR ?_
  refine sT (sH ?_);simp[cN,e1]
def aAK(r:Ru):Bool:=nX r.lg&&nX r.rg&&qD r.k 140&&qD r.i 140
structure Ru.Big (r:Ru):Prop where
 k:r.k.nodes.length<=dI/\r.k.edges.length<=dI
 i:r.i.nodes.length<=dI/\r.i.edges.length<=dI
 ls:r.lsl.length<=dI
 lt:r.lte.length<=dI
 rs:r.rsl.length<=dI
 rt:r.rte.length<=dI
 c:r.c.Big
theorem aKj(r:Ru)(hb:r.Big):DC 102 [r.av] (B (aAK r)):=by
 intro tok nt box nb;obtain⟨k1,k2⟩:=hb.k;obtain⟨i1,i2⟩:=hb.i;rw[bI] at k1 k2 i1 i2;have h1:=qF r.lg;have h2:=qF r.rg;have h3:=aKX r.k 140 (by omega) (by omega);have h4:=aAB r.i 140 (by omega) (by omega);refine sI func102 ntmps102 fun Hb Ht=>?_
 repeat first|simp|refine sR ?_
 refine sD (h1 _ _) ?_;repeat first|simp|refine sR ?_
 cases e1:nX r.lg
 .repeat first|simp|refine sR ?_
  refine sT (sH ?_);simp[aAK,e1]
 .repeat first|simp|refine sR ?_
  refine sD (h2 _ _) ?_;repeat first|simp|refine sR ?_
  cases e2:nX r.rg
  .repeat first|simp|refine sR ?_
   refine sT (sH ?_);simp[aAK,e1,e2]
  .repeat first|simp|refine sR ?_
   refine sD (h3 _ _) ?_;repeat first|simp|refine sR ?_
   cases e3:qD r.k 140
   .repeat first|simp|refine sR ?_
    refine sT (sH ?_);simp[aAK,e1,e2,e3]
   .repeat first|simp|refine sR ?_
    refine sD (h4 _ _) ?_;repeat first|simp|refine sR ?_
    refine sT (sH ?_);simp[aAK,e1,e2,e3]
theorem aCx{l:List Int}{v:Int}(h:v∉l):aQ l v = -1:=by
 rcases sY l v with ⟨h1,_⟩|⟨k,_,h3,h4⟩
 .exact h1
 .exact absurd (h4 ▸ aO h3) h
end Go.AM
namespace Go.Proofs.YtchfmhhbiealcaaGreatDoor.back
open Go Go.Proofs Go.RowKit Go.AM
open Go.Proofs.Tryz
theorem info3:(prog.info? 3).map (fun i=>(i.zero,i.size,i.bytes))=some (some (.int .i64 0),1,8):=by kernel_rfl
end Go.Proofs.YtchfmhhbiealcaaGreatDoor.back
namespace Go.Proofs.YtchfmhhbiealcaaGreatDoor.back
open Go Go.Proofs Go.RowKit Go.AM
open Go.Proofs.Tryz
end Go.Proofs.YtchfmhhbiealcaaGreatDoor.back
namespace Go.AM
open Go Go.Proofs Go.RowKit
open Go.Proofs.Tryz
def upP(ps:List Int)(i:Nat):List Int:=if _h:0<=ps.getD i 0/\(ps.getD i 0).toNat<i then (i:Int)::upP ps (ps.getD i 0).toNat else [(i:Int)]
termination_by i
decreasing_by exact _h.2
def upI(ps:List Int)(a:Int):List Int:=if a<0 then [] else upP ps a.toNat
theorem qA{ps:List Int}{a:Int}(h:a<0):upI ps a=[]:=af h
theorem wB{ps:List Int}{a:Int}(h:0<=a)(hp:ps.getD a.toNat 0<a):upI ps a=a::upI ps (ps.getD a.toNat 0):=by
 rw[upI,ac (by omega),upP];by_cases h0:0<=ps.getD a.toNat 0
 .rw[dif_pos ⟨h0,by omega⟩,upI,ac (by omega),fh h]
 .rw[dif_neg (fun h2=>h0 h2.1),upI,af (by omega),fh h]
theorem aE0(ps:List Int):∀n i,i<n->(upP ps i).length<=i+1
 | 0,i,h=>absurd h (b9 _)
 | n+1,i,h=>by
  rw[upP];split
  .rename_i h1;have:=aE0 ps n _ (show (ps.getD i 0).toNat<n by omega)
   simp only[ce];omega
  .simp
theorem aEN(ps:List Int)(a:Int):(upI ps a).length<=(a+1).toNat:=by
 unfold upI;split
 .simp
 .have:=aE0 ps _ _ (d5 a.toNat)
  omega
end Go.AM
namespace Go.Proofs.YtchfmhhbiealcaaGreatDoor.line
open Go Go.Proofs Go.RowKit Go.AM Go.Sort
open Go.Proofs.Tryz
theorem aMZ{w:World}{base base':Nat}{e:TypeId}{size:Nat}{v:Value}{n:Nat}{xs:List Value}(h:w.ownsRow base e size v n xs)(hb:base'<=base):w.ownsRow base' e size v n xs :=
 ⟨h.1,h.2.imp id fun ⟨g,cap,cur,a,b,c⟩=>⟨g,cap,cur,a,Nat.le_trans hb b,c⟩⟩
theorem rev{base n:Nat}{v:Value}{l:List Int}{w0 w:World}(hown:w.ownsRow base 3 1 v n (l.map (Value.int .i64)))(hb:Below base w0 w)(hl:l.length<=1000000):
  Calls prog 322 #[v] w fun e w'=>e=.returned (.tuple #[])/\w'.ownsRow base 3 1 v n (l.reverse.map (Value.int .i64))/\Below base w0 w':=by
 rcases hown.2 with ⟨rfl,e0⟩|⟨g,cap,cur,rfl,mt,nq,hg3,hg4,hg5,hg6⟩
 .refine(Tryz.slices_Reverse_int_empty _ _ _).mono ?_;rintro e w3 ⟨rfl,rfl⟩;subst e0;have:l=[]:=List.length_eq_zero_iff.1 (by simpa using hown.1)
  subst this;exact⟨rfl,hown,hb⟩
 .obtain⟨g',cap',hv,lq,hgl,hncap,hcm,hlen,hH⟩:=Lib.holds_of_ownsRow hown (by simp);cases hv;have A6:=Tryz.slices_Reverse_int g 0 cap l _ hH (by omega);rw[hlen] at A6;refine A6.mono ?_;rintro e w3 ⟨rfl,q,rfl⟩;have hh:=Lib.ownsRow_putRow (q:=q) (ys:=l.reverse) hown (by simpa using hlen) (Nat.le_refl _);rw[List.take_of_length_le (by simp[hlen])] at hh;exact⟨rfl,hh,Lib.below_putRow hb mt⟩
set_option maxHeartbeats 2000000 in
set_option maxRecDepth 100000 in
theorem any(b off n c:Nat)(u:Value)(a0:Int)(ps:List Int)(w:World)(hz:ps.length=n)(hn:n<=1000000)(ha:a0<n)(hp:∀j,j<n->ps.getD j 0<j)(hb:b<w.heap.size)(hc:∀j,j<n->w.cell? ⟨b,off+j*4+1,none⟩=some (.int .i64 (ps.getD j 0))):
  Calls prog 286 #[.agg #[.slice (some ⟨b,off,none⟩) n c,u],.int .i64 a0] w fun e w'=>∃v,e=.returned v/\w'.ownsRow w.heap.size 3 1 v (upI ps a0).length ((upI ps a0).reverse.map (Value.int .i64))/\Below w.heap.size w w':=by
 obtain⟨i0,hi,hz0,hz1,hz2'⟩:=info_parts YtchfmhhbiealcaaGreatDoor.back.info3
 go_enter func286,ntmps286
 go_wp2
 have hsz:(w.alloc (Obj.cells #[Value.slice (some { block:=b,off:=off }) n c,u] 25)).heap.size=w.heap.size+1:=by unfold World.alloc;exact Array.size_push _
 have hz2:(w.alloc (Obj.cells #[Value.slice (some { block:=b,off:=off }) n c,u] 25)).cell? ⟨w.heap.size,0,none⟩=some (Value.slice (some { block:=b,off:=off }) n c):=by rw[World.cell?_alloc_at _ _ _ _ rfl];rfl
 have hcc:∀j,j<n->(w.alloc (Obj.cells #[Value.slice (some { block:=b,off:=off }) n c,u] 25)).cell? ⟨b,off+j*4+1,none⟩=some (.int .i64 (ps.getD j 0)):=fun j hj=>((Below.refl _ w).alloc (Nat.le_refl _) _ |>.cell (by exact hb)).trans (hc j hj)
 have hbel:Below w.heap.size w (w.alloc (Obj.cells #[Value.slice (some { block:=b,off:=off }) n c,u] 25)):=(Below.refl _ w).alloc (Nat.le_refl _) _
 generalize w.alloc (Obj.cells #[Value.slice (some { block:=b,off:=off }) n c,u] 25)=w1 at *
 go_loopw [1,5] (fun x v wr=>∃(a:Int) (l:List Int),x=.int .i64 a/\a<n/\l++upI ps a=upI ps a0/\wr.ownsRow w1.heap.size 3 1 v l.length (l.map (Value.int .i64))/\Below w1.heap.size w1 wr) (fun x _ _=>(intOf x+1).toNat)
 case atStart=>exact⟨a0,[],rfl,ha,rfl,World.ownsRow_nil _ _ _ _,Below.refl _ _⟩
 case round =>
  obtain⟨a,l,rfl,hal,hl,hown,hnx⟩:=hrel;have hll:l.length<=n:=by
   have h1:=congrArg List.length hl;have h2:=aEN ps a0;rw[List.length_append] at h1;omega
  have hr2:=(hnx.cell (p:=⟨w.heap.size,0,none⟩) (by simp;omega)).trans hz2
  go_wp2_with (first
   | (at_builtin;refine wpList_append_own _ rfl _ _ 37 rfl w1.heap.size 3 i0 (.int .i64 0) 1 8 underlying37 hi hz0 hz1 hz2' rfl (by decide) _ _ _ rfl (hown.alloc _) ⟨wr.heap.size,0,none⟩ 1 1 [.int .i64 a] rfl rfl ?c1 ?c2 ?c3 ?c4 ?c5 ?_)
   | (go_at_call 322;refine(rev hown hnx (by omega)).mono ?_;rintro e w3 ⟨rfl,hown3,hnx3⟩)
   | go_in)
  case c1 =>
   intro j u hj
   match j,hj with
   | 0,hj=>simp at hj;subst hj;simp[Addr.add]
  case c2=>intro u hu;simp at hu;subst hu;rfl
  case c3=>unfold maxLen;omega
  case c4=>omega
  case c5=>have:=hnx.size;simp;omega
  .intro v' w2 hown' hgrow hne;have h0:0<=a:=by assumption
   obtain⟨k,rfl⟩:=Int.eq_ofNat_of_zero_le h0;have hnx1:Below w1.heap.size w1 w2:=(hnx.alloc (by have:=hnx.size;omega) _).grown hgrow (by have:=hnx.size;simp;omega) (fun q hq=>(hown.lt q hq).1)
   have hr3:=(hnx1.cell (p:=⟨w.heap.size,0,none⟩) (by simp;omega)).trans hz2;have hr4:=(hnx1.cell (p:=⟨b,off+k*4+1,none⟩) (by simp;omega)).trans (hcc k (by omega));have hup:=wB (ps:=ps) h0 (by have:=hp k (by omega);simpa using this);rw[hup,Int.toNat_natCast] at hl;clear hgrow hown hnx hne
   go_wp2
   refine⟨⟨ps.getD k 0,l++[(k:Int)],rfl,by have:=hp k (by omega);omega,by rw[List.append_assoc];exact hl,by simpa[hsz] using hown',hnx1⟩,?_⟩;have:=hp k (by omega)
   simp at this;simp[intOf];omega
  .go_ret
   have h0:a<0:=by assumption
   rw[qA h0,List.append_nil] at hl;rw[<-hl];exact⟨_,rfl,aMZ hown3 (by omega),hbel.trans (hnx3.mono (by omega))⟩
end Go.Proofs.YtchfmhhbiealcaaGreatDoor.line
namespace Go.AM
open Go Go.Proofs Go.RowKit
open Go.Proofs.Tryz
abbrev Ty.pars(t:Ty):List Int:=t.nodes.map NT.par
theorem fB(t:Ty){j:Nat}(h:j<t.nodes.length):t.pars.getD j 0=(t.nd j).par:=by simp[Ty.pars,Ty.nd,h]
theorem aHD{c:Addr->Option Value}{ps:Addr->Prop}{l:List NT}{v:Value}(h:RVd c ps (nts l) v):
  ∃A cap,v=.slice A l.length cap/\l.length<=cap/\cap<=maxLen/\(l≠[]->∃a,A=some a)/\∀a,A=some a->∀i (hi:i<l.length),c (a.add (i*4))=some (.string l[i].name)/\c (a.add (i*4+1))=some (.int .i64 l[i].par):=by
 unfold nts at h;generalize mc:l.map NT.cells=es at h;cases h with
 | @sl _ _ A cap u iq iu hsz hA hc hr =>
  have hl:es.length=l.length:=by rw[<-mc];simp
  refine⟨A,cap,by rw[hl],by omega,iu,fun hne=>hA (by intro e;rw[e] at hl;exact hne (dh.1 hl.symm)),fun a ha i hi=>⟨?_,?_⟩⟩
  .have g:=(hc a ha i 0 (by omega) (by decide)).2;have r:=hr i 0 (by omega) (by rw[hsz _ (aa _)];decide);have e1:es[i][0]'(by rw[hsz _ (aa _)];decide)=D.raw (.string l[i].name):=by
    subst mc;simp
   rw[e1] at r;have e2:u i 0=.string l[i].name:=by
    generalize hu:u i 0=x at r;cases r;rfl
   rw[<-e2];exact g
  .have g:=(hc a ha i 1 (by omega) (by decide)).2;have r:=hr i 1 (by omega) (by rw[hsz _ (aa _)];decide);have e1:es[i][1]'(by rw[hsz _ (aa _)];decide)=D.raw (.int .i64 l[i].par):=by
    subst mc;simp
   rw[e1] at r;have e2:u i 1=.int .i64 l[i].par:=by
    generalize hu:u i 1=x at r;cases r;rfl
   rw[<-e2];exact g
theorem aMK(t:Ty)(ht:t.nodes.length<=1000000)(a:Int)(h0:0<=a)(ha:a<t.nodes.length)(hp:∀j,j<t.nodes.length->(t.nd j).par<j):DC 286 [t.av,I a] (.d (ints (upI t.pars a).reverse)):=by
 intro tok nt box nb;refine⟨gO.mk func286 rfl (by kernel_rfl),fun G w vals hm hr=>?_⟩;obtain⟨hlen,p8⟩:=hr
 match vals,hlen with
 | [v,x],_ =>
  have h0:=p8 0 (by simp) (by simp);have h1:=p8 1 (by simp) (by simp);simp only[cg,List.getElem_cons_succ] at h0 h1;cases h1 with
  | d h1 =>
  cases h1 with
  | raw h1 =>
  cases h0 with
  | @agg _ vs hl h2 h3 =>
   match vs,hl with
   | [v1,v2],_ =>
    have h4:=h2 0 (by simp) (by simp);simp only[cg] at h4;cases h4 with
    | d h4 =>
     obtain⟨A,cap,rfl,iq,iu,hA,hc⟩:=aHD h4;have e:t.nodes≠[]:=by intro e;rw[e] at ha;simp at ha;omega
     obtain⟨a1,rfl⟩:=hA e;have CN:0<t.nodes.length:=dg.2 e
     have qt:=hc a1 rfl
     have hs:a1.spot=none:=by
      cases px:a1.spot with
      | none=>rfl
      | some q =>
       exfalso
       have:=(qt 0 CN).1
       simp only[World.cell?,Addr.add,px,Option.isSome_some,↓reduceIte] at this;split at this<;>simp at this
     obtain⟨b,off,sp⟩:=a1;simp only at hs;subst hs;have hcc:∀j,j<t.nodes.length->w.cell? ⟨b,off+j*4+1,none⟩=some (.int .i64 (t.pars.getD j 0)):=fun j hj=>by
      have h1:=(qt j hj).2;rw[fB t hj,iJ hj];unfold Addr.add at h1;split at h1
      .rename_i e;omega
      .rw[show off+j*4+1=off+(j*4+1) by omega];exact h1
     have DD:b<w.heap.size:=wK (hcc 0 CN)
     refine(YtchfmhhbiealcaaGreatDoor.line.any b off t.nodes.length cap v2 a t.pars w (by simp) ht (by omega) (fun j hj=>by rw[fB t hj];exact hp j hj) DD hcc).mono ?_;rintro e w' ⟨v,rfl,hown,hb⟩;refine⟨v,_,_,G,rfl,⟨rfl,rfl⟩,rfl,eV hm hb,.d (mH hm (by rw[List.length_reverse];exact hown)),gL hm hb,fun k hk=>⟨hk,rfl⟩⟩
theorem Ty.Fit.hM{t:Ty}(h:t.Fit)(i:Nat):(t.nd i).own.length<=1000:=by
 by_cases hi:i<t.nodes.length
 .rw[iJ hi];exact(h.a _ (aa hi)).1
 .simp[Ty.nd,dx (Nat.le_of_not_lt hi)];exact ai _
theorem aIB(t:Ty)(n:Int)(box:Bxs)(nb k:Nat)(tok:Tks)(nt:Nat)(h1:box k=some [[.d (nts t.nodes),.d (ets t.edges)]]):
  aC prog 285 [I n,.ptr k 0 0] ⟨box,nb,tok,nt⟩ fun v m=>v=B (!fT t n)/\m=⟨box,nb,tok,nt⟩:=by
 by_cases h0:n<0
 .rw[show fT t n=false by simp only[fT,bo];omega];refine sI func285 ntmps285 fun Hb Ht=>?_
  have k1n:=bH Hb h1;repeat first|simp[lO k1n,h1,h0]|refine sR ?_
  refine sT (sH ?_);simp
 .by_cases h2:(t.nodes.length:Int)<=n
  .rw[show fT t n=false by simp only[fT,bo];omega];refine sI func285 ntmps285 fun Hb Ht=>?_
   have k1n:=bH Hb h1;repeat first|simp[lO k1n,h1,h0,h2]|refine sR ?_
   refine sT (sH ?_);simp
  .rw[show fT t n=true by simp only[fT,au];omega];refine sI func285 ntmps285 fun Hb Ht=>?_
   have k1n:=bH Hb h1;repeat first|simp[lO k1n,h1,h0,h2]|refine sR ?_
   refine sT (sH ?_);simp
def oC(t:Ty)(l:List Int):Int:=if tyE t=0 then (if bA (fun a=>!fT t a) l=true then 6 else 0) else tyE t
theorem aFx(t:Ty)(ht:t.Fit)(l:List Int)(hl:l.length<=1000000):DC 247 [t.av,.d (ints l)] (I (oC t l)):=by
 intro tok nt box nb;have h1:=lW t ht ht.hM;obtain⟨N,hN⟩:∃N,oC t l=N:=⟨_,rfl⟩
 rw[hN];unfold oC at hN;generalize tyE t=E at *;generalize tyN t=Z at *;refine sI func247 ntmps247 fun Hb Ht=>?_
 repeat first|simp|refine sR ?_
 refine sD (h1 _ _) ?_;repeat first|simp|refine sR ?_
 by_cases e1:E=0
 .rw[af e1] at hN;obtain⟨p,oy⟩:∃p:Int->Bool,(fun a=>!fT t a)=p:=⟨_,rfl⟩
  have h2:=fun y box nb k n5=>aIB t y box nb k tok nt n5
  have so:∀y:Int,(!fT t y)=p y:=fun y=>by rw[<-oy]
  simp only[so] at h2;rw[oy] at hN;apply sC;simp[e1];repeat first|simp|refine sR ?_
  refine aT.of_b (iN l 285 [.ptr (nb+2) 0 0] p hl _ _ _ _ (fun c hc=>by rw[a7.1 hc];simp[aN]) (fun y hy box' nb' he=>h2 y box' nb' _ (he _ _ (by simp[aN])))) ?_;simp;cases e2:bA p l
  .rw[e2,ac (by simp)] at hN;repeat first|simp|refine sR ?_
   apply sC;repeat first|simp|refine sR ?_
   refine sT (sH ?_);simp[<-hN]
  .rw[e2,af rfl] at hN;repeat first|simp|refine sR ?_
   apply sC;repeat first|simp|refine sR ?_
   refine sT (sH ?_);simp[<-hN]
 .rw[ac e1] at hN;have b1:(E != 0)=true:=by simp[e1]
  apply sC;simp[b1];repeat first|simp|refine sR ?_
  refine sT (sH ?_);simp[<-hN]
def isB(t:Ty)(a b:Int):Bool:=decide (b∈upI t.pars a)
theorem aMx(t:Ty)(ht:t.Fit)(a b:Int)(h0:0<=a)(ha:a<t.nodes.length)(hp:∀j,j<t.nodes.length->(t.nd j).par<j):DC 248 [t.av,I a,I b] (B (isB t a b)):=by
 intro tok nt box nb;have hc:=aMK t (by have:=ht.n;omega) a h0 ha hp;have hlen:=aEN t.pars a;have qb:=ht.n;obtain⟨N,hN⟩:∃N,isB t a b=N:=⟨_,rfl⟩
 rw[hN];unfold isB at hN;have qp:decide (b∈(upI t.pars a).reverse)=N:=by rw[<-hN];simp
 have hl2:(upI t.pars a).reverse.length<=1000000:=by rw[List.length_reverse];omega
 generalize (upI t.pars a).reverse=L at *;have hk:=bN L b hl2;rw[qp] at hk;refine sI func248 ntmps248 fun Hb Ht=>?_
 repeat first|simp|refine sR ?_
 refine sD (hc _ _) ?_;repeat first|simp|refine sR ?_
 refine sD (hk _ _) ?_;repeat first|simp|refine sR ?_
 refine sT (sH ?_);simp
theorem jH{t:Ty}(h:tyE t=0):∀j,j<t.nodes.length->(t.nd j).par<j:=by
 unfold tyE at h;split at h
 .cases h
 .split at h
  .cases h
  .split at h
   .cases h
   .split at h
    .rename_i h1;exact absurd h h1
    .rename_i h1;exact fun j hj=>wN (dU _ (dm.1 h1) j hj)
def nY(t:Ty)(e a b:Int):Bool :=
 if oC t [a,b]=0 then (if 0<=e then (if e<t.edges.length then (if isB t a (t.ed e.toNat).fr=true then isB t b (t.ed e.toNat).to else false) else false) else false) else false
theorem aBC{t:Ty}{l:List Int}(h:oC t l=0):tyE t=0/\∀a∈l,0<=a/\a<t.nodes.length:=by
 unfold oC at h;split at h
 .rename_i h1;split at h
  .cases h
  .rename_i h2;refine⟨h1,fun a ha=>?_⟩;simp only[bA,dv,not_exists,not_and] at h2;have:=h2 a ha
   simpa[fT] using this
 .rename_i h1;exact absurd h h1
theorem aFA(t:Ty)(ht:t.Fit)(e a b:Int):DC 190 [t.av,I e,I a,I b] (B (nY t e a b)):=by
 intro tok nt box nb;have h1:=aFx t ht [a,b] (by simp);have i6:=@aBC t [a,b];obtain⟨N,hN⟩:∃N,nY t e a b=N:=⟨_,rfl⟩
 rw[hN];unfold nY at hN;generalize oC t [a,b]=E at *;refine sI func190 ntmps190 fun Hb Ht=>?_
 repeat first|simp|refine sR ?_
 refine⟨rfl,?_⟩;refine aT.data ?_;refine sD (h1 _ _) ?_;simp;by_cases e1:E=0
 .obtain⟨sq,i6⟩:=i6 e1;have ha:=i6 a (by simp);have hb:=i6 b (by simp);rw[af e1] at hN;by_cases e2:0<=e
  .have ji:¬e<0:=by omega
   rw[af e2] at hN;by_cases e3:e<t.edges.length
   .have oz:¬(t.edges.length:Int)<=e:=by omega
    rw[af e3] at hN;obtain⟨k,rfl⟩:=ch e2;have hk:k<t.edges.length:=by omega
    rw[bv,uV hk] at hN;have c1:=aMx t ht a t.edges[k].fr ha.1 ha.2 (jH sq);have c2:=aMx t ht b t.edges[k].to hb.1 hb.2 (jH sq);repeat first|simp[e1,ji,oz,hk]|refine sR ?_
    apply sC;simp[e1,ji,oz,hk];repeat first|simp[hk]|refine sR ?_
    refine sD (c1 _ _) ?_;simp;cases f1:isB t a t.edges[k].fr
    .rw[f1,ac (by simp)] at hN;repeat first|simp|refine sR ?_
     refine sT (sH ?_);simp[<-hN]
    .rw[f1,af rfl] at hN;repeat first|simp[hk]|refine sR ?_
     refine sD (c2 _ _) ?_;repeat first|simp|refine sR ?_
     refine sT (sH ?_);simp[<-hN]
   .have oz:(t.edges.length:Int)<=e:=by omega
    rw[ac e3] at hN;repeat first|simp[e1,ji,oz]|refine sR ?_|apply sC
    refine sT (sH ?_);simp[<-hN]
  .have ji:e<0:=by omega
   rw[ac e2] at hN;repeat first|simp[e1,ji]|refine sR ?_|apply sC
   refine sT (sH ?_);simp[<-hN]
 .rw[ac e1] at hN;have b1:(E != 0)=true:=by simp[e1]
  repeat first|simp[b1]|refine sR ?_|apply sC
  refine sT (sH ?_);simp[<-hN]
theorem sS(t:Ty)(a b:Int)(h0:a<0)(hb:0<=b):DC 159 [t.av,I a,I b] (B false):=by
 intro tok nt box nb;have yg:¬0<=a:=by omega
 have e:(a==b)=false:=by simp;omega
 refine sI func159 ntmps159 fun Hb Ht=>?_
 repeat first|simp[e,yg]|refine sR ?_
 refine sT (sH ?_);simp
theorem pS(t:Ty)(b:Int)(hb:0<=b)(hp:∀j,j<t.nodes.length->(t.nd j).par<j):∀(n:Nat) (a:Int),a<n->a<t.nodes.length->∀(tok:Tks) (nt:Nat),cZ prog 159 [t.av,I a,I b] tok nt (B (isB t a b)) tok nt
  | 0,a,ha,_,tok,nt=>by
    rw[show isB t a b=false by rw[isB,qA (by omega)];simp];exact sS t a b (by omega) hb tok nt
  | n+1,a,ha,hl,tok,nt=>by
    by_cases h0:a<0
    . rw[show isB t a b=false by rw[isB,qA h0];simp]
      exact sS t a b h0 hb tok nt
    . obtain⟨k,rfl⟩:=ch (show 0<=a by omega)
      have hk:k<t.nodes.length:=by omega
      have u6:=hp k hk;have hup:=wB (ps:=t.pars) (a:=(k:Int)) (by omega) (by rw[bv,fB t hk];exact u6);rw[bv,fB t hk] at hup;have ih:=pS t b hb hp n (t.nd k).par (by omega) (by omega);intro box nb;by_cases e:(k:Int)=b
      . have e':((k:Int)==b)=true:=by simp[e]
        rw[show isB t k b=true by rw[isB,hup];simp[e]];refine sI func159 ntmps159 fun Hb Ht=>?_
        repeat first|simp[e']|refine sR ?_
        refine sT (sH ?_);simp
      . have e':((k:Int)==b)=false:=by simp[e]
        have hB:isB t k b=isB t (t.nd k).par b:=by
         rw[isB,hup,isB];simp only[cj,decide_eq_decide];constructor
         . rintro(h|h)
           . exact absurd h.symm e
           . exact h
         . exact .inr
        rw[hB];rw[iJ hk] at ih ⊢;refine sI func159 ntmps159 fun Hb Ht=>?_
        repeat first|simp[e',hk]|refine sR ?_
        refine sD (ih _ _) ?_;repeat first|simp|refine sR ?_
        refine sT (sH ?_);simp
theorem aGG(t:Ty)(ht:t.Fit)(a b:Int):DC 157 [t.av,I a,I b] (I (oC t [a,b])):=by
 intro tok nt box nb;have qb:=ht.n;have h1:=jV t ht ht.hM;have i1:=jT a 0 ((t.nodes.length:Int)-1);have i2:=jT b 0 ((t.nodes.length:Int)-1);have ym:∀n:Int,inZ n 0 ((t.nodes.length:Int)-1)=fT t n:=fun n=>by simp only[inZ,fT];congr 1;simp only[eq_iff_iff];omega
 rw[ym] at i1 i2;have pp:IntKind.i64.wrap ((t.nodes.length:Int)-1)=(t.nodes.length:Int)-1:=by rw[aL (by omega) (by omega)]
 obtain⟨N,hN⟩:∃N,oC t [a,b]=N:=⟨_,rfl⟩
 rw[hN];unfold oC at hN;simp only[bA,List.any_cons,List.any_nil,Bool.or_false] at hN;generalize tyE t=E at *;generalize tyN t=Z at *;refine sI func157 ntmps157 fun Hb Ht=>?_
 repeat first|simp|refine sR ?_
 refine sD (h1 _ _) ?_;repeat first|simp|refine sR ?_
 by_cases e1:E=0
 .rw[af e1] at hN;cases e2:fT t a
  .rw[e2] at i1 hN;rw[af (by simp)] at hN;apply sC;simp[e1];repeat first|simp[pp]|refine sR ?_
   refine sD (i1 _ _) ?_;repeat first|simp|refine sR ?_
   apply sC;repeat first|simp|refine sR ?_
   refine sT (sH ?_);simp[<-hN]
  .cases e3:fT t b
   .rw[e2] at i1;rw[e3] at i2;rw[e2,e3,af (by simp)] at hN;apply sC;simp[e1];repeat first|simp[pp]|refine sR ?_
    refine sD (i1 _ _) ?_;simp;repeat first|simp[pp]|refine sR ?_
    refine sD (i2 _ _) ?_;repeat first|simp|refine sR ?_
    apply sC;repeat first|simp|refine sR ?_
    refine sT (sH ?_);simp[<-hN]
   .rw[e2] at i1;rw[e3] at i2;rw[e2,e3,ac (by simp)] at hN;apply sC;simp[e1];repeat first|simp[pp]|refine sR ?_
    refine sD (i1 _ _) ?_;simp;repeat first|simp[pp]|refine sR ?_
    refine sD (i2 _ _) ?_;repeat first|simp|refine sR ?_
    apply sC;repeat first|simp|refine sR ?_
    refine sT (sH ?_);simp[<-hN]
 .rw[ac e1] at hN;have b1:(E != 0)=true:=by simp[e1]
  apply sC;simp[b1];repeat first|simp|refine sR ?_
  refine sT (sH ?_);simp[<-hN]
theorem aKt{t:Ty}{i:Nat}(h:fV t i=0):0<=(t.ed i).fr/\0<=(t.ed i).to:=by
 unfold fV at h;split at h
 .cases h
 .split at h
  .cases h
  .unfold edR at h;split at h
   .cases h
   .split at h
    .cases h
    .rename_i h1 h2;simp only[fT,bo] at h1 h2;omega
theorem aHW{t:Ty}(h:tyE t=0):∀j,j<t.edges.length->0<=(t.ed j).fr/\0<=(t.ed j).to:=by
 unfold tyE at h;split at h
 .cases h
 .split at h
  .cases h
  .split at h
   .cases h
   .split at h
    .rename_i h1;exact absurd h h1
    .exact fun j hj=>aKt (dU _ h j hj)
theorem aBQ(t:Ty)(ht:t.Fit)(e a b:Int):DC 101 [t.av,I e,I a,I b] (B (nY t e a b)):=by
 intro tok nt box nb;have vv:=ht.e;have h1:=aGG t ht a b;have i1:=jT e 0 ((t.edges.length:Int)-1);have pp:IntKind.i64.wrap ((t.edges.length:Int)-1)=(t.edges.length:Int)-1:=by rw[aL (by omega) (by omega)]
 have i6:=@aBC t [a,b];obtain⟨N,hN⟩:∃N,nY t e a b=N:=⟨_,rfl⟩
 rw[hN];unfold nY at hN;generalize oC t [a,b]=E at *;refine sI func101 ntmps101 fun Hb Ht=>?_
 repeat first|simp|refine sR ?_
 refine sD (h1 _ _) ?_;simp;by_cases e1:E=0
 .obtain⟨sq,i6⟩:=i6 e1;have ha:=i6 a (by simp);have hb:=i6 b (by simp);rw[af e1] at hN;by_cases e2:0<=e
  .rw[af e2] at hN;by_cases e3:e<t.edges.length
   .have ei:inZ e 0 ((t.edges.length:Int)-1)=true:=by simp only[inZ,au];omega
    rw[ei] at i1;rw[af e3] at hN;obtain⟨k,rfl⟩:=ch e2;have hk:k<t.edges.length:=by omega
    have kw:=aHW sq k hk;rw[uV hk] at kw;rw[bv,uV hk] at hN;have c1:=pS t t.edges[k].fr kw.1 (jH sq) t.nodes.length a ha.2 ha.2;have c2:=pS t t.edges[k].to kw.2 (jH sq) t.nodes.length b hb.2 hb.2;repeat first|simp[e1,pp]|refine sR ?_
    refine sD (i1 _ _) ?_;repeat first|simp[hk]|refine sR ?_|apply sC
    refine sD (c1 _ _) ?_;simp;cases f1:isB t a t.edges[k].fr
    .rw[f1,ac (by simp)] at hN;repeat first|simp|refine sR ?_
     refine sT (sH ?_);simp[<-hN]
    .rw[f1,af rfl] at hN;repeat first|simp[hk]|refine sR ?_
     refine sD (c2 _ _) ?_;repeat first|simp|refine sR ?_
     refine sT (sH ?_);simp[<-hN]
   .have ei:inZ e 0 ((t.edges.length:Int)-1)=false:=by simp only[inZ,bo];omega
    rw[ei] at i1;rw[ac e3] at hN;repeat first|simp[e1,pp]|refine sR ?_
    refine sD (i1 _ _) ?_;repeat first|simp|refine sR ?_
    apply sC;repeat first|simp|refine sR ?_
    refine sT (sH ?_);simp[<-hN]
  .have ei:inZ e 0 ((t.edges.length:Int)-1)=false:=by simp only[inZ,bo];omega
   rw[ei] at i1;rw[ac e2] at hN;repeat first|simp[e1,pp]|refine sR ?_
   refine sD (i1 _ _) ?_;repeat first|simp|refine sR ?_
   apply sC;repeat first|simp|refine sR ?_
   refine sT (sH ?_);simp[<-hN]
 .rw[ac e1] at hN;have b1:(E != 0)=true:=by simp[e1]
  repeat first|simp[b1]|refine sR ?_|apply sC
  refine sT (sH ?_);simp[<-hN]
def eF(t:Ty)(k:Int):Bool:=!bA (fun n=>n.par==k) t.nodes
def cJ{α:Type}(p:α->Bool)(l:List α):Bool:=l.all p
theorem fL{α:Type}{p:α->Bool}{l:List α}{i:Nat}(h:i<l.length)(hp:p l[i]=false):cJ p l=false:=by
 unfold cJ;rw[<-Bool.not_eq_true,ax];intro h2;have:=h2 _ (aa h)
 rw[hp] at this;cases this
theorem cW{α:Type}{p:α->Bool}{l:List α}{i:Nat}(h:i<l.length)(h1:cJ p (l.take i)=true)(hp:p l[i]=true):cJ p (l.take (i+1))=true:=by
 unfold cJ at *;rw[ah h,eo,h1];simp[hp]
def lvN(t:Ty)(n:Int):Bool:=if (t.nodes.length:Int)<=n then false else eF t n
def lvE(t:Ty)(g:Gr)(e:E):Bool:=nY t e.ty (g.nodes.getD e.fr.toNat 0) (g.nodes.getD e.to.toNat 0)
def dA(t:Ty)(g:Gr):Bool:=if cJ (lvN t) g.nodes=true then cJ (lvE t g) g.edges else false
def aOR(t:Ty)(k:Int)(nb:Nat)(box:Bxs)(tok:Tks)(nt:Nat)(i:Nat):AS :=
 ⟨tl [(5,I i),(1,I k),(2,.ptr (nb+2) 0 0)],lb nb box [(2,[[.d (nts t.nodes),.d (ets t.edges)]])],tok,nt⟩
theorem aJv(t:Ty)(ht:t.nodes.length<=1000000)(k:Int):DC 130 [t.av,I k] (B (eF t k)):=by
 intro tok nt box nb;obtain⟨N,hN⟩:∃N,eF t k=N:=⟨_,rfl⟩
 rw[hN];have qp:cJ (fun n=>!(n.par==k)) t.nodes=N:=by rw[<-hN,cJ,eF,bA,fu,Bool.not_not]
 clear hN;refine sI func130 ntmps130 fun Hb Ht=>?_
 repeat first|simp|refine sR ?_
 apply sN;refine sL (aOR t k nb box tok nt) (fun i=>i<=t.nodes.length/\cJ (fun n=>!(n.par==k)) (t.nodes.take i)=true) (fun i=>t.nodes.length-i) 0 ⟨ai _,by simp[cJ]⟩ wkA ?_;rintro i S' ⟨hi,gt⟩ hS;simp only[aOR] at hS;subst hS;have hw:=sW (i:=i) (by omega);repeat first|simp|refine sR ?_|apply sC
 refine⟨fun hlt=>?_,fun hge=>?_⟩
 .have jq:=fun h=>fL (p:=fun n:NT=>!(n.par==k)) hlt h
  have jg:=fun h=>cW (p:=fun n:NT=>!(n.par==k)) hlt gt h
  cases e1:t.nodes[i].par==k
  .repeat first|simp[hlt,e1]|refine sR ?_
   apply sC;simp[e1];repeat first|simp[hw]|refine sR ?_
   apply sE;exact⟨i+1,⟨hlt,jg (by simp only[e1];rfl)⟩,by omega,wkA⟩
  .rw[jq (by simp only[e1];rfl)] at qp;repeat first|simp[hlt,e1]|refine sR ?_
   apply sC;simp[e1];repeat first|simp|refine sR ?_
   refine sT (sH ?_);simp[<-qp]
 .apply sX;simp only[AU,↓reduceIte];have:i=t.nodes.length:=by omega
  subst this;rw[bh] at gt;rw[gt] at qp;repeat first|simp|refine sR ?_
  refine sT (sH ?_);simp[<-qp]
def aOy(t:Ty)(g:Gr)(nb:Nat)(box:Bxs)(tok:Tks)(nt:Nat)(i:Nat):AS :=
 ⟨tl [(5,I i),(3,.ptr (nb+3) 0 0),(2,.ptr (nb+2) 0 0)],lb nb box [(3,[[.d (ints g.nodes),.d (AM.edges g.edges)]]),(2,[[.d (nts t.nodes),.d (ets t.edges)]])],tok,nt⟩
def aND(t:Ty)(g:Gr)(nb:Nat)(box:Bxs)(tok:Tks)(nt:Nat)(i:Nat):AS :=
 ⟨tl [(6,I i),(3,.ptr (nb+3) 0 0),(2,.ptr (nb+2) 0 0)],lb nb box [(3,[[.d (ints g.nodes),.d (AM.edges g.edges)]]),(2,[[.d (nts t.nodes),.d (ets t.edges)]])],tok,nt⟩
theorem aAd(t:Ty)(ht:t.Fit)(g:Gr)(hg:g.Fit)(hv:∀e∈g.edges,0<=e.fr/\e.fr<g.nodes.length/\0<=e.to/\e.to<g.nodes.length):DC 78 [t.av,g.av] (B (dA t g)):=by
 intro tok nt box nb;have sc:=hg.n;have hge:=hg.e;have qb:=ht.n;obtain⟨N,hN⟩:∃N,dA t g=N:=⟨_,rfl⟩
 rw[hN];unfold dA at hN;refine sI func78 ntmps78 fun Hb Ht=>?_
 repeat first|simp|refine sR ?_
 apply sN;refine sL (aOy t g nb box tok nt) (fun i=>i<=g.nodes.length/\cJ (lvN t) (g.nodes.take i)=true) (fun i=>g.nodes.length-i) 0 ⟨ai _,by simp[cJ]⟩ wkA ?_;rintro i S' ⟨hi,gt⟩ hS;simp only[aOy] at hS;subst hS;have hw:=sW (i:=i) (by omega);repeat first|simp|refine sR ?_|apply sC
 refine⟨fun hlt=>?_,fun hge=>?_⟩
 .have jq:=fun h=>fL (p:=lvN t) hlt h
  have jg:=fun h=>cW (p:=lvN t) hlt gt h
  have hl:lvN t g.nodes[i]=if (t.nodes.length:Int)<=g.nodes[i] then false else eF t g.nodes[i]:=rfl
  have hc:=aJv t (by omega) g.nodes[i];by_cases e1:(t.nodes.length:Int)<=g.nodes[i]
  .rw[af e1] at hl;rw[jq hl,ac (by simp)] at hN;repeat first|simp[hlt,e1]|refine sR ?_
   apply sC;simp[e1];repeat first|simp|refine sR ?_
   refine sT (sH ?_);simp[<-hN]
  .rw[ac e1] at hl;repeat first|simp[hlt,e1]|refine sR ?_
   refine sD (hc _ _) ?_;simp;cases e2:eF t g.nodes[i]
   .rw[e2] at hl;rw[jq hl,ac (by simp)] at hN;repeat first|simp|refine sR ?_
    apply sC;repeat first|simp|refine sR ?_
    refine sT (sH ?_);simp[<-hN]
   .rw[e2] at hl;repeat first|simp[hw]|refine sR ?_|apply sC
    apply sE;exact⟨i+1,⟨hlt,jg hl⟩,by omega,wkA⟩
 .apply sX;simp only[AU,↓reduceIte];have:i=g.nodes.length:=by omega
  subst this;rw[bh] at gt;rw[af gt] at hN;repeat first|simp|refine sR ?_
  apply sN;refine sL (aND t g nb box tok nt) (fun i=>i<=g.edges.length/\cJ (lvE t g) (g.edges.take i)=true) (fun i=>g.edges.length-i) 0 ⟨ai _,by simp[cJ]⟩ wkA ?_;rintro i S' ⟨hi,gt⟩ hS;simp only[aND] at hS;subst hS;have hw:=sW (i:=i) (by omega);repeat first|simp|refine sR ?_|apply sC
  refine⟨fun hlt=>?_,fun hge=>?_⟩
  .have jq:=fun h=>fL (p:=lvE t g) hlt h
   have jg:=fun h=>cW (p:=lvE t g) hlt gt h
   have A7:=hv _ (aa hlt);obtain⟨a,A8⟩:=ch A7.1;obtain⟨b,A9⟩:=ch A7.2.2.1;have ha:a<g.nodes.length:=by omega
   have hb:b<g.nodes.length:=by omega
   have hc:=aBQ t ht g.edges[i].ty g.nodes[a] g.nodes[b];have hL:lvE t g g.edges[i]=nY t g.edges[i].ty g.nodes[a] g.nodes[b]:=by simp[lvE,A8,A9,ha,hb]
   rw[hL] at jq jg;repeat first|simp[hlt,A8,A9,ha,hb]|refine sR ?_
   refine sD (hc _ _) ?_;simp;cases e1:nY t g.edges[i].ty g.nodes[a] g.nodes[b]
   .rw[jq e1] at hN;repeat first|simp|refine sR ?_
    apply sC;repeat first|simp|refine sR ?_
    refine sT (sH ?_);simp[<-hN]
   .repeat first|simp[hw]|refine sR ?_|apply sC
    apply sE;exact⟨i+1,⟨hlt,jg e1⟩,by omega,wkA⟩
  .apply sX;simp only[AU,↓reduceIte];have:i=g.edges.length:=by omega
   subst this;rw[bh] at gt;rw[gt] at hN;repeat first|simp|refine sR ?_
   refine sT (sH ?_);simp[<-hN]
theorem vV{r:Ru}(h:cN r=0):vG r.lg=0/\vG r.rg=0:=(fZ h).2
variable {P:Program}
theorem getD_some{l:Array Bool}{i:Nat}{d v:Bool}(h:l[i]?=some v):l.getD i d=v:=by simp[Array.getD_eq_getD_getElem?,h]
structure Ac3 where
 own:Own
 tok:Nat->Bool
 nt:Nat
def Ac3.add(x:Ac3)(b:Bool):Ac3:=if b=true then ⟨.tok (x.nt+2),upd (x.own.kill (upd (upd (upd x.tok x.nt true) x.nt false) (x.nt+1) true)) (x.nt+2) true,x.nt+3⟩ else x
structure Ac3.Ok (x:Ac3) (tok:Tks) (nt:Nat):Prop where
 adv:Adv tok nt .full x.tok x.nt x.own
 lt:∀t,tok t=true->t<nt
theorem Ac3.Ok.add{x:Ac3}{tok:Nat->Bool}{nt:Nat}(h:x.Ok tok nt)(b:Bool):(x.add b).Ok tok nt:=by
 unfold Ac3.add;split
 .have l6:=Adv.fresh h.adv.live h.adv.lt;exact⟨h.adv.trans h.lt (l6.trans h.adv.lt (Adv.app l6.live l6.lt)),h.lt⟩
 .exact h
theorem Ac3.Ok.tk{x:Ac3}{tok:Nat->Bool}{nt:Nat}(h:x.Ok tok nt):TK tok nt x.tok x.nt [x.own] :=
 ⟨fun t ht=>h.adv.keep t ht (by simp),h.lt,h.adv.le,fun o ho t e=>by
  rw[a7] at ho;subst ho;have hl:=h.adv.live;rw[e] at hl;refine⟨hl,?_,h.adv.lt t hl⟩;rcases h.adv.new with e2|⟨s,e2,hs⟩
  .rw[e] at e2;cases e2
  .rw[e] at e2;cases e2;exact hs,List.pairwise_singleton _ _⟩
abbrev Gr.cells(g:Gr):List D:=[ints g.nodes,AM.edges g.edges]
theorem Ac3.Ok.start{tok:Nat->Bool}{nt:Nat}(h:∀t,tok t=true->t<nt):(Ac3.mk .full tok nt).Ok tok nt:=⟨Adv.refl trivial h,h⟩
theorem TK.adv{mtok:Nat->Bool}{nt0:Nat}{tok tok':Nat->Bool}{nt nt':Nat}{os:List Own}{own':Own}(h:TK mtok nt0 tok nt os)(ha:Adv tok nt .full tok' nt' own'):TK mtok nt0 tok' nt' (own'::os):=by
 have k8:∀s,own'=.tok s->nt<=s/\tok' s=true:=fun s e=>by
  have hl:=ha.live;rw[e] at hl;rcases ha.new with e2|⟨s2,e2,hs⟩
  .rw[e] at e2;cases e2
  .rw[e] at e2;cases e2;exact⟨hs,hl⟩
 refine⟨fun t ht=>ha.keep t (h.old t ht) (by simp),h.lt,bz h.le ha.le,fun o ho t e=>?_,?_⟩
 .rcases cj.1 ho with rfl|ho
  .obtain⟨h1,h2⟩:=k8 t e;exact⟨h2,bz h.le h1,ha.lt t h2⟩
  .obtain⟨h1,h2,h3⟩:=h.own o ho t e;exact⟨ha.keep t h1 (by simp),h2,cn h3 ha.le⟩
 .refine dn.2 ⟨fun b hb t e e2=>?_,h.ne⟩;obtain⟨h1,h2⟩:=k8 t e;obtain⟨_,_,h3⟩:=h.own b hb t e2;omega
def Ac3.ed(x:Ac3)(s:Nat):Ac3:=⟨.tok (x.nt+1),upd (x.own.kill (upd (upd x.tok s false) x.nt true)) (x.nt+1) true,x.nt+2⟩
def Ac3.nd(x:Ac3)(s:Nat):Ac3:=⟨x.own,upd (upd x.tok s false) x.nt true,x.nt+1⟩
def zr(n:Nat):Gr:=⟨List.replicate n 0,[]⟩
def dec(n:Int):Int:=IntKind.i64.wrap (n-1)
def RS(n:Int)(s t:St2):Prop:=(s.2=0/\t.2=0/\s.1+t.1=2000/\0<=s.1/\s.1<=n)∨(s.2=3/\t.2=3)
theorem RS.zero{n:Int}{s t:St2}(h:RS n s t)(h0:s.2=0):t.2=0:=by
 rcases h with h|h
 .exact h.2.1
 .rw[h.1] at h0;cases h0
theorem nP{m:Mo}(h:qD m 140=true):m.Fit:=by
 simp[qD] at h;exact⟨by omega,by omega⟩
theorem aCs{r:Ru}(hb:r.Big)(h:aAK r=true):r.Fit:=by
 simp only[aAK,bd] at h;exact⟨mQ h.1.1.1,mQ h.1.1.2,nP h.1.2,nP h.2,hb.ls,hb.lt,hb.rs,hb.rt⟩
open Go Go.ChangeShapes
open Go.Proofs.Tryz
variable {P:Program}
def Rd(w:World)(cs:List Value)(ds:List D):Prop:=cs.length=ds.length/\∀i (h1:i<cs.length) (h2:i<ds.length),RVd w.cell? (fun _=>True) ds[i] cs[i]
theorem Rd.append{w:World}{cs cs':List Value}{ds ds':List D}(h:Rd w cs ds)(k:Rd w cs' ds'):Rd w (cs++cs') (ds++ds'):=by
 refine⟨by simp[h.1,k.1],fun i h1 h2=>?_⟩;by_cases hi:i<cs.length
 .rw[bu hi,bu (by rw[<-h.1];exact hi)];exact h.2 i hi _
 .have hl:=h.1;rw[cd (by omega),cd (by omega)];have:=k.2 (i-cs.length) (by simp at h1;omega) (by have:=k.1;simp at h1;omega)
  simpa[hl] using this
theorem Rd.one{w:World}{c:Value}{d:D}(h:RVd w.cell? (fun _=>True) d c):Rd w [c] [d]:=⟨rfl,fun i h1 h2=>by
 have:i=0:=by simpa using h1
 subst this;exact h⟩
def eX{H:Type}(P:Program)(T:TypeId)(d:DataW H):Prop:=(d.weights P T).all (· <= reachBytes)=true
structure Rdr (P:Program) (T:TypeId) (α:Type) where
 enc:α->List D
 ok:α->Prop
 len:∀x,(enc x).length=P.cellsOf T
 sound:∀{H:Type} (e:TypeId × Value->H) (w:World) (base:Nat) (spare:Nat->Bool) (im:Bool) (fuel:Nat) (cs:List Value) (x:DataW H × List MemPlace),
  DataW.trod e P w base spare im fuel T cs=some x->∃y,Rd w cs (enc y)/\(eX P T x.1->ok y)
def Rdr.int{T:TypeId}{k:IntKind}(h:P.underlying T=some (.int k))(hc:P.cellsOf T=1):Rdr P T Int where
 enc n:=[.raw (.int k n)]
 ok n:=(Lit.int k n).wf=true
 len _:=by simp[hc]
 sound e w base spare im fuel cs x hx:=by
  cases fuel with
  | zero=>simp[DataW.trod] at hx
  | succ n =>
   unfold DataW.trod at hx;rw[h] at hx;split at hx<;>simp_all
   rename_i k' n' _;exact⟨n',Rd.one (.raw rfl),fun _=>hx.1.2⟩
theorem wS{w:World}{base:Nat}{a:Addr}{n:Nat}{l:List Value}(h:w.cells? base a n=some l):l.length=n/\∀i (hi:i<l.length),w.cell? (a.add i)=some l[i]:=by
 unfold World.cells? at h;split at h
 .have h1:l.length=n:=by have:=mapM_some_length h;simpa using this
  refine⟨h1,fun i hi=>?_⟩;have i6:i<n:=by omega
  have:=mapM_some_get h i i (by simp[i6])
  rw[this];exact ab hi
 .cases h
theorem sP{H:Type}{T E:TypeId}(h:P.underlying T=some (.slice E)){elems rest:List (DataW H)}(hl:eX P T (.slice elems rest)):elems.length*P.bytesOf E<=reachBytes/\∀d∈elems,eX P E d:=by
 unfold eX at hl ⊢;simp only[DataW.weights,h,List.all_cons,eo,bd,au] at hl;refine⟨bz (bk _ (Nat.le_add_right _ _)) hl.1,?_⟩;have key:∀l:List (DataW H),(DataW.weightsAll P E l).all (· <= reachBytes)=true->∀d∈l,(d.weights P E).all (· <= reachBytes)=true:=by
  intro l;induction l with
  | nil=>intro _ d hd;simp at hd
  | cons x l ih =>
   intro hx d hd;simp only[DataW.weightsAll,eo,bd] at hx;rcases cj.1 hd with rfl|hd
   .exact hx.1
   .exact ih hx.2 d hd
 exact key elems hl.2.1
def Rdr.slice{T E:TypeId}{α:Type}(r:Rdr P E α)(h:P.underlying T=some (.slice E))(hc:P.cellsOf T=1):Rdr P T (List α) where
 enc l:=[.sl (P.cellsOf E) (l.map r.enc)]
 ok l:=(∀x∈l,r.ok x)/\l.length*P.bytesOf E<=reachBytes
 len _:=by simp[hc]
 sound e w base spare im fuel cs x hx:=by
  rcases DataW.trod_slice h hx with ⟨rfl,rfl⟩|⟨a,len,cap,elems,rest,n,rfl,rfl,rfl,hb,hl,hm,zj,jj,_⟩
  .exact⟨[],Rd.one (.sl (es:=[]) (fun _ _=>default) (nr0 _) (by decide) (by simp) (by simp) (by simp) (by simp)),fun _=>⟨by simp,by simp⟩⟩
  .have key:∀i (hi:i<elems.length),∃cs y,cs.length=P.cellsOf E/\(∀j (hj:j<cs.length),w.cell? (a.add (i*P.cellsOf E+j))=some cs[j])/\Rd w cs (r.enc y)/\(eX P E elems[i].1->r.ok y):=by
    intro i hi;have h1:=jj i (by omega);have h2:elems[i]?=some elems[i]:=ab hi
    rw[h2,dp] at h1;obtain⟨cs,lx,Ca⟩:=h1;obtain⟨mj,hcc⟩:=wS lx;obtain⟨y,hy,gt⟩:=r.sound e w base spare im n cs _ Ca;refine⟨cs,y,mj,fun j hj=>?_,hy,gt⟩;rw[<-Addr.add_add];exact hcc j hj
   have pick:∀m,m<=elems.length->∃ys:List α,ys.length=m/\(∀i (hi:i<ys.length) (s7:i<elems.length),∃cs,cs.length=P.cellsOf E/\(∀j (hj:j<cs.length),w.cell? (a.add (i*P.cellsOf E+j))=some cs[j])/\Rd w cs (r.enc ys[i])/\(eX P E elems[i].1->r.ok ys[i])):=by
    intro m;induction m with
    | zero=>intro _;exact⟨[],rfl,fun i hi=>by simp at hi⟩
    | succ m ih =>
     intro ll;obtain⟨ys,wc,gz⟩:=ih (by omega);obtain⟨cs,y,g1,g2,g3,g4⟩:=key m (by omega);refine⟨ys++[y],by simp[wc],fun i hi s7=>?_⟩;by_cases ww:i<ys.length
     .rw[bu ww];exact gz i ww s7
     .have:i=m:=by simp at hi;omega
      subst this;have e1:(ys++[y])[i]=y:=by
       rw[cd (by omega)];simp
      rw[e1];exact⟨cs,g1,g2,g3,g4⟩
   obtain⟨ys,wc,gz⟩:=pick elems.length (nr0 _);refine⟨ys,Rd.one ?_,fun ix=>?_⟩
   .have hlen:len=ys.length:=by omega
    subst hlen;have ph:ys.length=(ys.map r.enc).length:=by simp
    rw[ph];refine .sl (fun i j=>(w.cell? (a.add (i*P.cellsOf E+j))).getD default) (by simpa using hl) hm (fun e he=>?_) (fun _=>⟨a,rfl⟩) (fun a' wj i j hi hj=>?_) (fun i j hi hj=>?_)
    .obtain⟨y,_,rfl⟩:=bc.1 he;exact r.len y
    .cases wj
     obtain⟨cs,g1,g2,_⟩:=gz i (by simpa using hi) (by simp at hi;omega);rw[g2 j (by omega)];exact⟨trivial,rfl⟩
    .obtain⟨cs,g1,g2,g3,_⟩:=gz i (by simpa using hi) (by simp at hi;omega);simp only[bj] at hj ⊢;have AA:j<cs.length:=by rw[g3.1];exact hj
     rw[g2 j AA];exact g3.2 j AA hj
   .obtain⟨w1,w2⟩:=sP h ix;refine⟨fun y hy=>?_,by simpa[wc] using w1⟩;obtain⟨i,hi,rfl⟩:=bi hy;obtain⟨_,_,_,_,h4⟩:=gz i hi (by omega);exact h4 (w2 _ (bc.2 ⟨_,aa _,rfl⟩))
def Rdr.map{T:TypeId}{α β:Type}(r:Rdr P T α)(f:α->β)(enc:β->List D)(ok:β->Prop)(he:∀x,enc (f x)=r.enc x)(gt:∀x,r.ok x->ok (f x))(hl:∀y,(enc y).length=P.cellsOf T):Rdr P T β where
 enc:=enc
 ok:=ok
 len:=hl
 sound e w base spare im fuel cs x hx:=by
  obtain⟨y,h1,h2⟩:=r.sound e w base spare im fuel cs x hx;exact⟨f y,by rw[he];exact h1,fun hl=>gt y (h2 hl)⟩
def Rdr.sliceN{T E:TypeId}{α:Type}(r:Rdr P E α)(n:Nat)(h:P.underlying T=some (.slice E))(hc:P.cellsOf T=1)(hn:P.cellsOf E=n):Rdr P T (List α) where
 enc l:=[.sl n (l.map r.enc)]
 ok l:=(∀x∈l,r.ok x)/\l.length*P.bytesOf E<=reachBytes
 len _:=by simp[hc]
 sound:=by
  subst hn;exact(Rdr.slice r h hc).sound
theorem aNQ{α:Type}{l:List α}(h:l.length=2):l=[l[0]'(by omega),l[1]'(by omega)]:=by
 match l,h with
 | [p,q],_=>rfl
theorem aOt{α:Type}{l:List α}(h:l.length=3):l=[l[0]'(by omega),l[1]'(by omega),l[2]'(by omega)]:=by
 match l,h with
 | [p,q,r],_=>rfl
def Rdr.struct2{T A B:TypeId}{α β:Type}(r:Rdr P A α)(s:Rdr P B β){f0 f1:Field}(h:P.underlying T=some (.struct #[f0,f1]))(hA:f0.type=A)(hB:f1.type=B)(h0:f0.offset=0)(h1:f1.offset=P.cellsOf A)(hc:P.cellsOf T=P.cellsOf A+P.cellsOf B):Rdr P T (α × β) where
 enc x:=r.enc x.1++s.enc x.2
 ok x:=r.ok x.1/\s.ok x.2
 len x:=by simp[r.len,s.len,hc]
 sound e w base spare im fuel cs x hx:=by
  obtain⟨xs,n,rfl,rfl,hl,rc,jj⟩:=gl h hx;have pq:xs.length=2:=rc
  have g0:=jj 0 f0 rfl;have g1:=jj 1 f1 rfl;have e0:xs[0]?=some (xs[0]'(by omega)):=ab (by omega)
  have e1:xs[1]?=some (xs[1]'(by omega)):=ab (by omega)
  rw[e0,h0,hA] at g0;rw[e1,h1,hB] at g1;obtain⟨y,k1,k2⟩:=r.sound e w base spare im n _ _ g0;obtain⟨z,m1,m2⟩:=s.sound e w base spare im n _ _ g1;refine⟨(y,z),?_,fun ix=>?_⟩
  rotate_left
  .unfold eX at ix k2 m2;have e2:xs=[xs[0]'(by omega),xs[1]'(by omega)]:=aNQ pq
   rw[e2] at ix;simp only[de,dw,DataW.weights,h,DataW.weightsEach,hA,hB,eo,bd] at ix;exact⟨k2 ix.1,m2 ix.2.1⟩
  have lx:cs=(cs.drop 0).take (P.cellsOf A)++(cs.drop (P.cellsOf A)).take (P.cellsOf B):=by
   have:(cs.drop (P.cellsOf A)).take (P.cellsOf B)=cs.drop (P.cellsOf A):=ak (by simp;omega)
   rw[this,List.drop_zero,cc]
  rw[lx];exact k1.append m1
def Rdr.struct3{T A B C:TypeId}{α β γ:Type}(r:Rdr P A α)(s:Rdr P B β)(t:Rdr P C γ){f0 f1 f2:Field}(h:P.underlying T=some (.struct #[f0,f1,f2]))(hA:f0.type=A)(hB:f1.type=B)(hC:f2.type=C)(h0:f0.offset=0)(h1:f1.offset=P.cellsOf A)(h2:f2.offset=P.cellsOf A+P.cellsOf B)(hc:P.cellsOf T=P.cellsOf A+P.cellsOf B+P.cellsOf C):Rdr P T (α × β × γ) where
 enc x:=r.enc x.1++(s.enc x.2.1++t.enc x.2.2)
 ok x:=r.ok x.1/\s.ok x.2.1/\t.ok x.2.2
 len x:=by simp[r.len,s.len,t.len,hc];omega
 sound e w base spare im fuel cs x hx:=by
  obtain⟨xs,n,rfl,rfl,hl,rc,jj⟩:=gl h hx;have pq:xs.length=3:=rc
  have g0:=jj 0 f0 rfl;have g1:=jj 1 f1 rfl;have g2:=jj 2 f2 rfl;have e0:xs[0]?=some (xs[0]'(by omega)):=ab (by omega)
  have e1:xs[1]?=some (xs[1]'(by omega)):=ab (by omega)
  have e2:xs[2]?=some (xs[2]'(by omega)):=ab (by omega)
  rw[e0,h0,hA] at g0;rw[e1,h1,hB] at g1;rw[e2,h2,hC] at g2;obtain⟨y,k1,k2⟩:=r.sound e w base spare im n _ _ g0;obtain⟨z,m1,m2⟩:=s.sound e w base spare im n _ _ g1;obtain⟨q,p1,p2⟩:=t.sound e w base spare im n _ _ g2;refine⟨(y,z,q),?_,fun ix=>?_⟩
  rotate_left
  .unfold eX at ix k2 m2 p2;have e2:xs=[xs[0]'(by omega),xs[1]'(by omega),xs[2]'(by omega)]:=aOt pq
   rw[e2] at ix;simp only[de,dw,DataW.weights,h,DataW.weightsEach,hA,hB,hC,eo,bd] at ix;exact⟨k2 ix.1,m2 ix.2.1,p2 ix.2.2.1⟩
  have lx:cs=(cs.drop 0).take (P.cellsOf A)++((cs.drop (P.cellsOf A)).take (P.cellsOf B)++(cs.drop (P.cellsOf A+P.cellsOf B)).take (P.cellsOf C)):=by
   have:(cs.drop (P.cellsOf A+P.cellsOf B)).take (P.cellsOf C)=cs.drop (P.cellsOf A+P.cellsOf B):=ak (by simp;omega)
   rw[this,<-List.drop_drop,cc,List.drop_zero,cc]
  rw[lx];exact k1.append (m1.append p1)
def G0:Gh:=⟨fun _=>none,fun _=>none,fun _=>.whole,0⟩
def m0:bF:=⟨fun _=>none,0,fun _=>false,0⟩
theorem aPc(a:Addr):G0.ps a:=trivial
theorem aDV(W:World)(hg:mZ G0 W:=by intro g cs h;simp[aEY] at h):aR G0 m0 W:=by
 constructor
 case glob=>exact hg
 case box=>intro k rows b sz h;cases h
 case nobox=>intro k _;rfl
 case inj=>intro k k' b sz sz' h;cases h
 case nb=>intro k _;rfl
 case nt=>rfl
 case toks=>intro t h;cases h
 case tokb=>intro t g h;cases h
 case tinj=>intro t t' g h;cases h
 case tnt=>intro t x h;cases h
 case fresh=>intro b _;rfl
theorem RVd.start{W:World}{d:D}{v:Value}(h:RVd W.cell? (fun _=>True) d v):RVd W.cell? G0.ps d v:=h.mono fun a u _ hc=>⟨aPc a,hc⟩
theorem Rdr.agg{T:TypeId}{α:Type}(r:Rdr P T α){W:World}{base base':Nat}{sp:Nat->Bool}{im:Bool}{H:Type}{enc:TypeId × Value->H}{v:Value}{d:DataW H}{p:List MemPlace}(hs:aU P T=some true)(hv:Value.okWide P W .any base T v)(h:DataW.Trod enc P W base' sp im T v d p)(ix:eX P T d):∃y,r.ok y/\RV G0 W (.agg ((r.enc y).map .d)) v:=by
 have lx:∃cs,v=.agg cs:=by
  unfold aU at hs;unfold Value.okWide at hv;cases hu:P.underlying T with
  | none=>rw[hu] at hs;simp at hs
  | some u =>
   rw[hu] at hs hv;cases u<;>simp at hs hv<;>exact⟨_,hv.choose_spec.1⟩
 obtain⟨cs,rfl⟩:=lx;obtain⟨fuel,h⟩:=h;obtain⟨y,⟨h1,h2⟩,gt⟩:=r.sound enc W base' sp im fuel _ _ h;refine⟨y,gt ix,?_⟩;simp only[Value.cells] at h1 h2;have:=RV.agg (G:=G0) (w:=W) (cs:=(r.enc y).map .d) (vs:=cs.toList) (by simp[h1]) (fun i g1 g2=>by
  simp only[bj];exact .d (h2 i g2 (by simpa using g1)).start) (fun v hv=>by
  obtain⟨i,hi,rfl⟩:=bi hv;exact(h2 i hi (by omega)).one)
 simpa using this
theorem Rdr.cell{T:TypeId}{α:Type}(r:Rdr P T α){W:World}{base base':Nat}{sp:Nat->Bool}{im:Bool}{H:Type}{enc:TypeId × Value->H}{v:Value}{d:DataW H}{p:List MemPlace}(f:α->D)(hs:aU P T=some false)(hf:∀y,r.enc y=[f y])(hv:Value.okWide P W .any base T v)(h:DataW.Trod enc P W base' sp im T v d p)(ix:eX P T d):∃y,r.ok y/\RV G0 W (.d (f y)) v:=by
 obtain⟨fuel,h⟩:=h;obtain⟨y,⟨h1,h2⟩,gt⟩:=r.sound enc W base' sp im fuel _ _ h;refine⟨y,gt ix,?_⟩;rw[hf] at h1;have lx:v.cells.toList=[v]:=by
  cases v with
  | agg cs =>
   exfalso
   unfold aU at hs;unfold Value.okWide Cell.okWide Cell.ok at hv;cases hu:P.underlying T with
   | none=>rw[hu] at hs;simp at hs
   | some u =>
    rw[hu] at hs hv;cases u<;>simp_all
  | _=>rfl
 have:=h2 0 (by rw[h1];simp) (by rw[hf];simp)
 simp only[hf,cg] at this;have e:v.cells.toList[0]'(by rw[h1];simp)=v:=by simp[lx]
 rw[e] at this;exact .d this.start
theorem light_arg{H:Type}{ts:List TypeId}{ds:List (DataW H)}(hz:(DataW.weightsEach P ts ds).all (· <= reachBytes)=true){j:Nat}{T:TypeId}{d:DataW H}(ht:ts[j]?=some T)(hd:ds[j]?=some d):eX P T d :=
 ax.2 fun x hx=>ax.1 hz x (DataW.weights_mem_each ht hd x hx)
theorem aFi{ps:Array TypeId}{args:Array Value}{W:World}{base base':Nat}{sp:Nat->Bool}{im:Bool}{H:Type}{enc:TypeId × Value->H}(hval:∀(j:Nat) t v,ps[j]?=some t->args[j]?=some v->Value.okWide P W .any base t v)(j:Nat)(T:TypeId)(v:Value)(hp:ps[j]?=some T)(ha:args[j]?=some v){α:Type}(r:Rdr P T α){d:DataW H}{p:List MemPlace}(hs:aU P T=some true)(h:DataW.Trod enc P W base' sp im T v d p)(ix:eX P T d):
  ∃y,r.ok y/\RV G0 W (.agg ((r.enc y).map .d)) v:=r.agg hs (hval j T v hp ha) h ix
theorem aDZ{W W':World}{G':Gh}(h:Le G0 W G' W')(b:Nat)(hb:b<W.heap.size):W'.heap[b]?=W.heap[b]?:=(h.whole b hb rfl).2
theorem aJh{W W':World}{G':Gh}(h:Le G0 W G' W')(may:MemPlace->Prop):W.keptBut W' may:=by
 refine⟨h.os,h.output,fun i hi=>?_⟩;rw[aDZ h i hi];split
 .rename_i c t fr c' t' fr' e1 e2;rw[e1] at e2;cases e2;exact⟨rfl,rfl,rfl,fun _ _=>rfl⟩
 .rename_i e1 e2;rw[e1] at e2;cases e2;exact .inr ⟨rfl,rfl⟩
 .rfl
theorem aJ0{W W':World}{G':Gh}(h:Le G0 W G' W'){p:MemPlace}(hp:p.block<W.heap.size):W.sameAt W' p:=by
 cases p with
 | cell b off=>exact World.cell?_of_block (w:=W) (a:=⟨b,off,none⟩) (aDZ h b hp)
 | map b=>exact aDZ h b hp
theorem oD{H:Type}{enc:TypeId × Value->H}{W W':World}{T:TypeId->Prop}{sp':Nat->Bool}(K:Kids P T)(hsz:∀{t e:TypeId},T t->P.underlying t=some (.slice e)->0<P.cellsOf e):
  ∀{ts:List TypeId} {vs:List Value} {ds:List (DataW H)} {ps:List MemPlace},(∀t∈ts,T t)->DataW.TrodAll enc P W 0 (fun _=>true) true ts vs ds ps->(∀p∈ps,W.sameAt W' p)->(∀p∈ps,sp' p.block=true) ->
  DataW.TrodAll enc P W' 0 sp' true ts vs ds ps
 | [],[],[],_,_,h,_,_=>h
 | t::ts,v::vs,d::ds,_,hT,⟨p,q,⟨n,hn⟩,h2,e⟩,h3,h4=>by
  subst e;exact⟨p,q,⟨n,DataW.trod_stays K hsz (fun h=>by cases h) (hT t (by simp)) hn (fun x hx=>h3 x (by simp[hx])) (fun x hx=>h4 x (by simp[hx]))⟩,
   oD K hsz (fun t ht=>hT t (by simp[ht])) h2 (fun x hx=>h3 x (by simp[hx])) (fun x hx=>h4 x (by simp[hx])),rfl⟩
theorem law_of{f:FuncId}{fn:Func}{s:ChangeSpec}{H:Type}{enc:TypeId × Value->H}{W:World}{args:Array Value}{ds:List (DataW H)}{before:List MemPlace}{avs:List AV}{tok':Nat->Bool}{nt':Nat}(hl:laidOutB P=true)(hm:mapsRowed P=true)(hz:((List.range P.types.size).all fun t=>match P.underlying t with|some (.slice e)=>decide (0<P.cellsOf e)|_=>true)=true)(uk:fn.params.all (· < P.types.size)=true){tb:TypeId}(hres:fn.resultTypes = #[tb])(hb:P.underlying tb=some .bool)(xc:s.vars=[])(sx:s.fn H ds={ results:=[.lit (.bool true)],args:=ds })(hW:DataW.Whole enc P fn.params.toList s.vars false W args.toList ds [] before)(hr:RVs G0 W avs args.toList)(hc:cZ P f avs (fun _=>false) 0 (B true) tok' nt')(hgl:mZ G0 W:=by intro g cs h;simp[aEY] at h):
  Calls P f args W fun e W'=>∃v,e=.returned v/\s.post enc P fn false true false false W args v W':=by
 have xd:=(hc (fun _=>none) 0).2 G0 W args.toList (aDV W hgl) hr;simp only[Array.toArray_toList] at xd;refine xd.mono ?_;rintro e W' ⟨v,av,m',G',rfl,⟨rfl,rfl⟩,_,_,hv,g9,_⟩;cases hv with
 | d hv =>
  cases hv with
  | raw =>
   refine⟨_,rfl,?_⟩;have hlt:=hW.lt;have CO:=hW;obtain⟨p,q,hA,hV,rfl,hfz,hnd⟩:=hW;rw[xc] at hV;obtain⟨_,rfl⟩:=trodVars_none hV;simp only[c9] at hlt hfz CO ⊢;have hT:∀t∈fn.params.toList,t<P.types.size:=fun t ht=>by
    have:=Array.all_eq_true_iff_forall_mem.1 uk t (by simpa using ht)
    simpa using this
   have hsz:∀{t e:TypeId},t<P.types.size->P.underlying t=some (.slice e)->0<P.cellsOf e:=by
    intro t e ht hu;have:=ax.1 hz t (ba.2 ht)
    rw[hu] at this;simpa using this
   have hargs:∀sp:Nat->Bool,(∀x∈p,sp x.block=true)->DataW.TrodAll enc P W' 0 sp true fn.params.toList args.toList ds p:=fun sp px =>
    oD (kids_rows hl hm) hsz hT hA (fun x hx=>aJ0 g9 (hlt x hx)) px
   have Cb:(Value.bool true).resultList fn.resultTypes.size=[.bool true]:=by rw[hres];rfl
   have AB:∀(b:Nat) (sp:Nat->Bool) (hd:Bool),DataW.TrodAll enc P W' b sp hd fn.resultTypes.toList ((Value.bool true).resultList fn.resultTypes.size) [.lit (.bool true)] []:=fun b sp hd=>by
    rw[Cb,hres];exact trodAll_mk1 ⟨1,by simp[DataW.trod,hb,Value.cells]⟩
   have yn:s.fn H (ds++[])={ results:=[.lit (.bool true)],args:=ds }:=by rw[c9];exact sx
   refine⟨ds,[],p,[],p,[],CO,?_,?_,?_,World.keptBut_mono (fun _ f=>f.elim) (aJh g9 fun _=>False),fun h=>by cases h⟩
   .rw[yn];exact AB _ _ _
   .rw[yn];exact hargs _ fun x hx=>by simpa using hlt x hx
   .rw[yn,xc];exact rfl
theorem own0:ownKnob prog.godebug=none:=by kernel_rfl
theorem laidOut0:laidOutB prog=true:=by kernel_rfl
theorem mapsRowed0:mapsRowed prog=true:=by kernel_rfl
theorem slices0:((List.range prog.types.size).all fun t=>match prog.underlying t with|some (.slice e)=>decide (0<prog.cellsOf e)|_=>true)=true:=by kernel_rfl
def aY:Rdr prog 3 Int:=Rdr.int (k:=.i64) underlying3 (by kernel_rfl)
def rX:Rdr prog 37 (List Int):=aY.sliceN 1 underlying37 (by kernel_rfl) (by kernel_rfl)
def aK3:Rdr prog 164 (Int × Int × Int):=Rdr.struct3 aY aY aY underlying164 rfl rfl rfl rfl (by kernel_rfl) (by kernel_rfl) (by kernel_rfl)
def aM3:Rdr prog 164 E:=aK3.map (fun x=>⟨x.1,x.2.1,x.2.2⟩) E.cells (fun _=>True) (fun _=>rfl) (fun _ _=>trivial) (fun _=>by kernel_rfl)
def aEE:Rdr prog 38 (List E):=aM3.sliceN 3 underlying38 (by kernel_rfl) (by kernel_rfl)
def aGS:Rdr prog 40 (List Int × List E):=Rdr.struct2 rX aEE underlying40 rfl rfl rfl (by kernel_rfl) (by kernel_rfl)
end Go.AM
