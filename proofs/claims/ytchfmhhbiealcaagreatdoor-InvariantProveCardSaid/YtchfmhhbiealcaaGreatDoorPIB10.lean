import Derived.Test.YtchfmhhbiealcaaGreatDoorPIB9
import Derived.Shelf.Spec.SlicesGrow
import Derived.Deep.AppendLies
import Derived.WalkKit
import Derived.ProofKit
import Derived.OpenShut
import Derived.ChangeStays
import Derived.SizedLaws
set_option linter.unusedSimpArgs false
set_option linter.unusedVariables false
namespace Go.AM
theorem dl.{u}:type_of% @List.length_filter_le.{u}:=@List.length_filter_le
theorem cm:type_of% @Int.eq_ofNat_of_zero_le:=@Int.eq_ofNat_of_zero_le
theorem gb.{u}:type_of% @List.any_eq_not_all_not.{u}:=@List.any_eq_not_all_not
open Go Go.Proofs
open Go.Proofs.Tryz
def iR(f:Nat->Int)(g:Nat->ByteArray):Nat->ByteArray
 | 0=>eB
 | n+1=>if aA f n=0 then (if f n=0 then eB else g n) else iR f g n
theorem gZ{f:Nat->Int}{g:Nat->ByteArray}{i:Nat}(h0:aA f i=0)(h:f i≠0):∀n,i<n->iR f g n=g i
 | 0,hi=>absurd hi (b8 _)
 | n+1,hi=>by
  simp only[iR];by_cases e:i=n
  .subst e;rw[af h0,ac h]
  .have:=aL h0 h n (by omega)
   rw[ac (by rw[this];exact h),gZ h0 h n (by omega)]
theorem uP{f:Nat->Int}{g:Nat->ByteArray}:∀n,aA f n=0->iR f g n=eB
 | 0,_=>rfl
 | n+1,h=>by
  simp only[aA] at h;split at h
  .rename_i h1;rw[iR,af h1,af h]
  .rename_i h1;exact absurd h h1
def tyE(t:Ty):Int :=
 if t.nodes.length=0 then 7 else if 12<t.nodes.length then 3 else if 20<t.edges.length then 3
 else if aA (fT t) t.nodes.length≠0 then aA (fT t) t.nodes.length else aA (gG t) t.edges.length
def tyN(t:Ty):ByteArray :=
 if t.nodes.length=0 then eB else if 12<t.nodes.length then eB else if 20<t.edges.length then eB
 else if aA (fT t) t.nodes.length≠0 then iR (fT t) (fun i=>(t.nd i).name) t.nodes.length else iR (gG t) (fun i=>(t.ed i).name) t.edges.length
theorem yG{t:Ty}{i:Nat}(h:fT t i=0):(t.nd i).par<i:=by
 unfold fT at h;split at h
 .cases h
 .split at h
  .cases h
  .split at h
   .cases h
   .omega
theorem dX{f:Nat->Int}:∀n,aA f n=0->∀i,i<n->f i=0
 | 0,_,i,hi=>absurd hi (b8 _)
 | n+1,h,i,hi=>by
  simp only[aA] at h;split at h
  .rename_i h1;by_cases e:i=n
   .subst e;exact h
   .exact dX n h1 i (by omega)
  .rename_i h1;exact absurd h h1
def aMV(t:Ty)(nb:Nat)(box:Bxs)(tok:Tks)(nt:Nat)(i:Nat):AS:=⟨tl [(4,I i),(1,.ptr (nb+1) 0 0)],lb nb box [(1,[[.d (nts t.nodes),.d (ets t.edges)]])],tok,nt⟩
def aL4(t:Ty)(nb:Nat)(box:Bxs)(tok:Tks)(nt:Nat)(i:Nat):AS:=⟨tl [(6,I i),(1,.ptr (nb+1) 0 0)],lb nb box [(1,[[.d (nts t.nodes),.d (ets t.edges)]])],tok,nt⟩
theorem kQ(t:Ty)(ht:t.Fit)(hM:∀i,(t.nd i).own.length<=1000):DC 77 [t.av] (.tup [Sb (tyN t),I (tyE t)]):=by
 intro tok nt box nb;have qo:=ht.n;have wz:=ht.e;obtain⟨N,hN⟩:∃N,tyE t=N:=⟨_,rfl⟩
 obtain⟨Z,hZ⟩:∃Z,tyN t=Z:=⟨_,rfl⟩
 rw[hN,hZ];unfold tyE at hN;unfold tyN at hZ;by_cases e1:t.nodes.length=0
 .have j9:t.nodes=[]:=dj.1 e1
  rw[af e1] at hN hZ;refine sI func77 ntmps77 fun Hb Ht=>?_
  repeat first|simp[j9]|refine sR ?_|apply sC
  refine sT (sH ?_);simp[<-hN,<-hZ]
 .have j9:¬t.nodes=[]:=fun h=>e1 (by rw[h];rfl)
  rw[ac e1] at hN hZ;by_cases e2:12<t.nodes.length
  .have j0:(12:Int)<t.nodes.length:=by omega
   rw[af e2] at hN hZ;refine sI func77 ntmps77 fun Hb Ht=>?_
   repeat first|simp[j9,e2,j0]|refine sR ?_
   apply sC;simp[j9,e2,j0];repeat first|simp[e2,j0]|refine sR ?_|apply sC
   refine sT (sH ?_);simp[<-hN,<-hZ]
  .have j0:¬(12:Int)<t.nodes.length:=by omega
   rw[ac e2] at hN hZ;by_cases e3:20<t.edges.length
   .have pp:(20:Int)<t.edges.length:=by omega
    rw[af e3] at hN hZ;refine sI func77 ntmps77 fun Hb Ht=>?_
    repeat first|simp[j9,e2,j0,e3,pp]|refine sR ?_
    apply sC;simp[j9,e2,j0];repeat first|simp[e2,j0,e3,pp]|refine sR ?_|apply sC
    refine sT (sH ?_);simp[<-hN,<-hZ]
   .have pp:¬(20:Int)<t.edges.length:=by omega
    rw[ac e3] at hN hZ;refine sI func77 ntmps77 fun Hb Ht=>?_
    repeat first|simp[j9,e2,j0,e3,pp]|refine sR ?_
    apply sC;simp[j9,e2,j0];repeat first|simp[e2,j0,e3,pp]|refine sR ?_|apply sC
    apply sN;refine sL (aMV t nb box tok nt) (fun i=>i<=t.nodes.length/\aA (fT t) i=0) (fun i=>t.nodes.length-i) 0 ⟨ai _,rfl⟩ wkA ?_;rintro i S' ⟨hi,ia⟩ hS;simp only[aMV] at hS;subst hS;have hw:=sW (i:=i) (by omega);repeat first|simp|refine sR ?_|apply sC
    refine⟨fun hlt=>?_,fun hge=>?_⟩
    .have hc:=aI1 t ht hM i hlt (fun j hj=>yG (dX i ia j hj));have hR:fT t i≠0->aA (fT t) t.nodes.length=fT t i:=fun h0=>aL ia h0 _ hlt
     have nu:fT t i≠0->iR (fT t) (fun i=>(t.nd i).name) t.nodes.length=t.nodes[i].name:=fun h0=>by rw[gZ ia h0 _ hlt,iV hlt]
     have hnx:fT t i=0->aA (fT t) (i+1)=0:=fun h0=>by simp only[aA,ia,h0,↓reduceIte]
     generalize fT t i=E at *;repeat first|simp[hlt]|refine sR ?_
     refine sD (hc _ _) ?_;repeat first|simp|refine sR ?_
     by_cases e7:E=0
     .apply sC;simp[e7];repeat first|simp[hw]|refine sR ?_
      apply sE;exact⟨i+1,⟨hlt,hnx e7⟩,by omega,wkA⟩
     .have b7:(E != 0)=true:=by simp[e7]
      rw[hR e7,af e7] at hN hZ;rw[nu e7] at hZ;apply sC;simp[e7,b7];repeat first|simp[hlt]|refine sR ?_
      refine sT (sH ?_);simp[<-hN,<-hZ]
    .apply sX;simp only[AU,↓reduceIte];have:i=t.nodes.length:=by omega
     subst this;rw[ac (by rw[ia];simp)] at hN hZ;repeat first|simp|refine sR ?_
     apply sN;refine sL (aL4 t nb box tok nt) (fun i=>i<=t.edges.length/\aA (gG t) i=0) (fun i=>t.edges.length-i) 0 ⟨ai _,rfl⟩ wkA ?_;rintro i S' ⟨hi,kj⟩ hS;simp only[aL4] at hS;subst hS;have hw:=sW (i:=i) (by omega);repeat first|simp|refine sR ?_|apply sC
     refine⟨fun hlt=>?_,fun hge=>?_⟩
     .have hc:=aH2 t ht i hlt;have hR:gG t i≠0->aA (gG t) t.edges.length=gG t i:=fun h0=>aL kj h0 _ hlt
      have nu:gG t i≠0->iR (gG t) (fun i=>(t.ed i).name) t.edges.length=t.edges[i].name:=fun h0=>by rw[gZ kj h0 _ hlt,xG hlt]
      have hnx:gG t i=0->aA (gG t) (i+1)=0:=fun h0=>by simp only[aA,kj,h0,↓reduceIte]
      generalize gG t i=E at *;repeat first|simp[hlt]|refine sR ?_
      refine sD (hc _ _) ?_;repeat first|simp|refine sR ?_
      by_cases e7:E=0
      .apply sC;simp[e7];repeat first|simp[hw]|refine sR ?_
       apply sE;exact⟨i+1,⟨hlt,hnx e7⟩,by omega,wkA⟩
      .have b7:(E != 0)=true:=by simp[e7]
       rw[hR e7] at hN;rw[nu e7] at hZ;apply sC;simp[e7,b7];repeat first|simp[hlt]|refine sR ?_
       refine sT (sH ?_);simp[<-hN,<-hZ]
     .apply sX;simp only[AU,↓reduceIte];have:i=t.edges.length:=by omega
      subst this;rw[kj] at hN;rw[uP _ kj] at hZ;repeat first|simp|refine sR ?_
      refine sT (sH ?_);simp[<-hN,<-hZ]
def aO2(t:Ty)(nb:Nat)(box:Bxs)(tok:Tks)(nt:Nat)(i:Nat):AS:=⟨tl [(29,I i),(28,I t.nodes.length),(27,.d (nts t.nodes)),(1,.ptr (nb+1) 0 0)],lb nb box [(1,[[.d (nts t.nodes),.d (ets t.edges)]])],tok,nt⟩
def aQW(t:Ty)(nb:Nat)(box:Bxs)(tok:Tks)(nt:Nat)(i:Nat):AS:=⟨tl [(46,I i),(45,I t.edges.length),(44,.d (ets t.edges)),(1,.ptr (nb+1) 0 0)],lb nb box [(1,[[.d (nts t.nodes),.d (ets t.edges)]])],tok,nt⟩
theorem nW(t:Ty)(ht:t.Fit)(hM:∀i,(t.nd i).own.length<=1000):DC 119 [t.av] (.tup [Sb (tyN t),I (tyE t)]):=by
 intro tok nt box nb;have qo:=ht.n;have wz:=ht.e;obtain⟨N,hN⟩:∃N,tyE t=N:=⟨_,rfl⟩
 obtain⟨Z,hZ⟩:∃Z,tyN t=Z:=⟨_,rfl⟩
 rw[hN,hZ];unfold tyE at hN;unfold tyN at hZ;by_cases e1:t.nodes.length=0
 .have j9:t.nodes=[]:=dj.1 e1
  rw[af e1] at hN hZ;refine sI func119 ntmps119 fun Hb Ht=>?_
  repeat first|simp[j9]|refine sR ?_|apply sC
  refine sT (sH ?_);simp[<-hN,<-hZ]
 .have j9:¬t.nodes=[]:=fun h=>e1 (by rw[h];rfl)
  rw[ac e1] at hN hZ;by_cases e2:12<t.nodes.length
  .have j0:(12:Int)<t.nodes.length:=by omega
   rw[af e2] at hN hZ;refine sI func119 ntmps119 fun Hb Ht=>?_
   repeat first|simp[j9,e2,j0]|refine sR ?_
   apply sC;simp[j9,e2,j0];repeat first|simp[e2,j0]|refine sR ?_|apply sC
   refine sT (sH ?_);simp[<-hN,<-hZ]
  .have j0:¬(12:Int)<t.nodes.length:=by omega
   rw[ac e2] at hN hZ;by_cases e3:20<t.edges.length
   .have pp:(20:Int)<t.edges.length:=by omega
    rw[af e3] at hN hZ;refine sI func119 ntmps119 fun Hb Ht=>?_
    repeat first|simp[j9,e2,j0,e3,pp]|refine sR ?_
    apply sC;simp[j9,e2,j0];repeat first|simp[e2,j0,e3,pp]|refine sR ?_|apply sC
    refine sT (sH ?_);simp[<-hN,<-hZ]
   .have pp:¬(20:Int)<t.edges.length:=by omega
    rw[ac e3] at hN hZ;refine sI func119 ntmps119 fun Hb Ht=>?_
    repeat first|simp[j9,e2,j0,e3,pp]|refine sR ?_
    apply sC;simp[j9,e2,j0];repeat first|simp[e2,j0,e3,pp]|refine sR ?_|apply sC
    apply sN;refine sL (aO2 t nb box tok nt) (fun i=>i<=t.nodes.length/\aA (fT t) i=0) (fun i=>t.nodes.length-i) 0 ⟨ai _,rfl⟩ wkA ?_;rintro i S' ⟨hi,ia⟩ hS;simp only[aO2] at hS;subst hS;have hw:=sW (i:=i) (by omega);repeat first|simp|refine sR ?_|apply sC
    refine⟨fun hlt=>?_,fun hge=>?_⟩
    .have hc:=aNb t ht hM i hlt (fun j hj=>yG (dX i ia j hj));have hR:fT t i≠0->aA (fT t) t.nodes.length=fT t i:=fun h0=>aL ia h0 _ hlt
     have nu:fT t i≠0->iR (fT t) (fun i=>(t.nd i).name) t.nodes.length=t.nodes[i].name:=fun h0=>by rw[gZ ia h0 _ hlt,iV hlt]
     have hnx:fT t i=0->aA (fT t) (i+1)=0:=fun h0=>by simp only[aA,ia,h0,↓reduceIte]
     generalize fT t i=E at *;repeat first|simp[hlt]|refine sR ?_
     refine sD (hc _ _) ?_;repeat first|simp|refine sR ?_
     by_cases e7:E=0
     .apply sC;simp[e7];repeat first|simp[hw]|refine sR ?_
      apply sE;exact⟨i+1,⟨hlt,hnx e7⟩,by omega,wkA⟩
     .have b7:(E != 0)=true:=by simp[e7]
      rw[hR e7,af e7] at hN hZ;rw[nu e7] at hZ;apply sC;simp[e7,b7];repeat first|simp[hlt]|refine sR ?_
      refine sT (sH ?_);simp[<-hN,<-hZ]
    .apply sX;simp only[AU,↓reduceIte];have:i=t.nodes.length:=by omega
     subst this;rw[ac (by rw[ia];simp)] at hN hZ;repeat first|simp|refine sR ?_
     apply sN;refine sL (aQW t nb box tok nt) (fun i=>i<=t.edges.length/\aA (gG t) i=0) (fun i=>t.edges.length-i) 0 ⟨ai _,rfl⟩ wkA ?_;rintro i S' ⟨hi,kj⟩ hS;simp only[aQW] at hS;subst hS;have hw:=sW (i:=i) (by omega);repeat first|simp|refine sR ?_|apply sC
     refine⟨fun hlt=>?_,fun hge=>?_⟩
     .have hc:=aNm t ht i hlt;have hR:gG t i≠0->aA (gG t) t.edges.length=gG t i:=fun h0=>aL kj h0 _ hlt
      have nu:gG t i≠0->iR (gG t) (fun i=>(t.ed i).name) t.edges.length=t.edges[i].name:=fun h0=>by rw[gZ kj h0 _ hlt,xG hlt]
      have hnx:gG t i=0->aA (gG t) (i+1)=0:=fun h0=>by simp only[aA,kj,h0,↓reduceIte]
      generalize gG t i=E at *;repeat first|simp[hlt]|refine sR ?_
      refine sD (hc _ _) ?_;repeat first|simp|refine sR ?_
      by_cases e7:E=0
      .apply sC;simp[e7];repeat first|simp[hw]|refine sR ?_
       apply sE;exact⟨i+1,⟨hlt,hnx e7⟩,by omega,wkA⟩
      .have b7:(E != 0)=true:=by simp[e7]
       rw[hR e7] at hN;rw[nu e7] at hZ;apply sC;simp[e7,b7];repeat first|simp[hlt]|refine sR ?_
       refine sT (sH ?_);simp[<-hN,<-hZ]
     .apply sX;simp only[AU,↓reduceIte];have:i=t.edges.length:=by omega
      subst this;rw[kj] at hN;rw[uP _ kj] at hZ;repeat first|simp|refine sR ?_
      refine sT (sH ?_);simp[<-hN,<-hZ]
structure Ru where
 name:ByteArray
 lg:Gr
 lsl:List Sl
 lv:Int
 lte:List Te
 rg:Gr
 rsl:List Sl
 rv:Int
 rte:List Te
 k:Mo
 i:Mo
 inj:Bool
 c:Cd
abbrev Ru.row(r:Ru):List AV:=[.d (.raw (.string r.name)),.d (ints r.lg.nodes),.d (AM.edges r.lg.edges),.d (iE r.lsl),I r.lv,.d (iG r.lte),.d (ints r.rg.nodes),.d (AM.edges r.rg.edges),.d (iE r.rsl),I r.rv,.d (iG r.rte),
 .d (ints r.k.nodes),.d (ints r.k.edges),.d (ints r.i.nodes),.d (ints r.i.edges),B r.inj,I r.c.kind,.d (zU r.c.kids),.d (ints r.c.m.nodes),.d (ints r.c.m.edges),.d (ints r.c.g.nodes),.d (AM.edges r.c.g.edges),.d (iE r.c.sl),I r.c.vars,.d (iG r.c.te)]
abbrev Ru.av(r:Ru):AV:=.agg r.row
structure Ru.Fit (r:Ru):Prop where
 lg:r.lg.Fit
 rg:r.rg.Fit
 k:r.k.Fit
 i:r.i.Fit
 ls:r.lsl.length<=dP
 lt:r.lte.length<=dP
 rs:r.rsl.length<=dP
 rt:r.rte.length<=dP
def Ru.sp(r:Ru):Sp:=⟨r.lg,r.rg,r.k,r.i⟩
def Ru.plainL(r:Ru):Prop:=r.lsl.length+r.lte.length=0/\r.lv=0
def Ru.plainR(r:Ru):Prop:=r.rsl.length+r.rte.length=0/\r.rv=0
instance (r:Ru):Decidable r.plainL:=inferInstanceAs (Decidable (_/\_))
instance (r:Ru):Decidable r.plainR:=inferInstanceAs (Decidable (_/\_))
def cQ(r:Ru):Int :=
 if vG r.lg≠0 then vG r.lg else if vG r.rg≠0 then vG r.rg else if cU r.lg r.k≠0 then cU r.lg r.k
 else if aG (exG r.lg r.k) r.rg r.i≠0 then aG (exG r.lg r.k) r.rg r.i else if fV (exG r.lg r.k) r.rg r.i=false then 11
 else if r.plainL/\r.plainR/\r.inj=true then 0 else 8
theorem gQ{r:Ru}(h:cQ r=0):aCh r.sp/\vG r.lg=0/\vG r.rg=0:=by
 unfold cQ at h;split at h
 .contradiction
 .split at h
  .contradiction
  .split at h
   .contradiction
   .split at h
    .contradiction
    .split at h
     .cases h
     .rename_i h1 h2 h3 h4 h5;exact⟨⟨VP.of (dq.1 h3),Emb.of (show fV (exG r.lg r.k) r.rg r.i=true by simpa using h5)⟩,dq.1 h1,dq.1 h2⟩
def kZ(images keep:List Int)(i:Nat):List Int:=((List.range i).filter fun (i:Nat)=>decide ((i:Int)∉keep)).map fun (i:Nat)=>images.getD i 0
theorem pO(images keep:List Int):kZ images keep 0=[]:=rfl
theorem qA(images keep:List Int)(i:Nat):kZ images keep (i+1)=if (i:Int)∈keep then kZ images keep i else kZ images keep i++[images.getD i 0]:=by
 unfold kZ;rw[cn,dm,c7];by_cases h:(i:Int)∈keep
 .simp[h]
 .simp[h]
theorem oB(images keep:List Int)(i:Nat):(kZ images keep i).length<=i:=by
 unfold kZ;rw[br];have:=dl (fun (i:Nat)=>decide ((i:Int)∉keep)) (List.range i)
 simpa using this
def aJf(images keep:List Int)(nb:Nat)(box:Bxs)(x:Acc):AS:=⟨tl [(0,.d (ints images)),(1,.d (ints keep)),(5,.osl 1 (rI (kZ images keep x.i)) x.own),(6,I x.i)],lb nb box [],x.tok,x.nt⟩
theorem wY(images keep:List Int)(h1:images.length<=1000000)(h2:keep.length<=1000000):DC 212 [.d (ints images),.d (ints keep)] (.d (ints (cA images keep))):=by
 intro tok nt box nb;have hh:=fun v=>vH keep v h2
 refine sI func212 ntmps212 fun Hb Ht=>?_
 repeat first|simp|refine sR ?_
 apply sN;refine sL (aJf images keep nb box) (fun x=>x.i<=images.length/\TK tok nt x.tok x.nt [x.own]) (fun x=>images.length-x.i) ⟨0,.full,tok,nt⟩ ⟨ai _,(TK.start Ht).full⟩ (wM (nr0 _) rfl (by simp[ToL,lk,pO]) trivial) ?_;rintro⟨i,own,tok',nt'⟩ S ⟨hi,htk⟩ hS;simp only[aJf] at hS hi htk;subst hS;have hw:=sW (i:=i) (by omega);have mu:=qA images keep i;have hlen:=oB images keep i;repeat first|simp|refine sR ?_|apply sC
 refine⟨fun hlt=>?_,fun hge=>?_⟩
 .have hg:images.getD i 0=images[i]:=by simp[hlt]
  rw[hg] at mu;repeat first|simp|refine sR ?_
  refine sD (hh _ _ _) ?_;simp;by_cases hm:(i:Int)∈keep
  .rw[af hm] at mu;simp only[hm];repeat first|simp[hw]|refine sR ?_|apply sC
   apply sE;exact⟨⟨i+1,own,tok',nt'⟩,⟨hlt,htk⟩,by simp only;omega,wM htk.le rfl (by simp[ToL,lk,mu]) trivial⟩
  .rw[ac hm] at mu;simp only[hm];repeat first|simp[hlt]|refine sR ?_|apply sC
   refine⟨⟨by omega,htk.live⟩,?_⟩;repeat first|simp[hw]|refine sR ?_
   apply sE;exact⟨⟨i+1,_,_,_⟩,⟨hlt,htk.app⟩,by simp only;omega,wM htk.app.le rfl (by simp[ToL,lk,mu]) trivial⟩
 .apply sX;simp only[AU,↓reduceIte];have:i=images.length:=by omega
  subst this;repeat first|simp|refine sR ?_
  have e:cA images keep=kZ images keep images.length:=rfl
  refine sT (sG Hb Ht htk.old htk.le ?_);simp[e]
def mY(n:Nat)(l:List Int):List Int:=((List.range n).filter fun (k:Nat)=>decide ((k:Int)∉l)).map fun (k:Nat)=>(k:Int)
theorem wH(l:List Int)(i:Nat):mY (i+1) l=if (i:Int)∈l then mY i l else mY i l++[(i:Int)]:=by
 unfold mY;rw[cn,dm,c7];by_cases h:(i:Int)∈l
 .simp[h]
 .simp[h]
theorem aAg(n:Nat)(l:List Int):(mY n l).length<=n:=by
 unfold mY;rw[br];have:=dl (fun (k:Nat)=>decide ((k:Int)∉l)) (List.range n)
 simpa using this
theorem xV(l:List Int):mY 0 l=[]:=rfl
def aJU(n:Nat)(l:List Int)(nb:Nat)(box:Bxs)(x:Acc):AS:=⟨tl [(0,I n),(1,.d (ints l)),(5,.osl 1 (rI (mY x.i l)) x.own),(6,I x.i)],lb nb box [],x.tok,x.nt⟩
theorem aDF(n:Nat)(l:List Int)(h1:n<=1000000)(h2:l.length<=1000000):DC 211 [I n,.d (ints l)] (.d (ints (mY n l))):=by
 intro tok nt box nb;have hh:=fun v=>vH l v h2
 refine sI func211 ntmps211 fun Hb Ht=>?_
 repeat first|simp|refine sR ?_
 apply sN;refine sL (aJU n l nb box) (fun x=>x.i<=n/\TK tok nt x.tok x.nt [x.own]) (fun x=>n-x.i) ⟨0,.full,tok,nt⟩ ⟨ai _,(TK.start Ht).full⟩ (wM (nr0 _) rfl (by simp[ToL,lk,xV]) trivial) ?_;rintro⟨i,own,tok',nt'⟩ S ⟨hi,htk⟩ hS;simp only[aJU] at hS hi htk;subst hS;have hw:=sW (i:=i) (by omega);have mu:=wH l i;have hlen:=aAg i l;repeat first|simp|refine sR ?_|apply sC
 refine⟨fun hlt=>?_,fun hge=>?_⟩
 .repeat first|simp|refine sR ?_
  refine sD (hh _ _ _) ?_;simp;by_cases hm:(i:Int)∈l
  .rw[af hm] at mu;simp only[hm];repeat first|simp[hw]|refine sR ?_|apply sC
   apply sE;exact⟨⟨i+1,own,tok',nt'⟩,⟨hlt,htk⟩,by simp only;omega,wM htk.le rfl (by simp[ToL,lk,mu]) trivial⟩
  .rw[ac hm] at mu;simp only[hm];repeat first|simp|refine sR ?_
   apply sC;repeat first|simp|refine sR ?_
   refine⟨⟨by omega,htk.live⟩,?_⟩;repeat first|simp[hw]|refine sR ?_
   apply sE;exact⟨⟨i+1,_,_,_⟩,⟨hlt,htk.app⟩,by simp only;omega,wM htk.app.le rfl (by simp[ToL,lk,mu]) trivial⟩
 .apply sX;simp only[AU,↓reduceIte];have:i=n:=by omega
  subst this;repeat first|simp|refine sR ?_
  refine sT (sG Hb Ht htk.old htk.le ?_);simp
def mC(g:Gr)(keep m:Mo)(i:Nat):Bool:=decide ((i:Int)∉m.edges/\((g.edges.getD i default).fr∈cA m.nodes keep.nodes∨(g.edges.getD i default).to∈cA m.nodes keep.nodes))
def eT(g:Gr)(keep m:Mo)(n:Nat):List Int:=((List.range n).filter (mC g keep m)).map fun (k:Nat)=>(k:Int)
theorem yF(g:Gr)(keep m:Mo)(i:Nat):eT g keep m (i+1)=if mC g keep m i=true then eT g keep m i++[(i:Int)] else eT g keep m i:=by
 unfold eT;rw[cn,dm,c7];by_cases h:mC g keep m i=true
 .simp[h]
 .simp[h]
theorem aAj(g:Gr)(keep m:Mo)(n:Nat):(eT g keep m n).length<=n:=by
 unfold eT;rw[br];have:=dl (mC g keep m) (List.range n)
 simpa using this
theorem aAC(g:Gr)(keep m:Mo):decide (0<(eT g keep m g.edges.length).length)=kA g keep m:=by
 rw[dp,au,kA,dy,eT,br,List.length_pos_iff_exists_mem];constructor
 .rintro⟨k,hk⟩;have:=ce.1 hk;exact⟨k,this.1,this.2⟩
 .rintro⟨k,h1,h2⟩;exact⟨k,ce.2 ⟨h1,h2⟩⟩
theorem vR(g:Gr)(keep m:Mo):eT g keep m 0=[]:=rfl
def aIc(g:Gr)(keep m:Mo)(nb:Nat)(box:Bxs)(x:Acc):AS :=
 ⟨tl [(11,I x.i),(10,.d (ints (cA m.nodes keep.nodes))),(9,.osl 1 (rI (eT g keep m x.i)) x.own),(7,.ptr (nb+7) 0 0),(5,.ptr (nb+5) 0 0)],lb nb box [(7,[[.d (ints m.nodes),.d (ints m.edges)]]),(5,[[.d (ints g.nodes),.d (AM.edges g.edges)]])],x.tok,x.nt⟩
theorem aBr(l g:Gr)(keep m:Mo)(hg:g.Fit)(hm:m.Fit)(hk:keep.Fit):DC 210 [l.av,g.av,keep.av,m.av] (.d (ints (eT g keep m g.edges.length))):=by
 intro tok nt box nb;have hh:=fun v=>vH m.edges v hm.e
 have AO:=wY m.nodes keep.nodes hm.n hk.n;have ve:=fun v=>vH (cA m.nodes keep.nodes) v (by have:=oB m.nodes keep.nodes m.nodes.length;have:=hm.n;unfold cA;unfold kZ at *;omega)
 refine sI func210 ntmps210 fun Hb Ht=>?_
 repeat first|simp|refine sR ?_
 refine sD (AO _ _) ?_;repeat first|simp|refine sR ?_
 apply sN;have hge:=hg.e;refine sL (aIc g keep m nb box) (fun x=>x.i<=g.edges.length/\TK tok nt x.tok x.nt [x.own]) (fun x=>g.edges.length-x.i) ⟨0,.full,tok,nt⟩ ⟨ai _,(TK.start Ht).full⟩ (wM (nr0 _) rfl (by simp[ToL,lk,vR]) (by simp[aC,lk])) ?_;rintro⟨i,own,tok',nt'⟩ S ⟨hi,htk⟩ hS;simp only[aIc] at hS hi htk;subst hS;have hw:=sW (i:=i) (by omega);have mu:=yF g keep m i;have hlen:=aAj g keep m i;repeat first|simp|refine sR ?_|apply sC
 refine⟨fun hlt=>?_,fun hge=>?_⟩
 .have mc:g.edges.getD i default=g.edges[i]:=by simp[hlt]
  have hP:mC g keep m i=(decide ((i:Int)∉m.edges)&&(decide (g.edges[i].fr∈cA m.nodes keep.nodes)||decide (g.edges[i].to∈cA m.nodes keep.nodes))):=by unfold mC;rw[mc];simp
  have no:mC g keep m i=false->eT g keep m (i+1)=eT g keep m i:=fun h=>by rw[mu,ac (by simp[h])]
  have yes:mC g keep m i=true->eT g keep m (i+1)=eT g keep m i++[(i:Int)]:=fun h=>by rw[mu,af h]
  repeat first|simp|refine sR ?_
  refine sD (hh _ _ _) ?_;simp;by_cases hm:(i:Int)∈m.edges
  .have no:=no (by rw[hP];simp[hm]);simp only[hm];repeat first|simp[hw]|refine sR ?_|apply sC
   apply sE;exact⟨⟨i+1,own,tok',nt'⟩,⟨hlt,htk⟩,by simp only;omega,wM htk.le rfl (by simp[ToL,lk,no]) (by simp[aC,lk])⟩
  .simp only[hm];repeat first|simp[hlt]|refine sR ?_
   refine sD (ve _ _ _) ?_;simp;by_cases h1:g.edges[i].fr∈cA m.nodes keep.nodes
   .have yes:=yes (by rw[hP];simp[hm,h1]);simp only[h1];repeat first|simp|refine sR ?_
    apply sC;repeat first|simp|refine sR ?_
    refine⟨⟨by omega,htk.live⟩,?_⟩;repeat first|simp[hw]|refine sR ?_
    apply sE;exact⟨⟨i+1,_,_,_⟩,⟨hlt,htk.app⟩,by simp only;omega,wM htk.app.le rfl (by simp[ToL,lk,yes]) (by simp[aC,lk])⟩
   .simp only[h1];repeat first|simp[hlt]|refine sR ?_
    refine sD (ve _ _ _) ?_;simp;by_cases h2:g.edges[i].to∈cA m.nodes keep.nodes
    .have yes:=yes (by rw[hP];simp[hm,h2]);simp only[h2];repeat first|simp|refine sR ?_
     apply sC;repeat first|simp|refine sR ?_
     refine⟨⟨by omega,htk.live⟩,?_⟩;repeat first|simp[hw]|refine sR ?_
     apply sE;exact⟨⟨i+1,_,_,_⟩,⟨hlt,htk.app⟩,by simp only;omega,wM htk.app.le rfl (by simp[ToL,lk,yes]) (by simp[aC,lk])⟩
    .have no:=no (by rw[hP];simp[hm,h1,h2]);simp only[h2];repeat first|simp[hw]|refine sR ?_|apply sC
     apply sE;exact⟨⟨i+1,own,tok',nt'⟩,⟨hlt,htk⟩,by simp only;omega,wM htk.le rfl (by simp[ToL,lk,no]) (by simp[aC,lk])⟩
 .apply sX;simp only[AU,↓reduceIte];have:i=g.edges.length:=by omega
  subst this;repeat first|simp|refine sR ?_
  refine sT (sG Hb Ht htk.old htk.le ?_);simp
def aHV(images keep:List Int)(nb:Nat)(box:Bxs)(tok:Tks)(nt:Nat)(i:Nat):AS:=⟨tl [(0,.d (ints images)),(1,.d (ints keep)),(5,.osl 0 [] .full),(6,I i)],lb nb box [],tok,nt⟩
def aFy(images keep:List Int)(i:Nat)(nb:Nat)(box:Bxs)(tok:Tks)(nt:Nat)(k:Nat):AS:=⟨tl [(0,.d (ints images)),(1,.d (ints keep)),(5,.osl 0 [] .full),(6,I i),(7,I k)],lb nb box [],tok,nt⟩
theorem nE(images keep:List Int)(h1:images.length<=1000000)(h2:keep.length<=1000000)(hn:images.Nodup):DC 209 [.d (ints images),.d (ints keep)] (.d (.sl 2 [])):=by
 intro tok nt box nb;refine sI func209 ntmps209 fun Hb Ht=>?_
 repeat first|simp|refine sR ?_
 apply sN;refine sL (aHV images keep nb box tok nt) (fun i=>i<=images.length) (fun i=>images.length-i) 0 (ai _) (wM (nr0 _) rfl (by simp[ToL,lk]) trivial) ?_;rintro i S hi hS;simp only[aHV] at hS;subst hS;have hw:=sW (i:=i) (by omega);repeat first|simp|refine sR ?_|apply sC
 refine⟨fun hlt=>?_,fun hge=>?_⟩
 .repeat first|simp[hw]|refine sR ?_
  apply sN;refine sL (aFy images keep i nb box tok nt) (fun k=>i<k/\k<=images.length) (fun k=>images.length-k) (i+1) ⟨ef _,hlt⟩ (wM (nr0 _) rfl (by simp[ToL,lk]) trivial) ?_;rintro k S ⟨AI,hk⟩ hS;simp only[aFy] at hS;subst hS;have oi:=sW (i:=k) (by omega);repeat first|simp|refine sR ?_|apply sC
  refine⟨fun ll=>?_,fun hge=>?_⟩
  .have hne:(images[i]==images[k])=false:=by
    have:=dh.1 hn i k hlt ll AI
    simpa using this
   repeat first|simp[hlt,ll,hne]|refine sR ?_
   apply sC;simp;repeat first|simp[oi]|refine sR ?_
   apply sE;exact⟨k+1,⟨by omega,ll⟩,by omega,wM (nr0 _) rfl (by simp[ToL,lk]) trivial⟩
  .apply sX;simp only[AU,↓reduceIte];repeat first|simp[hw]|refine sR ?_
   apply sE;exact⟨i+1,hlt,by omega,wM (nr0 _) rfl (by simp[ToL,lk]) trivial⟩
 .apply sX;simp only[AU,↓reduceIte];repeat first|simp|refine sR ?_
  refine sT (sH ?_);simp
theorem aHm(l g:Gr)(keep m:Mo)(hl:l.Fit)(hg:g.Fit)(hm:m.Fit)(hk:keep.Fit):DC 208 [l.av,g.av,keep.av,m.av] (I (if aG l g m≠0 then aG l g m else cU l keep)):=by
 intro tok nt box nb;have h1:=kK l g m hl hg;have h2:=oK l keep hl hk;refine sI func208 ntmps208 fun Hb Ht=>?_
 repeat first|simp|refine sR ?_
 refine sD (h1 _ _) ?_;repeat first|simp|refine sR ?_
 by_cases e1:aG l g m=0
 .simp only[e1];apply sC;repeat first|simp|refine sR ?_
  refine sD (h2 _ _) ?_;repeat first|simp|refine sR ?_
  refine sT (sH ?_);simp[e1]
 .have b1:(aG l g m != 0)=true:=by simp[e1]
  simp only[b1];apply sC;repeat first|simp|refine sR ?_
  refine sT (sH ?_);simp[e1]
def vA(l g:Gr)(keep m:Mo):Mo × Int:=if kA g keep m=true then (⟨[],[]⟩,14) else (aHf g keep m,0)
theorem yJ(n:Nat)(images keep:List Int):mY n (cA images keep)=gH n images keep:=rfl
theorem tA(images keep:List Int):(cA images keep).length<=images.length:=oB images keep images.length
theorem aNU(l g:Gr)(keep m:Mo)(hl:l.Fit)(hg:g.Fit)(hm:m.Fit)(hk:keep.Fit)(he:Emb l g m)(hp:VP l keep):DC 147 [l.av,g.av,keep.av,m.av] (.tup [(vA l g keep m).1.av,I (vA l g keep m).2]):=by
 intro tok nt box nb;have h1:=aHm l g keep m hl hg hm hk;rw[he.v,hp.v] at h1;have i1:=nE m.nodes keep.nodes hm.n hk.n he.n;have i2:=nE m.edges keep.edges hm.e hk.e he.e;have hd:=aBr l g keep m hg hm hk;have th:=aAC g keep m;have xy:=hm.n;have Ck:=hm.e;have rc:=hg.n;have hge:=hg.e;have g1:=wY m.nodes keep.nodes hm.n hk.n;have g2:=wY m.edges keep.edges hm.e hk.e;have l1:=tA m.nodes keep.nodes;have l2:=tA m.edges keep.edges;have r1:=aDF g.nodes.length (cA m.nodes keep.nodes) (by omega) (by omega);have r2:=aDF g.edges.length (cA m.edges keep.edges) (by omega) (by omega);rw[yJ] at r1 r2;refine sI func147 ntmps147 fun Hb Ht=>?_
 repeat first|simp|refine sR ?_
 refine sD (h1 _ _) ?_;repeat first|simp|refine sR ?_
 apply sC;repeat first|simp|refine sR ?_
 refine sD (i1 _ _) ?_;repeat first|simp|refine sR ?_
 have w0:IntKind.i64.wrap 0=0:=rfl
 refine sD (i2 _ _) ?_;simp[w0];repeat first|simp[w0]|refine sR ?_
 apply sC;repeat first|simp|refine sR ?_
 refine sD (hd _ _) ?_;repeat first|simp|refine sR ?_
 have Ab:aHf g keep m=⟨gH g.nodes.length m.nodes keep.nodes,gH g.edges.length m.edges keep.edges⟩:=rfl
 rw[th];cases hx:kA g keep m
 .apply sC;repeat first|simp|refine sR ?_
  refine sD (g1 _ _) ?_;repeat first|simp|refine sR ?_
  refine sD (r1 _ _) ?_;repeat first|simp|refine sR ?_
  refine sD (g2 _ _) ?_;repeat first|simp|refine sR ?_
  refine sD (r2 _ _) ?_;repeat first|simp|refine sR ?_
  refine sT (sH ?_);simp[vA,hx,Ab]
 .apply sC;repeat first|simp|refine sR ?_
  refine sT (sH ?_);simp[vA,hx,ints]
abbrev aKw(l g:Gr)(keep m:Mo):AV:=.agg [.d (ints l.nodes),.d (AM.edges l.edges),.d (ints g.nodes),.d (AM.edges g.edges),.d (ints keep.nodes),.d (ints keep.edges),.d (ints m.nodes),.d (ints m.edges)]
theorem aHC(l g:Gr)(keep m:Mo)(hl:l.Fit)(hg:g.Fit)(hm:m.Fit)(hk:keep.Fit):DC 111 [aKw l g keep m] (I (if aG l g m≠0 then aG l g m else cU l keep)):=by
 intro tok nt box nb;have h1:=lC l g m hl hg;have h2:=rK l keep hl hk;refine sI func111 ntmps111 fun Hb Ht=>?_
 repeat first|simp|refine sR ?_
 refine sD (h1 _ _) ?_;repeat first|simp|refine sR ?_
 by_cases e1:aG l g m=0
 .simp only[e1];apply sC;repeat first|simp|refine sR ?_
  refine sD (h2 _ _) ?_;repeat first|simp|refine sR ?_
  refine sT (sH ?_);simp[e1]
 .have b1:(aG l g m != 0)=true:=by simp[e1]
  simp only[b1];apply sC;repeat first|simp|refine sR ?_
  refine sT (sH ?_);simp[e1]
def aQz(l g:Gr)(keep m:Mo)(nb:Nat)(box:Bxs)(x:Acc):AS :=
 ⟨tl [(10,I x.i),(9,I m.nodes.length),(8,.d (ints m.nodes)),(3,.osl 1 (rI (kZ m.nodes keep.nodes x.i)) x.own),(1,.ptr (nb+1) 0 0)],lb nb box [(1,[[.d (ints l.nodes),.d (AM.edges l.edges),.d (ints g.nodes),.d (AM.edges g.edges),.d (ints keep.nodes),.d (ints keep.edges),.d (ints m.nodes),.d (ints m.edges)]])],x.tok,x.nt⟩
theorem aGv(l g:Gr)(keep m:Mo)(hm:m.Fit)(hk:keep.Fit):DC 172 [aKw l g keep m] (.d (ints (cA m.nodes keep.nodes))):=by
 intro tok nt box nb;have hh:=fun v=>bQ keep.nodes v hk.n
 refine sI func172 ntmps172 fun Hb Ht=>?_
 repeat first|simp|refine sR ?_
 apply sN;have xy:=hm.n;refine sL (aQz l g keep m nb box) (fun x=>x.i<=m.nodes.length/\TK tok nt x.tok x.nt [x.own]) (fun x=>m.nodes.length-x.i) ⟨0,.full,tok,nt⟩ ⟨ai _,(TK.start Ht).full⟩ (wM (nr0 _) rfl (by simp[ToL,lk,pO]) (by simp[aC,lk])) ?_;rintro⟨i,own,tok',nt'⟩ S ⟨hi,htk⟩ hS;simp only[aQz] at hS hi htk;subst hS;have hw:=sW (i:=i) (by omega);have mu:=qA m.nodes keep.nodes i;have hlen:=oB m.nodes keep.nodes i;repeat first|simp|refine sR ?_|apply sC
 refine⟨fun hlt=>?_,fun hge=>?_⟩
 .have hg:m.nodes.getD i 0=m.nodes[i]:=by simp[hlt]
  rw[hg] at mu;repeat first|simp[hlt]|refine sR ?_
  refine sD (hh _ _ _) ?_;simp;by_cases qn:(i:Int)∈keep.nodes
  .rw[af qn] at mu;simp only[qn];repeat first|simp[hw]|refine sR ?_|apply sC
   apply sE;exact⟨⟨i+1,own,tok',nt'⟩,⟨hlt,htk⟩,by simp only;omega,wM htk.le rfl (by simp[ToL,lk,mu]) (by simp[aC,lk])⟩
  .rw[ac qn] at mu;simp only[qn];repeat first|simp|refine sR ?_
   apply sC;repeat first|simp|refine sR ?_
   refine⟨⟨by omega,htk.live⟩,?_⟩;repeat first|simp[hw]|refine sR ?_
   apply sE;exact⟨⟨i+1,_,_,_⟩,⟨hlt,htk.app⟩,by simp only;omega,wM htk.app.le rfl (by simp[ToL,lk,mu]) (by simp[aC,lk])⟩
 .apply sX;simp only[AU,↓reduceIte];have:i=m.nodes.length:=by omega
  subst this;repeat first|simp|refine sR ?_
  have e:cA m.nodes keep.nodes=kZ m.nodes keep.nodes m.nodes.length:=rfl
  refine sT (sG Hb Ht htk.old htk.le ?_);simp[e]
def aQI(images keep:List Int)(nb:Nat)(box:Bxs)(tok:Tks)(nt:Nat)(i:Nat):AS:=⟨tl [(10,I i),(9,I images.length),(8,.d (ints images)),(0,.d (ints images)),(1,.d (ints keep)),(5,.osl 0 [] .full)],lb nb box [],tok,nt⟩
def aMf(images keep:List Int)(i:Nat)(nb:Nat)(box:Bxs)(tok:Tks)(nt:Nat)(k:Nat):AS:=⟨tl [(10,I i),(9,I images.length),(8,.d (ints images)),(0,.d (ints images)),(1,.d (ints keep)),(5,.osl 0 [] .full),(6,I i),(7,I k)],lb nb box [],tok,nt⟩
theorem aDW(images keep:List Int)(h1:images.length<=1000000)(h2:keep.length<=1000000)(hn:images.Nodup):DC 171 [.d (ints images),.d (ints keep)] (.d (.sl 2 [])):=by
 intro tok nt box nb;refine sI func171 ntmps171 fun Hb Ht=>?_
 repeat first|simp|refine sR ?_
 apply sN;refine sL (aQI images keep nb box tok nt) (fun i=>i<=images.length) (fun i=>images.length-i) 0 (ai _) (wM (nr0 _) rfl (by simp[ToL,lk]) trivial) ?_;rintro i S hi hS;simp only[aQI] at hS;subst hS;have hw:=sW (i:=i) (by omega);repeat first|simp|refine sR ?_|apply sC
 refine⟨fun hlt=>?_,fun hge=>?_⟩
 .repeat first|simp[hw]|refine sR ?_
  apply sN;refine sL (aMf images keep i nb box tok nt) (fun k=>i<k/\k<=images.length) (fun k=>images.length-k) (i+1) ⟨ef _,hlt⟩ (wM (nr0 _) rfl (by simp[ToL,lk]) trivial) ?_;rintro k S ⟨AI,hk⟩ hS;simp only[aMf] at hS;subst hS;have oi:=sW (i:=k) (by omega);repeat first|simp|refine sR ?_|apply sC
  refine⟨fun ll=>?_,fun hge=>?_⟩
  .have hne:(images[i]==images[k])=false:=by
    have:=dh.1 hn i k hlt ll AI
    simpa using this
   repeat first|simp[hlt,ll,hne]|refine sR ?_
   apply sC;simp;repeat first|simp[oi]|refine sR ?_
   apply sE;exact⟨k+1,⟨by omega,ll⟩,by omega,wM (nr0 _) rfl (by simp[ToL,lk]) trivial⟩
  .apply sX;simp only[AU,↓reduceIte];repeat first|simp[hw]|refine sR ?_
   apply sE;exact⟨i+1,hlt,by omega,wM (nr0 _) rfl (by simp[ToL,lk]) trivial⟩
 .apply sX;simp only[AU,↓reduceIte];repeat first|simp|refine sR ?_
  refine sT (sH ?_);simp
def aP1(l g:Gr)(keep m:Mo)(nb:Nat)(box:Bxs)(x:Acc):AS :=
 ⟨tl [(13,I x.i),(12,I g.edges.length),(11,.d (AM.edges g.edges)),(4,.osl 1 (rI (eT g keep m x.i)) x.own),(3,.d (ints (cA m.nodes keep.nodes))),(1,.ptr (nb+1) 0 0)],lb nb box [(1,[[.d (ints l.nodes),.d (AM.edges l.edges),.d (ints g.nodes),.d (AM.edges g.edges),.d (ints keep.nodes),.d (ints keep.edges),.d (ints m.nodes),.d (ints m.edges)]])],x.tok,x.nt⟩
theorem aDk(l g:Gr)(keep m:Mo)(hg:g.Fit)(hm:m.Fit)(hk:keep.Fit):DC 113 [aKw l g keep m] (.d (ints (eT g keep m g.edges.length))):=by
 intro tok nt box nb;have hh:=fun v=>bQ m.edges v hm.e
 have AO:=aGv l g keep m hm hk;have ve:=fun v=>bQ (cA m.nodes keep.nodes) v (by have:=tA m.nodes keep.nodes;have:=hm.n;omega)
 refine sI func113 ntmps113 fun Hb Ht=>?_
 repeat first|simp|refine sR ?_
 refine sD (AO _ _) ?_;repeat first|simp|refine sR ?_
 apply sN;have hge:=hg.e;refine sL (aP1 l g keep m nb box) (fun x=>x.i<=g.edges.length/\TK tok nt x.tok x.nt [x.own]) (fun x=>g.edges.length-x.i) ⟨0,.full,tok,nt⟩ ⟨ai _,(TK.start Ht).full⟩ (wM (nr0 _) rfl (by simp[ToL,lk,vR]) (by simp[aC,lk])) ?_;rintro⟨i,own,tok',nt'⟩ S ⟨hi,htk⟩ hS;simp only[aP1] at hS hi htk;subst hS;have hw:=sW (i:=i) (by omega);have mu:=yF g keep m i;have hlen:=aAj g keep m i;repeat first|simp|refine sR ?_|apply sC
 refine⟨fun hlt=>?_,fun hge=>?_⟩
 .have mc:g.edges.getD i default=g.edges[i]:=by simp[hlt]
  have hP:mC g keep m i=(decide ((i:Int)∉m.edges)&&(decide (g.edges[i].fr∈cA m.nodes keep.nodes)||decide (g.edges[i].to∈cA m.nodes keep.nodes))):=by unfold mC;rw[mc];simp
  have no:mC g keep m i=false->eT g keep m (i+1)=eT g keep m i:=fun h=>by rw[mu,ac (by simp[h])]
  have yes:mC g keep m i=true->eT g keep m (i+1)=eT g keep m i++[(i:Int)]:=fun h=>by rw[mu,af h]
  repeat first|simp[hlt]|refine sR ?_
  refine sD (hh _ _ _) ?_;simp;by_cases qn:(i:Int)∈m.edges
  .have no:=no (by rw[hP];simp[qn]);simp only[qn];repeat first|simp[hw]|refine sR ?_|apply sC
   apply sE;exact⟨⟨i+1,own,tok',nt'⟩,⟨hlt,htk⟩,by simp only;omega,wM htk.le rfl (by simp[ToL,lk,no]) (by simp[aC,lk])⟩
  .simp only[qn];repeat first|simp|refine sR ?_
   refine sD (ve _ _ _) ?_;simp;by_cases h1:g.edges[i].fr∈cA m.nodes keep.nodes
   .have yes:=yes (by rw[hP];simp[qn,h1]);simp only[h1];repeat first|simp|refine sR ?_
    apply sC;repeat first|simp|refine sR ?_
    refine⟨⟨by omega,htk.live⟩,?_⟩;repeat first|simp[hw]|refine sR ?_
    apply sE;exact⟨⟨i+1,_,_,_⟩,⟨hlt,htk.app⟩,by simp only;omega,wM htk.app.le rfl (by simp[ToL,lk,yes]) (by simp[aC,lk])⟩
   .simp only[h1];repeat first|simp|refine sR ?_
    refine sD (ve _ _ _) ?_;simp;by_cases h2:g.edges[i].to∈cA m.nodes keep.nodes
    .have yes:=yes (by rw[hP];simp[qn,h2]);simp only[h2];repeat first|simp|refine sR ?_
     apply sC;repeat first|simp|refine sR ?_
     refine⟨⟨by omega,htk.live⟩,?_⟩;repeat first|simp[hw]|refine sR ?_
     apply sE;exact⟨⟨i+1,_,_,_⟩,⟨hlt,htk.app⟩,by simp only;omega,wM htk.app.le rfl (by simp[ToL,lk,yes]) (by simp[aC,lk])⟩
    .have no:=no (by rw[hP];simp[qn,h1,h2]);simp only[h2];repeat first|simp[hw]|refine sR ?_|apply sC
     apply sE;exact⟨⟨i+1,own,tok',nt'⟩,⟨hlt,htk⟩,by simp only;omega,wM htk.le rfl (by simp[ToL,lk,no]) (by simp[aC,lk])⟩
 .apply sX;simp only[AU,↓reduceIte];have:i=g.edges.length:=by omega
  subst this;repeat first|simp|refine sR ?_
  refine sT (sG Hb Ht htk.old htk.le ?_);simp
def gI(bs:List Bool):List (List AV):=bs.map fun b=>[AV.d (.raw (.bool b))]
theorem aD7(bs:List Bool):gI bs=cI (bs.map fun b=>[D.raw (.bool b)]):=by simp[gI,cI]
@[simp] theorem aSS(bs:List Bool)(i:Nat)(v:Bool):(gI bs).set i [AV.d (.raw (.bool v))]=gI (bs.set i v):=by simp[gI,List.map_set]
@[simp] theorem aKI(bs:List Bool):(gI bs).length=bs.length:=by simp[gI]
@[simp high] theorem aOd{bs:List Bool}{i:Nat}(h:i<bs.length):(gI bs)[i]?=some [AV.d (.raw (.bool bs[i]))]:=by simp[gI,h]
@[simp] theorem aPt{p q:Nat->Prop}{fz:Option (Nat × Nat × List (List D))}(bs:List Bool):gN p q fz (gI bs) (gI bs):=by rw[aD7];simp
def gE(n:Nat)(images keep:List Int):Nat->List Bool
 | 0=>List.replicate n false
 | i+1=>if (i:Int)∈keep then gE n images keep i else (gE n images keep i).set (images.getD i 0).toNat true
theorem kM(n:Nat)(images keep:List Int):∀i,(gE n images keep i).length=n
 | 0=>by simp[gE]
 | i+1=>by
  unfold gE;split
  .exact kM n images keep i
  .rw[List.length_set];exact kM n images keep i
theorem aAs(n:Nat)(images keep:List Int)(hr:∀x∈images,0<=x/\x<n):∀i,i<=images.length->∀k,k<n->(gE n images keep i).getD k false=decide ((k:Int)∈kZ images keep i)
 | 0,_,k,hk=>by simp[gE,pO,hk]
 | i+1,hi,k,hk=>by
  have ih:=aAs n images keep hr i (by omega) k hk;have rg:=hr _ (aR (d:=0) (show i<images.length by omega));rw[qA];unfold gE;by_cases hm:(i:Int)∈keep
  .rw[af hm,af hm];exact ih
  .rw[ac hm,ac hm];have hl:=kM n images keep i;by_cases e:(images.getD i 0).toNat=k
   .rw[e,ao,List.getElem?_set_self (by omega)];have:(k:Int)=images.getD i 0:=by omega
    simp[this]
   .rw[ao,List.getElem?_set_ne e,<-List.getD_eq_getElem?_getD,ih];have:¬(k:Int)=images.getD i 0:=by omega
    rw[decide_eq_decide,ap,a7];simp only[this,or_false]
def aOq(n:Nat)(images keep:List Int)(nb:Nat)(box:Bxs)(tok:Tks)(nt:Nat)(i:Nat):AS :=
 ⟨tl [(17,I i),(16,I images.length),(15,.d (ints images)),(7,.msl (nb+14) 0 n 1),(6,.osl 0 [] .full),(0,I n),(2,.d (ints keep))],lb nb box [(14,gI (gE n images keep i))],tok,nt⟩
def aQq(n:Nat)(images keep:List Int)(nb:Nat)(box:Bxs)(x:Acc):AS :=
 ⟨tl [(32,I x.i),(31,I n),(30,.msl (nb+14) 0 n 1),(10,.osl 1 (rI (mY x.i (cA images keep))) x.own)],lb nb box [(14,gI (gE n images keep images.length))],x.tok,x.nt⟩
theorem aFl(n:Nat)(images keep:List Int)(hn:n<=1000000)(h1:images.length<=1000000)(h2:keep.length<=1000000)(hr:∀x∈images,0<=x/\x<n):DC 114 [I n,.d (ints images),.d (ints keep)] (.d (ints (gH n images keep))):=by
 intro tok nt box nb;have hh:=fun v=>bQ keep v h2
 refine sI func114 ntmps114 fun Hb Ht=>?_
 repeat first|simp|refine sR ?_
 refine⟨by omega,?_⟩;repeat first|simp|refine sR ?_
 apply sN;have Cs:List.replicate n [B false]=gI (gE n images keep 0):=by simp[gE,gI]
 refine sL (aOq n images keep nb box tok nt) (fun i=>i<=images.length) (fun i=>images.length-i) 0 (ai _) (wM (nr0 _) rfl (by simp[ToL,lk]) (by simp[aC,lk,Cs])) ?_;rintro i S hi hS;simp only[aOq] at hS;subst hS;have hw:=sW (i:=i) (by omega);have hgl:=kM n images keep i;repeat first|simp|refine sR ?_|apply sC
 refine⟨fun hlt=>?_,fun hge=>?_⟩
 .obtain⟨r1,r2⟩:=hr _ (aa hlt);have r3:images[i].toNat<n:=by omega
  have hg:images.getD i 0=images[i]:=by simp[hlt]
  repeat first|simp[hlt]|refine sR ?_
  refine sD (hh _ _ _) ?_;simp;by_cases hm:(i:Int)∈keep
  .have mu:gE n images keep (i+1)=gE n images keep i:=af hm
   simp only[hm];repeat first|simp[hw]|refine sR ?_|apply sC
   apply sE;exact⟨i+1,hlt,by omega,wM (nr0 _) rfl (by simp[ToL,lk]) (by simp[aC,lk,mu])⟩
  .have mu:gE n images keep (i+1)=(gE n images keep i).set images[i].toNat true:=by rw[<-hg];exact ac hm
   simp only[hm];repeat first|simp[r1,r2,r3,hgl,hw]|refine sR ?_|apply sC
   apply sE;exact⟨i+1,hlt,by omega,wM (nr0 _) rfl (by simp[ToL,lk]) (by simp[aC,lk,mu])⟩
 .apply sX;simp only[AU,↓reduceIte];have:i=images.length:=by omega
  subst this;repeat first|simp|refine sR ?_
  apply sN;refine sL (aQq n images keep nb box) (fun x=>x.i<=n/\TK tok nt x.tok x.nt [x.own]) (fun x=>n-x.i) ⟨0,.full,tok,nt⟩ ⟨ai _,(TK.start Ht).full⟩ (wM (nr0 _) rfl (by simp[ToL,lk,xV]) (by simp[aC,lk])) ?_;rintro⟨i,own,tok',nt'⟩ S ⟨hi,htk⟩ hS;simp only[aQq] at hS hi htk;subst hS;have hw:=sW (i:=i) (by omega);have mu:=wH (cA images keep) i;have hlen:=aAg i (cA images keep);have v7:=aAs n images keep hr images.length (nr0 _) i;repeat first|simp|refine sR ?_|apply sC
  refine⟨fun hlt=>?_,fun hge=>?_⟩
  .have v7:=v7 hlt;have Ct:=kM n images keep images.length
   have v7:(gE n images keep images.length)[i]'(by omega)=decide ((i:Int)∈cA images keep):=by
    have h:(gE n images keep images.length)[i]?=some ((gE n images keep images.length)[i]'(by omega)):=ab (by omega)
    rw[ao,h] at v7;exact v7
   repeat first|simp[hlt,Ct]|refine sR ?_
   rw[v7];by_cases hm:(i:Int)∈cA images keep
   .rw[af hm] at mu;simp only[hm];apply sC;simp;repeat first|simp[hw]|refine sR ?_
    apply sE;exact⟨⟨i+1,own,tok',nt'⟩,⟨hlt,htk⟩,by simp only;omega,wM htk.le rfl (by simp[ToL,lk,mu]) (by simp[aC,lk])⟩
   .rw[ac hm] at mu;simp only[hm];apply sC;repeat first|simp|refine sR ?_
    refine⟨⟨by omega,htk.live⟩,?_⟩;repeat first|simp[hw]|refine sR ?_
    apply sE;exact⟨⟨i+1,_,_,_⟩,⟨hlt,htk.app⟩,by simp only;omega,wM htk.app.le rfl (by simp[ToL,lk,mu]) (by simp[aC,lk])⟩
  .apply sX;simp only[AU,↓reduceIte];have:i=n:=by omega
   subst this;repeat first|simp|refine sR ?_
   refine sT (sG Hb Ht htk.old htk.le ?_);simp[yJ]
theorem aJA(l g:Gr)(keep m:Mo)(hm:m.Fit)(hk:keep.Fit)(hn:m.nodes.Nodup)(he:m.edges.Nodup):DC 112 [aKw l g keep m] (.tup [.d (.sl 2 []),.d (.sl 2 [])]):=by
 intro tok nt box nb;have i1:=aDW m.nodes keep.nodes hm.n hk.n hn;have i2:=aDW m.edges keep.edges hm.e hk.e he;refine sI func112 ntmps112 fun Hb Ht=>?_
 repeat first|simp|refine sR ?_
 refine sD (i1 _ _) ?_;repeat first|simp|refine sR ?_
 refine sD (i2 _ _) ?_;repeat first|simp|refine sR ?_
 refine sT (sH ?_);simp
theorem aQH(l g:Gr)(keep m:Mo)(hl:l.Fit)(hg:g.Fit)(hm:m.Fit)(hk:keep.Fit)(he:Emb l g m)(hp:VP l keep):DC 68 [l.av,g.av,keep.av,m.av] (.tup [(vA l g keep m).1.av,I (vA l g keep m).2]):=by
 intro tok nt box nb;have h1:=aHC l g keep m hl hg hm hk;rw[he.v,hp.v] at h1;have i1:=aJA l g keep m hm hk he.n he.e;have hd:=aDk l g keep m hg hm hk;have th:=aAC g keep m;have rc:=hg.n;have hge:=hg.e;have v:=he.vm;have r1:=aFl g.nodes.length m.nodes keep.nodes (by omega) hm.n hk.n v.n;have r2:=aFl g.edges.length m.edges keep.edges (by omega) hm.e hk.e v.e;have w0:IntKind.i64.wrap 0=0:=rfl
 refine sI func68 ntmps68 fun Hb Ht=>?_
 repeat first|simp|refine sR ?_
 refine sD (h1 _ _) ?_;repeat first|simp|refine sR ?_
 apply sC;repeat first|simp|refine sR ?_
 refine sD (i1 _ _) ?_;simp;repeat first|simp[w0]|refine sR ?_
 have Ab:aHf g keep m=⟨gH g.nodes.length m.nodes keep.nodes,gH g.edges.length m.edges keep.edges⟩:=rfl
 apply sC;repeat first|simp|refine sR ?_
 refine sD (hd _ _) ?_;repeat first|simp|refine sR ?_
 rw[th];cases hx:kA g keep m
 .apply sC;repeat first|simp|refine sR ?_
  refine sD (r1 _ _) ?_;repeat first|simp|refine sR ?_
  refine sD (r2 _ _) ?_;repeat first|simp|refine sR ?_
  refine sT (sH ?_);simp[vA,hx,Ab]
 .apply sC;repeat first|simp|refine sR ?_
  refine sT (sH ?_);simp[vA,hx,ints]
def aL9(ns:List Int)(js:List Int)(i:Nat):List Int:=(js.take i).map fun j=>ns.getD j.toNat 0
@[simp] theorem aOi(l h:List Int)(i:Nat):(aL9 l h i).length=min i h.length:=by simp[aL9]
def aL3(es:List E)(ns js:List Int)(i:Nat):List E:=(js.take i).map fun j=>⟨(es.getD j.toNat default).ty,aU ns (es.getD j.toNat default).fr,aU ns (es.getD j.toNat default).to⟩
@[simp] theorem aN2(l:List E)(ns h:List Int)(i:Nat):(aL3 l ns h i).length=min i h.length:=by simp[aL3]
def rkK(ns:List Int)(bit:Nat->Bool):Nat->List Int
 | 0=>[]
 | i+1=>if bit i=true then rkK ns bit i++[((chN ns bit i).1.length:Int)] else rkK ns bit i++[0]
def rkR(ns:List Int)(bit:Nat->Bool)(n i:Nat):List Int:=rkK ns bit i++List.replicate (n-i) 0
theorem aFw(ns:List Int)(bit:Nat->Bool):∀i,(rkK ns bit i).length=i
 | 0=>rfl
 | i+1=>by
  simp only[rkK];split<;>simp[aFw ns bit i]
@[simp] theorem aQZ(ns:List Int)(bit:Nat->Bool){n i:Nat}(h:i<=n):(rkR ns bit n i).length=n:=by simp[rkR,aFw];omega
def sameAt(a b:List Int)(i k:Nat):Bool:=decide (a.getD i 0=a.getD k 0)==decide (b.getD i 0=b.getD k 0)
def aQe(l:List Int)(lo hi:Int)(i:Nat):List Int:=(l.take i).map fun k=>if k=hi then lo else k
@[simp] theorem aOk(l:List Int)(lo hi:Int)(i:Nat):(aQe l lo hi i).length=min i l.length:=by simp[aQe]
def aQX(l:List Int)(i:Nat):List Int:=l.take i
@[simp] theorem aPA(l:List Int)(i:Nat):(aQX l i).length=min i l.length:=by simp[aQX]
structure Mt (n1 n2:Nat) (F G:List Int):Prop where
 l:F.length=G.length
 f:F.Nodup
 g:G.Nodup
 rf:∀x∈F,0<=x/\x<n1
 rg:∀x∈G,0<=x/\x<n2
theorem Emb.fit{a b:Gr}{m:Mo}(h:Emb a b m):m.Fit/\a.Fit/\b.Fit:=by
 have v:=h.vm;have h1:=(bG v.va).1;have h2:=(bG v.vb).1;have h3:=v.ln;have h4:=v.le;exact⟨⟨by omega,by omega⟩,⟨by omega,by omega⟩,⟨by omega,by omega⟩⟩
end Go.AM
namespace Go.Proofs
open Go.Shelf
open Go.Proofs.Tryz
end Go.Proofs
namespace Go.AM
open Go Go.Proofs Go.RowKit Go.Lib
open Go.Proofs.Tryz
theorem aAn{l:List Int}{n:Nat}(hn:l.Nodup)(hr:∀x∈l,0<=x/\x<n):cR l=mJ l n:=by
 have hp:(cR l).Perm l:=List.mergeSort_perm _ _
 have hs:(cR l).Pairwise fun a b=>(decide (a<=b))=true:=List.pairwise_mergeSort (fun a b c h1 h2=>by simp only[au] at *;omega) (fun a b=>by simp only[d9,au];omega) l
 have hd:(cR l).Nodup:=hp.nodup_iff.2 hn
 refine aHM (List.Pairwise.imp₂ (fun a b h1 h2=>?_) hs hd) (aBW _ _) fun x=>?_
 .simp only[au] at h1;have:a≠b:=h2
  omega
 .rw[hp.mem_iff,jD];exact⟨fun h=>⟨h,hr x h⟩,fun h=>h.1⟩
theorem aHq{a y:Gr}{q:Mo}(hq:Emb a y q):(zJ y q)=⟨cR q.nodes,cR q.edges⟩:=by
 have v:=hq.vm;rw[zJ,aAn hq.n v.n,aAn hq.e v.e]
theorem aCh.fit{s:Sp}(h:aCh s):s.l.Fit/\s.r.Fit/\s.k.Fit/\s.i.Fit:=⟨h.k.emb.fit.2.2,h.i.fit.2.2,h.k.emb.fit.1,h.i.fit.1⟩
def aP9(s:Sp)(c:Cd):Cd × Int:=if aBJ s.r c≠0 then (sZ 0 [],aBJ s.r c) else if (c.lft s).2≠0 then (sZ 0 [],(c.lft s).2) else if aBJ s.l (c.lft s).1≠0 then (sZ 0 [],aBJ s.l (c.lft s).1) else ((c.lft s).1,0)
def aM2(r:Ru)(c:Cd):Cd × Int:=if cQ r≠0 then (sZ 0 [],cQ r) else aP9 r.sp c
def Sp.ru(s:Sp):Ru:=⟨⟨#[]⟩,s.l,[],0,[],s.r,[],0,[],s.k,s.i,true,sZ 0 []⟩
set_option maxRecDepth 100000 in
theorem fU(r:Ru)(hr:r.Fit):DC 63 [r.av] (I (cQ r)):=by
 intro tok nt box nb;have h1:=dU r.lg hr.lg;have h2:=dU r.rg hr.rg;have h3:=oK r.lg r.k hr.lg hr.k;have h4:=fun h=>aCV r.lg r.k hr.lg hr.k h
 have h5:=fun h=>kK (exG r.lg r.k) r.rg r.i h hr.rg
 have h6:=fun h=>kI (exG r.lg r.k) r.rg r.i h hr.rg hr.i
 have zg:=hr.ls;have hlt:=hr.lt;have qj:=hr.rs;have Cu:=hr.rt;rw[bP] at zg hlt qj Cu;refine sI func63 ntmps63 fun Hb Ht=>?_
 repeat first|simp|refine sR ?_
 refine sD (h1 _ _) ?_;repeat first|simp|refine sR ?_
 by_cases e1:vG r.lg=0
 .simp only[e1];apply sC;repeat first|simp|refine sR ?_
  refine sD (h2 _ _) ?_;repeat first|simp|refine sR ?_
  by_cases e2:vG r.rg=0
  .simp only[e2];apply sC;repeat first|simp|refine sR ?_
   refine sD (h3 _ _) ?_;repeat first|simp|refine sR ?_
   by_cases e3:cU r.lg r.k=0
   .simp only[e3];apply sC;repeat first|simp|refine sR ?_
    have hp:=VP.of e3;have hx:=hp.emb.fit.2.1;refine sD (h4 hp _ _) ?_;repeat first|simp|refine sR ?_
    refine sD (h5 hx _ _) ?_;repeat first|simp|refine sR ?_
    by_cases e4:aG (exG r.lg r.k) r.rg r.i=0
    .simp only[e4];apply sC;repeat first|simp|refine sR ?_
     refine sD (h6 hx _ _) ?_;repeat first|simp|refine sR ?_
     cases e5:fV (exG r.lg r.k) r.rg r.i
     .apply sC;repeat first|simp|refine sR ?_
      refine sT (sH ?_);simp[cQ,e1,e2,e3,e4,e5]
     .apply sC;simp;have w0:IntKind.i64.wrap ((r.lsl.length:Int)+r.lte.length)=(r.lsl.length:Int)+r.lte.length:=aM (by omega) (by omega)
      have w1:IntKind.i64.wrap ((r.lsl.length:Int)+r.lte.length+r.rsl.length)=(r.lsl.length:Int)+r.lte.length+r.rsl.length:=aM (by omega) (by omega)
      have w2:IntKind.i64.wrap ((r.lsl.length:Int)+r.lte.length+r.rsl.length+r.rte.length)=(r.lsl.length:Int)+r.lte.length+r.rsl.length+r.rte.length:=aM (by omega) (by omega)
      by_cases s1:((r.lsl.length:Int)+r.lte.length+r.rsl.length+r.rte.length)=0
      .have b1:(((r.lsl.length:Int)+r.lte.length+r.rsl.length+r.rte.length)==0)=true:=by rw[g8];exact s1
       by_cases s2:r.lv=0
       .have b2:(r.lv==0)=true:=by simp[s2]
        by_cases s3:r.rv=0
        .have b3:(r.rv==0)=true:=by simp[s3]
         have y1:r.plainL:=⟨by omega,s2⟩
         have y2:r.plainR:=⟨by omega,s3⟩
         cases jf:r.inj
         .repeat first|simp[w0,w1,w2,b1,b2,b3,jf]|refine sR ?_
          apply sC;repeat first|simp|refine sR ?_
          refine sT (sH ?_);simp[cQ,e1,e2,e3,e4,e5,y1,y2,jf]
         .repeat first|simp[w0,w1,w2,b1,b2,b3,jf]|refine sR ?_
          apply sC;repeat first|simp|refine sR ?_
          refine sT (sH ?_);simp[cQ,e1,e2,e3,e4,e5,y1,y2,jf]
        .have b3:(r.rv==0)=false:=by simp[s3]
         have n2:¬r.plainR:=fun h=>s3 h.2
         repeat first|simp[w0,w1,w2,b1,b2,b3]|refine sR ?_
         apply sC;repeat first|simp|refine sR ?_
         refine sT (sH ?_);simp[cQ,e1,e2,e3,e4,e5,n2]
       .have b2:(r.lv==0)=false:=by simp[s2]
        have n1:¬r.plainL:=fun h=>s2 h.2
        repeat first|simp[w0,w1,w2,b1,b2]|refine sR ?_
        apply sC;repeat first|simp|refine sR ?_
        refine sT (sH ?_);simp[cQ,e1,e2,e3,e4,e5,n1]
      .have b1:(((r.lsl.length:Int)+r.lte.length+r.rsl.length+r.rte.length)==0)=false:=by rw[beq_eq_false_iff_ne];exact s1
       have n1:¬(r.plainL/\r.plainR/\r.inj=true):=fun h=>by
        have h1:=h.1.1;have h2:=h.2.1.1;omega
       have hS:cQ r=8:=by simp only[cQ,e1,e2,e3,e4,e5];simp[n1]
       rw[hS];repeat first|simp[w0,w1,w2,b1]|refine sR ?_
       apply sC;repeat first|simp|refine sR ?_
       refine sT (sH ?_);simp
    .have b4:(aG (exG r.lg r.k) r.rg r.i != 0)=true:=by simp[e4]
     simp only[b4];apply sC;repeat first|simp|refine sR ?_
     refine sT (sH ?_);simp[cQ,e1,e2,e3,e4]
   .have b3:(cU r.lg r.k != 0)=true:=by simp[e3]
    simp only[b3];apply sC;repeat first|simp|refine sR ?_
    refine sT (sH ?_);simp[cQ,e1,e2,e3]
  .have b2:(vG r.rg != 0)=true:=by simp[e2]
   simp only[b2];apply sC;repeat first|simp|refine sR ?_
   refine sT (sH ?_);simp[cQ,e1,e2]
 .have b1:(vG r.lg != 0)=true:=by simp[e1]
  simp only[b1];apply sC;repeat first|simp|refine sR ?_
  refine sT (sH ?_);simp[cQ,e1]
def aBo(r:Ru):Bool:=qN r.lg&&qN r.rg&&uX r.k 140&&uX r.i 140
structure Ru.Big (r:Ru):Prop where
 k:r.k.nodes.length<=dP/\r.k.edges.length<=dP
 i:r.i.nodes.length<=dP/\r.i.edges.length<=dP
 ls:r.lsl.length<=dP
 lt:r.lte.length<=dP
 rs:r.rsl.length<=dP
 rt:r.rte.length<=dP
 c:r.c.Big
theorem aLR(r:Ru)(hb:r.Big):DC 102 [r.av] (B (aBo r)):=by
 intro tok nt box nb;obtain⟨k1,k2⟩:=hb.k;obtain⟨i1,i2⟩:=hb.i;rw[bP] at k1 k2 i1 i2;have h1:=vM r.lg;have h2:=vM r.rg;have h3:=aLe r.k 140 (by omega) (by omega);have h4:=aGa r.i 140 (by omega) (by omega);refine sI func102 ntmps102 fun Hb Ht=>?_
 repeat first|simp|refine sR ?_
 refine sD (h1 _ _) ?_;repeat first|simp|refine sR ?_
 cases e1:qN r.lg
 .repeat first|simp|refine sR ?_
  refine sT (sH ?_);simp[aBo,e1]
 .repeat first|simp|refine sR ?_
  refine sD (h2 _ _) ?_;repeat first|simp|refine sR ?_
  cases e2:qN r.rg
  .repeat first|simp|refine sR ?_
   refine sT (sH ?_);simp[aBo,e1,e2]
  .repeat first|simp|refine sR ?_
   refine sD (h3 _ _) ?_;repeat first|simp|refine sR ?_
   cases e3:uX r.k 140
   .repeat first|simp|refine sR ?_
    refine sT (sH ?_);simp[aBo,e1,e2,e3]
   .repeat first|simp|refine sR ?_
    refine sD (h4 _ _) ?_;repeat first|simp|refine sR ?_
    refine sT (sH ?_);simp[aBo,e1,e2,e3]
theorem aDG{l:List Int}{v:Int}(h:v∉l):aU l v = -1:=by
 rcases tY l v with ⟨h1,_⟩|⟨k,_,h3,h4⟩
 .exact h1
 .exact absurd (h4 ▸ aR h3) h
end Go.AM
namespace Go.Proofs.YtchfmhhbiealcaaGreatDoor.back
open Go Go.Proofs Go.RowKit Go.AM
open Go.Proofs.Tryz
theorem info3:(prog.info? 3).map (fun i=>(i.zero,i.size,i.bytes))=some (some (.int .i64 0),1,8):=by kernel_rfl
end Go.Proofs.YtchfmhhbiealcaaGreatDoor.back
namespace Go.Proofs.YtchfmhhbiealcaaGreatDoor.back
open Go Go.Proofs Go.RowKit Go.AM
open Go.Proofs.Tryz
end Go.Proofs.YtchfmhhbiealcaaGreatDoor.back
namespace Go.AM
open Go Go.Proofs Go.RowKit
open Go.Proofs.Tryz
def upP(ps:List Int)(i:Nat):List Int:=if _h:0<=ps.getD i 0/\(ps.getD i 0).toNat<i then (i:Int)::upP ps (ps.getD i 0).toNat else [(i:Int)]
termination_by i
decreasing_by exact _h.2
def upI(ps:List Int)(a:Int):List Int:=if a<0 then [] else upP ps a.toNat
theorem qZ{ps:List Int}{a:Int}(h:a<0):upI ps a=[]:=af h
theorem wB{ps:List Int}{a:Int}(h:0<=a)(hp:ps.getD a.toNat 0<a):upI ps a=a::upI ps (ps.getD a.toNat 0):=by
 rw[upI,ac (by omega),upP];by_cases h0:0<=ps.getD a.toNat 0
 .rw[gx ⟨h0,by omega⟩,upI,ac (by omega),fq h]
 .rw[dif_neg (fun h2=>h0 h2.1),upI,af (by omega),fq h]
theorem aGg(ps:List Int):∀n i,i<n->(upP ps i).length<=i+1
 | 0,i,h=>absurd h (b8 _)
 | n+1,i,h=>by
  rw[upP];split
  .rename_i h1;have:=aGg ps n _ (show (ps.getD i 0).toNat<n by omega)
   simp only[ci];omega
  .simp
theorem aFO(ps:List Int)(a:Int):(upI ps a).length<=(a+1).toNat:=by
 unfold upI;split
 .simp
 .have:=aGg ps _ _ (ef a.toNat)
  omega
end Go.AM
namespace Go.Proofs.YtchfmhhbiealcaaGreatDoor.line
open Go Go.Proofs Go.RowKit Go.AM Go.Sort
open Go.Proofs.Tryz
theorem aNo{w:World}{base base':Nat}{e:TypeId}{size:Nat}{v:Value}{n:Nat}{xs:List Value}(h:w.ownsRow base e size v n xs)(hb:base'<=base):w.ownsRow base' e size v n xs :=
 ⟨h.1,h.2.imp id fun ⟨g,cap,cur,a,b,c⟩=>⟨g,cap,cur,a,Nat.le_trans hb b,c⟩⟩
theorem rev{base n:Nat}{v:Value}{l:List Int}{w0 w:World}(hown:w.ownsRow base 3 1 v n (l.map (Value.int .i64)))(hb:Below base w0 w)(hl:l.length<=1000000):
  Calls prog 322 #[v] w fun e w'=>e=.returned (.tuple #[])/\w'.ownsRow base 3 1 v n (l.reverse.map (Value.int .i64))/\Below base w0 w':=by
 rcases hown.2 with ⟨rfl,e0⟩|⟨g,cap,cur,rfl,mc,nf,hg3,hg4,hg5,hg6⟩
 .refine(Tryz.slices_Reverse_int_empty _ _ _).mono ?_;rintro e w3 ⟨rfl,rfl⟩;subst e0;have:l=[]:=List.length_eq_zero_iff.1 (by simpa using hown.1)
  subst this;exact⟨rfl,hown,hb⟩
 .obtain⟨g',cap',hv,mj,hgl,hncap,hcm,hlen,hH⟩:=Lib.holds_of_ownsRow hown (by simp);cases hv;have AP:=Tryz.slices_Reverse_int g 0 cap l _ hH (by omega);rw[hlen] at AP;refine AP.mono ?_;rintro e w3 ⟨rfl,q,rfl⟩;have hh:=Lib.ownsRow_putRow (q:=q) (ys:=l.reverse) hown (by simpa using hlen) (Nat.le_refl _);rw[List.take_of_length_le (by simp[hlen])] at hh;exact⟨rfl,hh,Lib.below_putRow hb mc⟩
set_option maxHeartbeats 2000000 in
set_option maxRecDepth 100000 in
theorem any(b off n c:Nat)(u:Value)(a0:Int)(ps:List Int)(w:World)(hz:ps.length=n)(hn:n<=1000000)(ha:a0<n)(hp:∀j,j<n->ps.getD j 0<j)(hb:b<w.heap.size)(hc:∀j,j<n->w.cell? ⟨b,off+j*4+1,none⟩=some (.int .i64 (ps.getD j 0))):
  Calls prog 286 #[.agg #[.slice (some ⟨b,off,none⟩) n c,u],.int .i64 a0] w fun e w'=>∃v,e=.returned v/\w'.ownsRow w.heap.size 3 1 v (upI ps a0).length ((upI ps a0).reverse.map (Value.int .i64))/\Below w.heap.size w w':=by
 obtain⟨i0,hi,hz0,hz1,hz2'⟩:=info_parts YtchfmhhbiealcaaGreatDoor.back.info3
 go_enter func286,ntmps286
 go_wp2
 have hsz:(w.alloc (Obj.cells #[Value.slice (some { block:=b,off:=off }) n c,u] 25)).heap.size=w.heap.size+1:=by unfold World.alloc;exact Array.size_push _
 have hz2:(w.alloc (Obj.cells #[Value.slice (some { block:=b,off:=off }) n c,u] 25)).cell? ⟨w.heap.size,0,none⟩=some (Value.slice (some { block:=b,off:=off }) n c):=by rw[World.cell?_alloc_at _ _ _ _ rfl];rfl
 have hcc:∀j,j<n->(w.alloc (Obj.cells #[Value.slice (some { block:=b,off:=off }) n c,u] 25)).cell? ⟨b,off+j*4+1,none⟩=some (.int .i64 (ps.getD j 0)):=fun j hj=>((Below.refl _ w).alloc (Nat.le_refl _) _ |>.cell (by exact hb)).trans (hc j hj)
 have hbel:Below w.heap.size w (w.alloc (Obj.cells #[Value.slice (some { block:=b,off:=off }) n c,u] 25)):=(Below.refl _ w).alloc (Nat.le_refl _) _
 generalize w.alloc (Obj.cells #[Value.slice (some { block:=b,off:=off }) n c,u] 25)=w1 at *
 go_loopw [1,5] (fun x v wr=>∃(a:Int) (l:List Int),x=.int .i64 a/\a<n/\l++upI ps a=upI ps a0/\wr.ownsRow w1.heap.size 3 1 v l.length (l.map (Value.int .i64))/\Below w1.heap.size w1 wr) (fun x _ _=>(intOf x+1).toNat)
 case atStart=>exact⟨a0,[],rfl,ha,rfl,World.ownsRow_nil _ _ _ _,Below.refl _ _⟩
 case round =>
  obtain⟨a,l,rfl,hal,hl,hown,hnx⟩:=hrel;have hll:l.length<=n:=by
   have h1:=congrArg List.length hl;have h2:=aFO ps a0;rw[List.length_append] at h1;omega
  have hr2:=(hnx.cell (p:=⟨w.heap.size,0,none⟩) (by simp;omega)).trans hz2
  go_wp2_with (first
   | (at_builtin;refine wpList_append_own _ rfl _ _ 37 rfl w1.heap.size 3 i0 (.int .i64 0) 1 8 underlying37 hi hz0 hz1 hz2' rfl (by decide) _ _ _ rfl (hown.alloc _) ⟨wr.heap.size,0,none⟩ 1 1 [.int .i64 a] rfl rfl ?c1 ?c2 ?c3 ?c4 ?c5 ?_)
   | (go_at_call 322;refine(rev hown hnx (by omega)).mono ?_;rintro e w3 ⟨rfl,hown3,hnx3⟩)
   | go_in)
  case c1 =>
   intro j u hj
   match j,hj with
   | 0,hj=>simp at hj;subst hj;simp[Addr.add]
  case c2=>intro u hu;simp at hu;subst hu;rfl
  case c3=>unfold maxLen;omega
  case c4=>omega
  case c5=>have:=hnx.size;simp;omega
  .intro v' w2 hown' hgrow hne;have h0:0<=a:=by assumption
   obtain⟨k,rfl⟩:=Int.eq_ofNat_of_zero_le h0;have hnx1:Below w1.heap.size w1 w2:=(hnx.alloc (by have:=hnx.size;omega) _).grown hgrow (by have:=hnx.size;simp;omega) (fun q hq=>(hown.lt q hq).1)
   have hr3:=(hnx1.cell (p:=⟨w.heap.size,0,none⟩) (by simp;omega)).trans hz2;have hr4:=(hnx1.cell (p:=⟨b,off+k*4+1,none⟩) (by simp;omega)).trans (hcc k (by omega));have hup:=wB (ps:=ps) h0 (by have:=hp k (by omega);simpa using this);rw[hup,Int.toNat_natCast] at hl;clear hgrow hown hnx hne
   go_wp2
   refine⟨⟨ps.getD k 0,l++[(k:Int)],rfl,by have:=hp k (by omega);omega,by rw[List.append_assoc];exact hl,by simpa[hsz] using hown',hnx1⟩,?_⟩;have:=hp k (by omega)
   simp at this;simp[intOf];omega
  .go_ret
   have h0:a<0:=by assumption
   rw[qZ h0,List.append_nil] at hl;rw[<-hl];exact⟨_,rfl,aNo hown3 (by omega),hbel.trans (hnx3.mono (by omega))⟩
end Go.Proofs.YtchfmhhbiealcaaGreatDoor.line
namespace Go.AM
open Go Go.Proofs Go.RowKit
open Go.Proofs.Tryz
abbrev Ty.pars(t:Ty):List Int:=t.nodes.map NT.par
theorem fI(t:Ty){j:Nat}(h:j<t.nodes.length):t.pars.getD j 0=(t.nd j).par:=by simp[Ty.pars,Ty.nd,h]
theorem aIj{c:Addr->Option Value}{ps:Addr->Prop}{l:List NT}{v:Value}(h:RVd c ps (nts l) v):
  ∃A cap,v=.slice A l.length cap/\l.length<=cap/\cap<=maxLen/\(l≠[]->∃a,A=some a)/\∀a,A=some a->∀i (hi:i<l.length),c (a.add (i*4))=some (.string l[i].name)/\c (a.add (i*4+1))=some (.int .i64 l[i].par):=by
 unfold nts at h;generalize mf:l.map NT.cells=es at h;cases h with
 | @sl _ _ A cap u i8 i9 hsz hA hc hr =>
  have hl:es.length=l.length:=by rw[<-mf];simp
  refine⟨A,cap,by rw[hl],by omega,i9,fun hne=>hA (by intro e;rw[e] at hl;exact hne (dj.1 hl.symm)),fun a ha i hi=>⟨?_,?_⟩⟩
  .have g:=(hc a ha i 0 (by omega) (by decide)).2;have r:=hr i 0 (by omega) (by rw[hsz _ (aa _)];decide);have e1:es[i][0]'(by rw[hsz _ (aa _)];decide)=D.raw (.string l[i].name):=by
    subst mf;simp
   rw[e1] at r;have e2:u i 0=.string l[i].name:=by
    generalize hu:u i 0=x at r;cases r;rfl
   rw[<-e2];exact g
  .have g:=(hc a ha i 1 (by omega) (by decide)).2;have r:=hr i 1 (by omega) (by rw[hsz _ (aa _)];decide);have e1:es[i][1]'(by rw[hsz _ (aa _)];decide)=D.raw (.int .i64 l[i].par):=by
    subst mf;simp
   rw[e1] at r;have e2:u i 1=.int .i64 l[i].par:=by
    generalize hu:u i 1=x at r;cases r;rfl
   rw[<-e2];exact g
theorem aNS(t:Ty)(ht:t.nodes.length<=1000000)(a:Int)(h0:0<=a)(ha:a<t.nodes.length)(hp:∀j,j<t.nodes.length->(t.nd j).par<j):DC 286 [t.av,I a] (.d (ints (upI t.pars a).reverse)):=by
 intro tok nt box nb;refine⟨iC.mk func286 rfl (by kernel_rfl),fun G w vals hm hr=>?_⟩;obtain⟨hlen,ql⟩:=hr
 match vals,hlen with
 | [v,x],_ =>
  have h0:=ql 0 (by simp) (by simp);have h1:=ql 1 (by simp) (by simp);simp only[ck,List.getElem_cons_succ] at h0 h1;cases h1 with
  | d h1 =>
  cases h1 with
  | raw h1 =>
  cases h0 with
  | @agg _ vs hl h2 h3 =>
   match vs,hl with
   | [v1,v2],_ =>
    have h4:=h2 0 (by simp) (by simp);simp only[ck] at h4;cases h4 with
    | d h4 =>
     obtain⟨A,cap,rfl,i8,i9,hA,hc⟩:=aIj h4;have e:t.nodes≠[]:=by intro e;rw[e] at ha;simp at ha;omega
     obtain⟨a1,rfl⟩:=hA e;have Db:0<t.nodes.length:=dg.2 e
     have ro:=hc a1 rfl
     have hs:a1.spot=none:=by
      cases qf:a1.spot with
      | none=>rfl
      | some q =>
       exfalso
       have:=(ro 0 Db).1
       simp only[World.cell?,Addr.add,qf,Option.isSome_some,↓reduceIte] at this;split at this<;>simp at this
     obtain⟨b,off,sp⟩:=a1;simp only at hs;subst hs;have hcc:∀j,j<t.nodes.length->w.cell? ⟨b,off+j*4+1,none⟩=some (.int .i64 (t.pars.getD j 0)):=fun j hj=>by
      have h1:=(ro j hj).2;rw[fI t hj,iV hj];unfold Addr.add at h1;split at h1
      .rename_i e;omega
      .rw[show off+j*4+1=off+(j*4+1) by omega];exact h1
     have DR:b<w.heap.size:=yM (hcc 0 Db)
     refine(YtchfmhhbiealcaaGreatDoor.line.any b off t.nodes.length cap v2 a t.pars w (by simp) ht (by omega) (fun j hj=>by rw[fI t hj];exact hp j hj) DR hcc).mono ?_;rintro e w' ⟨v,rfl,hown,hb⟩;refine⟨v,_,_,G,rfl,⟨rfl,rfl⟩,rfl,fB hm hb,.d (nK hm (by rw[List.length_reverse];exact hown)),gX hm hb,fun k hk=>⟨hk,rfl⟩⟩
theorem Ty.Fit.hM{t:Ty}(h:t.Fit)(i:Nat):(t.nd i).own.length<=1000:=by
 by_cases hi:i<t.nodes.length
 .rw[iV hi];exact(h.a _ (aa hi)).1
 .simp[Ty.nd,d4 (Nat.le_of_not_lt hi)];exact ai _
theorem aJH(t:Ty)(n:Int)(box:Bxs)(nb k:Nat)(tok:Tks)(nt:Nat)(h1:box k=some [[.d (nts t.nodes),.d (ets t.edges)]]):
  aD prog 285 [I n,.ptr k 0 0] ⟨box,nb,tok,nt⟩ fun v m=>v=B (!gF t n)/\m=⟨box,nb,tok,nt⟩:=by
 by_cases h0:n<0
 .rw[show gF t n=false by simp only[gF,bq];omega];refine sI func285 ntmps285 fun Hb Ht=>?_
  have k1n:=bC Hb h1;repeat first|simp[lO k1n,h1,h0]|refine sR ?_
  refine sT (sH ?_);simp
 .by_cases h2:(t.nodes.length:Int)<=n
  .rw[show gF t n=false by simp only[gF,bq];omega];refine sI func285 ntmps285 fun Hb Ht=>?_
   have k1n:=bC Hb h1;repeat first|simp[lO k1n,h1,h0,h2]|refine sR ?_
   refine sT (sH ?_);simp
  .rw[show gF t n=true by simp only[gF,au];omega];refine sI func285 ntmps285 fun Hb Ht=>?_
   have k1n:=bC Hb h1;repeat first|simp[lO k1n,h1,h0,h2]|refine sR ?_
   refine sT (sH ?_);simp
def pC(t:Ty)(l:List Int):Int:=if tyE t=0 then (if bB (fun a=>!gF t a) l=true then 6 else 0) else tyE t
theorem aFJ(t:Ty)(ht:t.Fit)(l:List Int)(hl:l.length<=1000000):DC 247 [t.av,.d (ints l)] (I (pC t l)):=by
 intro tok nt box nb;have h1:=nW t ht ht.hM;obtain⟨N,hN⟩:∃N,pC t l=N:=⟨_,rfl⟩
 rw[hN];unfold pC at hN;generalize tyE t=E at *;generalize tyN t=Z at *;refine sI func247 ntmps247 fun Hb Ht=>?_
 repeat first|simp|refine sR ?_
 refine sD (h1 _ _) ?_;repeat first|simp|refine sR ?_
 by_cases e1:E=0
 .rw[af e1] at hN;obtain⟨p,pm⟩:∃p:Int->Bool,(fun a=>!gF t a)=p:=⟨_,rfl⟩
  have h2:=fun y box nb k oz=>aJH t y box nb k tok nt oz
  have t7:∀y:Int,(!gF t y)=p y:=fun y=>by rw[<-pm]
  simp only[t7] at h2;rw[pm] at hN;apply sC;simp[e1];repeat first|simp|refine sR ?_
  refine aN.of_b (iY l 285 [.ptr (nb+2) 0 0] p hl _ _ _ _ (fun c hc=>by rw[a7.1 hc];simp[aQ]) (fun y hy box' nb' he=>h2 y box' nb' _ (he _ _ (by simp[aQ])))) ?_;simp;cases e2:bB p l
  .rw[e2,ac (by simp)] at hN;repeat first|simp|refine sR ?_
   apply sC;repeat first|simp|refine sR ?_
   refine sT (sH ?_);simp[<-hN]
  .rw[e2,af rfl] at hN;repeat first|simp|refine sR ?_
   apply sC;repeat first|simp|refine sR ?_
   refine sT (sH ?_);simp[<-hN]
 .rw[ac e1] at hN;have b1:(E != 0)=true:=by simp[e1]
  apply sC;simp[b1];repeat first|simp|refine sR ?_
  refine sT (sH ?_);simp[<-hN]
def isB(t:Ty)(a b:Int):Bool:=decide (b∈upI t.pars a)
theorem aNF(t:Ty)(ht:t.Fit)(a b:Int)(h0:0<=a)(ha:a<t.nodes.length)(hp:∀j,j<t.nodes.length->(t.nd j).par<j):DC 248 [t.av,I a,I b] (B (isB t a b)):=by
 intro tok nt box nb;have hc:=aNS t (by have:=ht.n;omega) a h0 ha hp;have hlen:=aFO t.pars a;have qo:=ht.n;obtain⟨N,hN⟩:∃N,isB t a b=N:=⟨_,rfl⟩
 rw[hN];unfold isB at hN;have rh:decide (b∈(upI t.pars a).reverse)=N:=by rw[<-hN];simp
 have hl2:(upI t.pars a).reverse.length<=1000000:=by rw[List.length_reverse];omega
 generalize (upI t.pars a).reverse=L at *;have hk:=bQ L b hl2;rw[rh] at hk;refine sI func248 ntmps248 fun Hb Ht=>?_
 repeat first|simp|refine sR ?_
 refine sD (hc _ _) ?_;repeat first|simp|refine sR ?_
 refine sD (hk _ _) ?_;repeat first|simp|refine sR ?_
 refine sT (sH ?_);simp
theorem kB{t:Ty}(h:tyE t=0):∀j,j<t.nodes.length->(t.nd j).par<j:=by
 unfold tyE at h;split at h
 .cases h
 .split at h
  .cases h
  .split at h
   .cases h
   .split at h
    .rename_i h1;exact absurd h h1
    .rename_i h1;exact fun j hj=>yG (dX _ (dq.1 h1) j hj)
def pE(t:Ty)(e a b:Int):Bool :=
 if pC t [a,b]=0 then (if 0<=e then (if e<t.edges.length then (if isB t a (t.ed e.toNat).fr=true then isB t b (t.ed e.toNat).to else false) else false) else false) else false
theorem aBL{t:Ty}{l:List Int}(h:pC t l=0):tyE t=0/\∀a∈l,0<=a/\a<t.nodes.length:=by
 unfold pC at h;split at h
 .rename_i h1;split at h
  .cases h
  .rename_i h2;refine⟨h1,fun a ha=>?_⟩;simp only[bB,dy,not_exists,not_and] at h2;have:=h2 a ha
   simpa[gF] using this
 .rename_i h1;exact absurd h h1
theorem aGj(t:Ty)(ht:t.Fit)(e a b:Int):DC 190 [t.av,I e,I a,I b] (B (pE t e a b)):=by
 intro tok nt box nb;have h1:=aFJ t ht [a,b] (by simp);have jf:=@aBL t [a,b];obtain⟨N,hN⟩:∃N,pE t e a b=N:=⟨_,rfl⟩
 rw[hN];unfold pE at hN;generalize pC t [a,b]=E at *;refine sI func190 ntmps190 fun Hb Ht=>?_
 repeat first|simp|refine sR ?_
 refine⟨rfl,?_⟩;refine aN.data ?_;refine sD (h1 _ _) ?_;simp;by_cases e1:E=0
 .obtain⟨t8,jf⟩:=jf e1;have ha:=jf a (by simp);have hb:=jf b (by simp);rw[af e1] at hN;by_cases e2:0<=e
  .have j0:¬e<0:=by omega
   rw[af e2] at hN;by_cases e3:e<t.edges.length
   .have pp:¬(t.edges.length:Int)<=e:=by omega
    rw[af e3] at hN;obtain⟨k,rfl⟩:=cm e2;have hk:k<t.edges.length:=by omega
    rw[bz,xG hk] at hN;have c1:=aNF t ht a t.edges[k].fr ha.1 ha.2 (kB t8);have c2:=aNF t ht b t.edges[k].to hb.1 hb.2 (kB t8);repeat first|simp[e1,j0,pp,hk]|refine sR ?_
    apply sC;simp[e1,j0,pp,hk];repeat first|simp[hk]|refine sR ?_
    refine sD (c1 _ _) ?_;simp;cases f1:isB t a t.edges[k].fr
    .rw[f1,ac (by simp)] at hN;repeat first|simp|refine sR ?_
     refine sT (sH ?_);simp[<-hN]
    .rw[f1,af rfl] at hN;repeat first|simp[hk]|refine sR ?_
     refine sD (c2 _ _) ?_;repeat first|simp|refine sR ?_
     refine sT (sH ?_);simp[<-hN]
   .have pp:(t.edges.length:Int)<=e:=by omega
    rw[ac e3] at hN;repeat first|simp[e1,j0,pp]|refine sR ?_|apply sC
    refine sT (sH ?_);simp[<-hN]
  .have j0:e<0:=by omega
   rw[ac e2] at hN;repeat first|simp[e1,j0]|refine sR ?_|apply sC
   refine sT (sH ?_);simp[<-hN]
 .rw[ac e1] at hN;have b1:(E != 0)=true:=by simp[e1]
  repeat first|simp[b1]|refine sR ?_|apply sC
  refine sT (sH ?_);simp[<-hN]
theorem uJ(t:Ty)(a b:Int)(h0:a<0)(hb:0<=b):DC 159 [t.av,I a,I b] (B false):=by
 intro tok nt box nb;have zb:¬0<=a:=by omega
 have e:(a==b)=false:=by simp;omega
 refine sI func159 ntmps159 fun Hb Ht=>?_
 repeat first|simp[e,zb]|refine sR ?_
 refine sT (sH ?_);simp
theorem nB(t:Ty)(b:Int)(hb:0<=b)(hp:∀j,j<t.nodes.length->(t.nd j).par<j):∀(n:Nat) (a:Int),a<n->a<t.nodes.length->∀(tok:Tks) (nt:Nat),cZ prog 159 [t.av,I a,I b] tok nt (B (isB t a b)) tok nt
  | 0,a,ha,_,tok,nt=>by
    rw[show isB t a b=false by rw[isB,qZ (by omega)];simp];exact uJ t a b (by omega) hb tok nt
  | n+1,a,ha,hl,tok,nt=>by
    by_cases h0:a<0
    . rw[show isB t a b=false by rw[isB,qZ h0];simp]
      exact uJ t a b h0 hb tok nt
    . obtain⟨k,rfl⟩:=cm (show 0<=a by omega)
      have hk:k<t.nodes.length:=by omega
      have wd:=hp k hk;have hup:=wB (ps:=t.pars) (a:=(k:Int)) (by omega) (by rw[bz,fI t hk];exact wd);rw[bz,fI t hk] at hup;have ih:=nB t b hb hp n (t.nd k).par (by omega) (by omega);intro box nb;by_cases e:(k:Int)=b
      . have e':((k:Int)==b)=true:=by simp[e]
        rw[show isB t k b=true by rw[isB,hup];simp[e]];refine sI func159 ntmps159 fun Hb Ht=>?_
        repeat first|simp[e']|refine sR ?_
        refine sT (sH ?_);simp
      . have e':((k:Int)==b)=false:=by simp[e]
        have hB:isB t k b=isB t (t.nd k).par b:=by
         rw[isB,hup,isB];simp only[ca,decide_eq_decide];constructor
         . rintro(h|h)
           . exact absurd h.symm e
           . exact h
         . exact .inr
        rw[hB];rw[iV hk] at ih ⊢;refine sI func159 ntmps159 fun Hb Ht=>?_
        repeat first|simp[e',hk]|refine sR ?_
        refine sD (ih _ _) ?_;repeat first|simp|refine sR ?_
        refine sT (sH ?_);simp
theorem aGK(t:Ty)(ht:t.Fit)(a b:Int):DC 157 [t.av,I a,I b] (I (pC t [a,b])):=by
 intro tok nt box nb;have qo:=ht.n;have h1:=kQ t ht ht.hM;have i1:=kF a 0 ((t.nodes.length:Int)-1);have i2:=kF b 0 ((t.nodes.length:Int)-1);have zj:∀n:Int,inZ n 0 ((t.nodes.length:Int)-1)=gF t n:=fun n=>by simp only[inZ,gF];congr 1;simp only[eq_iff_iff];omega
 rw[zj] at i1 i2;have qc:IntKind.i64.wrap ((t.nodes.length:Int)-1)=(t.nodes.length:Int)-1:=by rw[aM (by omega) (by omega)]
 obtain⟨N,hN⟩:∃N,pC t [a,b]=N:=⟨_,rfl⟩
 rw[hN];unfold pC at hN;simp only[bB,List.any_cons,List.any_nil,Bool.or_false] at hN;generalize tyE t=E at *;generalize tyN t=Z at *;refine sI func157 ntmps157 fun Hb Ht=>?_
 repeat first|simp|refine sR ?_
 refine sD (h1 _ _) ?_;repeat first|simp|refine sR ?_
 by_cases e1:E=0
 .rw[af e1] at hN;cases e2:gF t a
  .rw[e2] at i1 hN;rw[af (by simp)] at hN;apply sC;simp[e1];repeat first|simp[qc]|refine sR ?_
   refine sD (i1 _ _) ?_;repeat first|simp|refine sR ?_
   apply sC;repeat first|simp|refine sR ?_
   refine sT (sH ?_);simp[<-hN]
  .cases e3:gF t b
   .rw[e2] at i1;rw[e3] at i2;rw[e2,e3,af (by simp)] at hN;apply sC;simp[e1];repeat first|simp[qc]|refine sR ?_
    refine sD (i1 _ _) ?_;simp;repeat first|simp[qc]|refine sR ?_
    refine sD (i2 _ _) ?_;repeat first|simp|refine sR ?_
    apply sC;repeat first|simp|refine sR ?_
    refine sT (sH ?_);simp[<-hN]
   .rw[e2] at i1;rw[e3] at i2;rw[e2,e3,ac (by simp)] at hN;apply sC;simp[e1];repeat first|simp[qc]|refine sR ?_
    refine sD (i1 _ _) ?_;simp;repeat first|simp[qc]|refine sR ?_
    refine sD (i2 _ _) ?_;repeat first|simp|refine sR ?_
    apply sC;repeat first|simp|refine sR ?_
    refine sT (sH ?_);simp[<-hN]
 .rw[ac e1] at hN;have b1:(E != 0)=true:=by simp[e1]
  apply sC;simp[b1];repeat first|simp|refine sR ?_
  refine sT (sH ?_);simp[<-hN]
theorem aLa{t:Ty}{i:Nat}(h:gG t i=0):0<=(t.ed i).fr/\0<=(t.ed i).to:=by
 unfold gG at h;split at h
 .cases h
 .split at h
  .cases h
  .unfold edR at h;split at h
   .cases h
   .split at h
    .cases h
    .rename_i h1 h2;simp only[gF,bq] at h1 h2;omega
theorem aHE{t:Ty}(h:tyE t=0):∀j,j<t.edges.length->0<=(t.ed j).fr/\0<=(t.ed j).to:=by
 unfold tyE at h;split at h
 .cases h
 .split at h
  .cases h
  .split at h
   .cases h
   .split at h
    .rename_i h1;exact absurd h h1
    .exact fun j hj=>aLa (dX _ h j hj)
theorem aCP(t:Ty)(ht:t.Fit)(e a b:Int):DC 101 [t.av,I e,I a,I b] (B (pE t e a b)):=by
 intro tok nt box nb;have wz:=ht.e;have h1:=aGK t ht a b;have i1:=kF e 0 ((t.edges.length:Int)-1);have qc:IntKind.i64.wrap ((t.edges.length:Int)-1)=(t.edges.length:Int)-1:=by rw[aM (by omega) (by omega)]
 have jf:=@aBL t [a,b];obtain⟨N,hN⟩:∃N,pE t e a b=N:=⟨_,rfl⟩
 rw[hN];unfold pE at hN;generalize pC t [a,b]=E at *;refine sI func101 ntmps101 fun Hb Ht=>?_
 repeat first|simp|refine sR ?_
 refine sD (h1 _ _) ?_;simp;by_cases e1:E=0
 .obtain⟨t8,jf⟩:=jf e1;have ha:=jf a (by simp);have hb:=jf b (by simp);rw[af e1] at hN;by_cases e2:0<=e
  .rw[af e2] at hN;by_cases e3:e<t.edges.length
   .have ei:inZ e 0 ((t.edges.length:Int)-1)=true:=by simp only[inZ,au];omega
    rw[ei] at i1;rw[af e3] at hN;obtain⟨k,rfl⟩:=cm e2;have hk:k<t.edges.length:=by omega
    have lp:=aHE t8 k hk;rw[xG hk] at lp;rw[bz,xG hk] at hN;have c1:=nB t t.edges[k].fr lp.1 (kB t8) t.nodes.length a ha.2 ha.2;have c2:=nB t t.edges[k].to lp.2 (kB t8) t.nodes.length b hb.2 hb.2;repeat first|simp[e1,qc]|refine sR ?_
    refine sD (i1 _ _) ?_;repeat first|simp[hk]|refine sR ?_|apply sC
    refine sD (c1 _ _) ?_;simp;cases f1:isB t a t.edges[k].fr
    .rw[f1,ac (by simp)] at hN;repeat first|simp|refine sR ?_
     refine sT (sH ?_);simp[<-hN]
    .rw[f1,af rfl] at hN;repeat first|simp[hk]|refine sR ?_
     refine sD (c2 _ _) ?_;repeat first|simp|refine sR ?_
     refine sT (sH ?_);simp[<-hN]
   .have ei:inZ e 0 ((t.edges.length:Int)-1)=false:=by simp only[inZ,bq];omega
    rw[ei] at i1;rw[ac e3] at hN;repeat first|simp[e1,qc]|refine sR ?_
    refine sD (i1 _ _) ?_;repeat first|simp|refine sR ?_
    apply sC;repeat first|simp|refine sR ?_
    refine sT (sH ?_);simp[<-hN]
  .have ei:inZ e 0 ((t.edges.length:Int)-1)=false:=by simp only[inZ,bq];omega
   rw[ei] at i1;rw[ac e2] at hN;repeat first|simp[e1,qc]|refine sR ?_
   refine sD (i1 _ _) ?_;repeat first|simp|refine sR ?_
   apply sC;repeat first|simp|refine sR ?_
   refine sT (sH ?_);simp[<-hN]
 .rw[ac e1] at hN;have b1:(E != 0)=true:=by simp[e1]
  repeat first|simp[b1]|refine sR ?_|apply sC
  refine sT (sH ?_);simp[<-hN]
def eJ(t:Ty)(k:Int):Bool:=!bB (fun n=>n.par==k) t.nodes
def cJ{α:Type}(p:α->Bool)(l:List α):Bool:=l.all p
theorem gA{α:Type}{p:α->Bool}{l:List α}{i:Nat}(h:i<l.length)(hp:p l[i]=false):cJ p l=false:=by
 unfold cJ;rw[<-Bool.not_eq_true,aq];intro h2;have:=h2 _ (aa h)
 rw[hp] at this;cases this
theorem dA{α:Type}{p:α->Bool}{l:List α}{i:Nat}(h:i<l.length)(h1:cJ p (l.take i)=true)(hp:p l[i]=true):cJ p (l.take (i+1))=true:=by
 unfold cJ at *;rw[ah h,fw,h1];simp[hp]
def lvN(t:Ty)(n:Int):Bool:=if (t.nodes.length:Int)<=n then false else eJ t n
def lvE(t:Ty)(g:Gr)(e:E):Bool:=pE t e.ty (g.nodes.getD e.fr.toNat 0) (g.nodes.getD e.to.toNat 0)
def dF(t:Ty)(g:Gr):Bool:=if cJ (lvN t) g.nodes=true then cJ (lvE t g) g.edges else false
def aQF(t:Ty)(k:Int)(nb:Nat)(box:Bxs)(tok:Tks)(nt:Nat)(i:Nat):AS :=
 ⟨tl [(5,I i),(1,I k),(2,.ptr (nb+2) 0 0)],lb nb box [(2,[[.d (nts t.nodes),.d (ets t.edges)]])],tok,nt⟩
theorem aK3(t:Ty)(ht:t.nodes.length<=1000000)(k:Int):DC 130 [t.av,I k] (B (eJ t k)):=by
 intro tok nt box nb;obtain⟨N,hN⟩:∃N,eJ t k=N:=⟨_,rfl⟩
 rw[hN];have rh:cJ (fun n=>!(n.par==k)) t.nodes=N:=by rw[<-hN,cJ,eJ,bB,gb,Bool.not_not]
 clear hN;refine sI func130 ntmps130 fun Hb Ht=>?_
 repeat first|simp|refine sR ?_
 apply sN;refine sL (aQF t k nb box tok nt) (fun i=>i<=t.nodes.length/\cJ (fun n=>!(n.par==k)) (t.nodes.take i)=true) (fun i=>t.nodes.length-i) 0 ⟨ai _,by simp[cJ]⟩ wkA ?_;rintro i S' ⟨hi,ia⟩ hS;simp only[aQF] at hS;subst hS;have hw:=sW (i:=i) (by omega);repeat first|simp|refine sR ?_|apply sC
 refine⟨fun hlt=>?_,fun hge=>?_⟩
 .have ju:=fun h=>gA (p:=fun n:NT=>!(n.par==k)) hlt h
  have jt:=fun h=>dA (p:=fun n:NT=>!(n.par==k)) hlt ia h
  cases e1:t.nodes[i].par==k
  .repeat first|simp[hlt,e1]|refine sR ?_
   apply sC;simp[e1];repeat first|simp[hw]|refine sR ?_
   apply sE;exact⟨i+1,⟨hlt,jt (by simp only[e1];rfl)⟩,by omega,wkA⟩
  .rw[ju (by simp only[e1];rfl)] at rh;repeat first|simp[hlt,e1]|refine sR ?_
   apply sC;simp[e1];repeat first|simp|refine sR ?_
   refine sT (sH ?_);simp[<-rh]
 .apply sX;simp only[AU,↓reduceIte];have:i=t.nodes.length:=by omega
  subst this;rw[bh] at ia;rw[ia] at rh;repeat first|simp|refine sR ?_
  refine sT (sH ?_);simp[<-rh]
def aP2(t:Ty)(g:Gr)(nb:Nat)(box:Bxs)(tok:Tks)(nt:Nat)(i:Nat):AS :=
 ⟨tl [(5,I i),(3,.ptr (nb+3) 0 0),(2,.ptr (nb+2) 0 0)],lb nb box [(3,[[.d (ints g.nodes),.d (AM.edges g.edges)]]),(2,[[.d (nts t.nodes),.d (ets t.edges)]])],tok,nt⟩
def aO6(t:Ty)(g:Gr)(nb:Nat)(box:Bxs)(tok:Tks)(nt:Nat)(i:Nat):AS :=
 ⟨tl [(6,I i),(3,.ptr (nb+3) 0 0),(2,.ptr (nb+2) 0 0)],lb nb box [(3,[[.d (ints g.nodes),.d (AM.edges g.edges)]]),(2,[[.d (nts t.nodes),.d (ets t.edges)]])],tok,nt⟩
theorem aAy(t:Ty)(ht:t.Fit)(g:Gr)(hg:g.Fit)(hv:∀e∈g.edges,0<=e.fr/\e.fr<g.nodes.length/\0<=e.to/\e.to<g.nodes.length):DC 78 [t.av,g.av] (B (dF t g)):=by
 intro tok nt box nb;have rc:=hg.n;have hge:=hg.e;have qo:=ht.n;obtain⟨N,hN⟩:∃N,dF t g=N:=⟨_,rfl⟩
 rw[hN];unfold dF at hN;refine sI func78 ntmps78 fun Hb Ht=>?_
 repeat first|simp|refine sR ?_
 apply sN;refine sL (aP2 t g nb box tok nt) (fun i=>i<=g.nodes.length/\cJ (lvN t) (g.nodes.take i)=true) (fun i=>g.nodes.length-i) 0 ⟨ai _,by simp[cJ]⟩ wkA ?_;rintro i S' ⟨hi,ia⟩ hS;simp only[aP2] at hS;subst hS;have hw:=sW (i:=i) (by omega);repeat first|simp|refine sR ?_|apply sC
 refine⟨fun hlt=>?_,fun hge=>?_⟩
 .have ju:=fun h=>gA (p:=lvN t) hlt h
  have jt:=fun h=>dA (p:=lvN t) hlt ia h
  have hl:lvN t g.nodes[i]=if (t.nodes.length:Int)<=g.nodes[i] then false else eJ t g.nodes[i]:=rfl
  have hc:=aK3 t (by omega) g.nodes[i];by_cases e1:(t.nodes.length:Int)<=g.nodes[i]
  .rw[af e1] at hl;rw[ju hl,ac (by simp)] at hN;repeat first|simp[hlt,e1]|refine sR ?_
   apply sC;simp[e1];repeat first|simp|refine sR ?_
   refine sT (sH ?_);simp[<-hN]
  .rw[ac e1] at hl;repeat first|simp[hlt,e1]|refine sR ?_
   refine sD (hc _ _) ?_;simp;cases e2:eJ t g.nodes[i]
   .rw[e2] at hl;rw[ju hl,ac (by simp)] at hN;repeat first|simp|refine sR ?_
    apply sC;repeat first|simp|refine sR ?_
    refine sT (sH ?_);simp[<-hN]
   .rw[e2] at hl;repeat first|simp[hw]|refine sR ?_|apply sC
    apply sE;exact⟨i+1,⟨hlt,jt hl⟩,by omega,wkA⟩
 .apply sX;simp only[AU,↓reduceIte];have:i=g.nodes.length:=by omega
  subst this;rw[bh] at ia;rw[af ia] at hN;repeat first|simp|refine sR ?_
  apply sN;refine sL (aO6 t g nb box tok nt) (fun i=>i<=g.edges.length/\cJ (lvE t g) (g.edges.take i)=true) (fun i=>g.edges.length-i) 0 ⟨ai _,by simp[cJ]⟩ wkA ?_;rintro i S' ⟨hi,ia⟩ hS;simp only[aO6] at hS;subst hS;have hw:=sW (i:=i) (by omega);repeat first|simp|refine sR ?_|apply sC
  refine⟨fun hlt=>?_,fun hge=>?_⟩
  .have ju:=fun h=>gA (p:=lvE t g) hlt h
   have jt:=fun h=>dA (p:=lvE t g) hlt ia h
   have AQ:=hv _ (aa hlt);obtain⟨a,AR⟩:=cm AQ.1;obtain⟨b,AW⟩:=cm AQ.2.2.1;have ha:a<g.nodes.length:=by omega
   have hb:b<g.nodes.length:=by omega
   have hc:=aCP t ht g.edges[i].ty g.nodes[a] g.nodes[b];have hL:lvE t g g.edges[i]=pE t g.edges[i].ty g.nodes[a] g.nodes[b]:=by simp[lvE,AR,AW,ha,hb]
   rw[hL] at ju jt;repeat first|simp[hlt,AR,AW,ha,hb]|refine sR ?_
   refine sD (hc _ _) ?_;simp;cases e1:pE t g.edges[i].ty g.nodes[a] g.nodes[b]
   .rw[ju e1] at hN;repeat first|simp|refine sR ?_
    apply sC;repeat first|simp|refine sR ?_
    refine sT (sH ?_);simp[<-hN]
   .repeat first|simp[hw]|refine sR ?_|apply sC
    apply sE;exact⟨i+1,⟨hlt,jt e1⟩,by omega,wkA⟩
  .apply sX;simp only[AU,↓reduceIte];have:i=g.edges.length:=by omega
   subst this;rw[bh] at ia;rw[ia] at hN;repeat first|simp|refine sR ?_
   refine sT (sH ?_);simp[<-hN]
theorem wF{r:Ru}(h:cQ r=0):vG r.lg=0/\vG r.rg=0:=(gQ h).2
variable {P:Program}
theorem getD_some{l:Array Bool}{i:Nat}{d v:Bool}(h:l[i]?=some v):l.getD i d=v:=by simp[Array.getD_eq_getD_getElem?,h]
structure Ac3 where
 own:Own
 tok:Nat->Bool
 nt:Nat
def Ac3.add(x:Ac3)(b:Bool):Ac3:=if b=true then ⟨.tok (x.nt+2),upd (x.own.kill (upd (upd (upd x.tok x.nt true) x.nt false) (x.nt+1) true)) (x.nt+2) true,x.nt+3⟩ else x
structure Ac3.Ok (x:Ac3) (tok:Tks) (nt:Nat):Prop where
 adv:Adv tok nt .full x.tok x.nt x.own
 lt:∀t,tok t=true->t<nt
theorem Ac3.Ok.add{x:Ac3}{tok:Nat->Bool}{nt:Nat}(h:x.Ok tok nt)(b:Bool):(x.add b).Ok tok nt:=by
 unfold Ac3.add;split
 .have ko:=Adv.fresh h.adv.live h.adv.lt;exact⟨h.adv.trans h.lt (ko.trans h.adv.lt (Adv.app ko.live ko.lt)),h.lt⟩
 .exact h
theorem Ac3.Ok.tk{x:Ac3}{tok:Nat->Bool}{nt:Nat}(h:x.Ok tok nt):TK tok nt x.tok x.nt [x.own] :=
 ⟨fun t ht=>h.adv.keep t ht (by simp),h.lt,h.adv.le,fun o ho t e=>by
  rw[a7] at ho;subst ho;have hl:=h.adv.live;rw[e] at hl;refine⟨hl,?_,h.adv.lt t hl⟩;rcases h.adv.new with e2|⟨s,e2,hs⟩
  .rw[e] at e2;cases e2
  .rw[e] at e2;cases e2;exact hs,List.pairwise_singleton _ _⟩
abbrev Gr.cells(g:Gr):List D:=[ints g.nodes,AM.edges g.edges]
theorem Ac3.Ok.start{tok:Nat->Bool}{nt:Nat}(h:∀t,tok t=true->t<nt):(Ac3.mk .full tok nt).Ok tok nt:=⟨Adv.refl trivial h,h⟩
theorem TK.adv{mtok:Nat->Bool}{nt0:Nat}{tok tok':Nat->Bool}{nt nt':Nat}{os:List Own}{own':Own}(h:TK mtok nt0 tok nt os)(ha:Adv tok nt .full tok' nt' own'):TK mtok nt0 tok' nt' (own'::os):=by
 have lx:∀s,own'=.tok s->nt<=s/\tok' s=true:=fun s e=>by
  have hl:=ha.live;rw[e] at hl;rcases ha.new with e2|⟨s2,e2,hs⟩
  .rw[e] at e2;cases e2
  .rw[e] at e2;cases e2;exact⟨hs,hl⟩
 refine⟨fun t ht=>ha.keep t (h.old t ht) (by simp),h.lt,cb h.le ha.le,fun o ho t e=>?_,?_⟩
 .rcases ca.1 ho with rfl|ho
  .obtain⟨h1,h2⟩:=lx t e;exact⟨h2,cb h.le h1,ha.lt t h2⟩
  .obtain⟨h1,h2,h3⟩:=h.own o ho t e;exact⟨ha.keep t h1 (by simp),h2,ct h3 ha.le⟩
 .refine du.2 ⟨fun b hb t e e2=>?_,h.ne⟩;obtain⟨h1,h2⟩:=lx t e;obtain⟨_,_,h3⟩:=h.own b hb t e2;omega
def Ac3.ed(x:Ac3)(s:Nat):Ac3:=⟨.tok (x.nt+1),upd (x.own.kill (upd (upd x.tok s false) x.nt true)) (x.nt+1) true,x.nt+2⟩
def Ac3.nd(x:Ac3)(s:Nat):Ac3:=⟨x.own,upd (upd x.tok s false) x.nt true,x.nt+1⟩
def zr(n:Nat):Gr:=⟨List.replicate n 0,[]⟩
def dec(n:Int):Int:=IntKind.i64.wrap (n-1)
def RS(n:Int)(s t:St2):Prop:=(s.2=0/\t.2=0/\s.1+t.1=2000/\0<=s.1/\s.1<=n)∨(s.2=3/\t.2=3)
theorem RS.zero{n:Int}{s t:St2}(h:RS n s t)(h0:s.2=0):t.2=0:=by
 rcases h with h|h
 .exact h.2.1
 .rw[h.1] at h0;cases h0
theorem sS{m:Mo}(h:uX m 140=true):m.Fit:=by
 simp[uX] at h;exact⟨by omega,by omega⟩
theorem aCz{r:Ru}(hb:r.Big)(h:aBo r=true):r.Fit:=by
 simp only[aBo,bd] at h;exact⟨sJ h.1.1.1,sJ h.1.1.2,sS h.1.2,sS h.2,hb.ls,hb.lt,hb.rs,hb.rt⟩
open Go Go.ChangeShapes
open Go.Proofs.Tryz
variable {P:Program}
def Rd(w:World)(cs:List Value)(ds:List D):Prop:=cs.length=ds.length/\∀i (h1:i<cs.length) (h2:i<ds.length),RVd w.cell? (fun _=>True) ds[i] cs[i]
theorem Rd.append{w:World}{cs cs':List Value}{ds ds':List D}(h:Rd w cs ds)(k:Rd w cs' ds'):Rd w (cs++cs') (ds++ds'):=by
 refine⟨by simp[h.1,k.1],fun i h1 h2=>?_⟩;by_cases hi:i<cs.length
 .rw[b6 hi,b6 (by rw[<-h.1];exact hi)];exact h.2 i hi _
 .have hl:=h.1;rw[ch (by omega),ch (by omega)];have:=k.2 (i-cs.length) (by simp at h1;omega) (by have:=k.1;simp at h1;omega)
  simpa[hl] using this
theorem Rd.one{w:World}{c:Value}{d:D}(h:RVd w.cell? (fun _=>True) d c):Rd w [c] [d]:=⟨rfl,fun i h1 h2=>by
 have:i=0:=by simpa using h1
 subst this;exact h⟩
def gJ{H:Type}(P:Program)(T:TypeId)(d:DataW H):Prop:=(d.weights P T).all (· <= reachBytes)=true
structure Rdr (P:Program) (T:TypeId) (α:Type) where
 enc:α->List D
 ok:α->Prop
 len:∀x,(enc x).length=P.cellsOf T
 sound:∀{H:Type} (e:TypeId × Value->H) (w:World) (base:Nat) (spare:Nat->Bool) (i7:Bool) (fuel:Nat) (cs:List Value) (x:DataW H × List MemPlace),
  DataW.trod e P w base spare i7 fuel T cs=some x->∃y,Rd w cs (enc y)/\(gJ P T x.1->ok y)
def Rdr.int{T:TypeId}{k:IntKind}(h:P.underlying T=some (.int k))(hc:P.cellsOf T=1):Rdr P T Int where
 enc n:=[.raw (.int k n)]
 ok n:=(Lit.int k n).wf=true
 len _:=by simp[hc]
 sound e w base spare i7 fuel cs x hx:=by
  cases fuel with
  | zero=>simp[DataW.trod] at hx
  | succ n =>
   unfold DataW.trod at hx;rw[h] at hx;split at hx<;>simp_all
   rename_i k' n' _;exact⟨n',Rd.one (.raw rfl),fun _=>hx.1.2⟩
theorem xB{w:World}{base:Nat}{a:Addr}{n:Nat}{l:List Value}(h:w.cells? base a n=some l):l.length=n/\∀i (hi:i<l.length),w.cell? (a.add i)=some l[i]:=by
 unfold World.cells? at h;split at h
 .have h1:l.length=n:=by have:=mapM_some_length h;simpa using this
  refine⟨h1,fun i hi=>?_⟩;have jf:i<n:=by omega
  have:=mapM_some_get h i i (by simp[jf])
  rw[this];exact ab hi
 .cases h
theorem uN{H:Type}{T E:TypeId}(h:P.underlying T=some (.slice E)){elems rest:List (DataW H)}(hl:gJ P T (.slice elems rest)):elems.length*P.bytesOf E<=reachBytes/\∀d∈elems,gJ P E d:=by
 unfold gJ at hl ⊢;simp only[DataW.weights,h,List.all_cons,fw,bd,au] at hl;refine⟨cb (bm _ (Nat.le_add_right _ _)) hl.1,?_⟩;have key:∀l:List (DataW H),(DataW.weightsAll P E l).all (· <= reachBytes)=true->∀d∈l,(d.weights P E).all (· <= reachBytes)=true:=by
  intro l;induction l with
  | nil=>intro _ d hd;simp at hd
  | cons x l ih =>
   intro hx d hd;simp only[DataW.weightsAll,fw,bd] at hx;rcases ca.1 hd with rfl|hd
   .exact hx.1
   .exact ih hx.2 d hd
 exact key elems hl.2.1
def Rdr.slice{T E:TypeId}{α:Type}(r:Rdr P E α)(h:P.underlying T=some (.slice E))(hc:P.cellsOf T=1):Rdr P T (List α) where
 enc l:=[.sl (P.cellsOf E) (l.map r.enc)]
 ok l:=(∀x∈l,r.ok x)/\l.length*P.bytesOf E<=reachBytes
 len _:=by simp[hc]
 sound e w base spare i7 fuel cs x hx:=by
  rcases DataW.trod_slice h hx with ⟨rfl,rfl⟩|⟨a,len,cap,elems,rest,n,rfl,rfl,rfl,hb,hl,hm,z8,j6,_⟩
  .exact⟨[],Rd.one (.sl (es:=[]) (fun _ _=>default) (nr0 _) (by decide) (by simp) (by simp) (by simp) (by simp)),fun _=>⟨by simp,by simp⟩⟩
  .have key:∀i (hi:i<elems.length),∃cs y,cs.length=P.cellsOf E/\(∀j (hj:j<cs.length),w.cell? (a.add (i*P.cellsOf E+j))=some cs[j])/\Rd w cs (r.enc y)/\(gJ P E elems[i].1->r.ok y):=by
    intro i hi;have h1:=j6 i (by omega);have h2:elems[i]?=some elems[i]:=ab hi
    rw[h2,dv] at h1;obtain⟨cs,m9,Cv⟩:=h1;obtain⟨nm,hcc⟩:=xB m9;obtain⟨y,hy,ia⟩:=r.sound e w base spare i7 n cs _ Cv;refine⟨cs,y,nm,fun j hj=>?_,hy,ia⟩;rw[<-Addr.add_add];exact hcc j hj
   have pick:∀m,m<=elems.length->∃ys:List α,ys.length=m/\(∀i (hi:i<ys.length) (uf:i<elems.length),∃cs,cs.length=P.cellsOf E/\(∀j (hj:j<cs.length),w.cell? (a.add (i*P.cellsOf E+j))=some cs[j])/\Rd w cs (r.enc ys[i])/\(gJ P E elems[i].1->r.ok ys[i])):=by
    intro m;induction m with
    | zero=>intro _;exact⟨[],rfl,fun i hi=>by simp at hi⟩
    | succ m ih =>
     intro mb;obtain⟨ys,xc,ik⟩:=ih (by omega);obtain⟨cs,y,g1,g2,g3,g4⟩:=key m (by omega);refine⟨ys++[y],by simp[xc],fun i hi uf=>?_⟩;by_cases xt:i<ys.length
     .rw[b6 xt];exact ik i xt uf
     .have:i=m:=by simp at hi;omega
      subst this;have e1:(ys++[y])[i]=y:=by
       rw[ch (by omega)];simp
      rw[e1];exact⟨cs,g1,g2,g3,g4⟩
   obtain⟨ys,xc,ik⟩:=pick elems.length (nr0 _);refine⟨ys,Rd.one ?_,fun iw=>?_⟩
   .have hlen:len=ys.length:=by omega
    subst hlen;have pz:ys.length=(ys.map r.enc).length:=by simp
    rw[pz];refine .sl (fun i j=>(w.cell? (a.add (i*P.cellsOf E+j))).getD default) (by simpa using hl) hm (fun e he=>?_) (fun _=>⟨a,rfl⟩) (fun a' xi i j hi hj=>?_) (fun i j hi hj=>?_)
    .obtain⟨y,_,rfl⟩:=bc.1 he;exact r.len y
    .cases xi
     obtain⟨cs,g1,g2,_⟩:=ik i (by simpa using hi) (by simp at hi;omega);rw[g2 j (by omega)];exact⟨trivial,rfl⟩
    .obtain⟨cs,g1,g2,g3,_⟩:=ik i (by simpa using hi) (by simp at hi;omega);simp only[bl] at hj ⊢;have AX:j<cs.length:=by rw[g3.1];exact hj
     rw[g2 j AX];exact g3.2 j AX hj
   .obtain⟨w1,w2⟩:=uN h iw;refine⟨fun y hy=>?_,by simpa[xc] using w1⟩;obtain⟨i,hi,rfl⟩:=bf hy;obtain⟨_,_,_,_,h4⟩:=ik i hi (by omega);exact h4 (w2 _ (bc.2 ⟨_,aa _,rfl⟩))
def Rdr.map{T:TypeId}{α β:Type}(r:Rdr P T α)(f:α->β)(enc:β->List D)(ok:β->Prop)(he:∀x,enc (f x)=r.enc x)(ia:∀x,r.ok x->ok (f x))(hl:∀y,(enc y).length=P.cellsOf T):Rdr P T β where
 enc:=enc
 ok:=ok
 len:=hl
 sound e w base spare i7 fuel cs x hx:=by
  obtain⟨y,h1,h2⟩:=r.sound e w base spare i7 fuel cs x hx;exact⟨f y,by rw[he];exact h1,fun hl=>ia y (h2 hl)⟩
def Rdr.sliceN{T E:TypeId}{α:Type}(r:Rdr P E α)(n:Nat)(h:P.underlying T=some (.slice E))(hc:P.cellsOf T=1)(hn:P.cellsOf E=n):Rdr P T (List α) where
 enc l:=[.sl n (l.map r.enc)]
 ok l:=(∀x∈l,r.ok x)/\l.length*P.bytesOf E<=reachBytes
 len _:=by simp[hc]
 sound:=by
  subst hn;exact(Rdr.slice r h hc).sound
theorem aOu{α:Type}{l:List α}(h:l.length=2):l=[l[0]'(by omega),l[1]'(by omega)]:=by
 match l,h with
 | [p,q],_=>rfl
theorem aPJ{α:Type}{l:List α}(h:l.length=3):l=[l[0]'(by omega),l[1]'(by omega),l[2]'(by omega)]:=by
 match l,h with
 | [p,q,r],_=>rfl
def Rdr.struct2{T A B:TypeId}{α β:Type}(r:Rdr P A α)(s:Rdr P B β){f0 f1:Field}(h:P.underlying T=some (.struct #[f0,f1]))(hA:f0.type=A)(hB:f1.type=B)(h0:f0.offset=0)(h1:f1.offset=P.cellsOf A)(hc:P.cellsOf T=P.cellsOf A+P.cellsOf B):Rdr P T (α × β) where
 enc x:=r.enc x.1++s.enc x.2
 ok x:=r.ok x.1/\s.ok x.2
 len x:=by simp[r.len,s.len,hc]
 sound e w base spare i7 fuel cs x hx:=by
  obtain⟨xs,n,rfl,rfl,hl,tr,j6⟩:=DataW.trod_struct h hx;have ss:xs.length=2:=tr
  have g0:=j6 0 f0 rfl;have g1:=j6 1 f1 rfl;have e0:xs[0]?=some (xs[0]'(by omega)):=ab (by omega)
  have e1:xs[1]?=some (xs[1]'(by omega)):=ab (by omega)
  rw[e0,h0,hA] at g0;rw[e1,h1,hB] at g1;obtain⟨y,k1,k2⟩:=r.sound e w base spare i7 n _ _ g0;obtain⟨z,m1,m2⟩:=s.sound e w base spare i7 n _ _ g1;refine⟨(y,z),?_,fun iw=>?_⟩
  rotate_left
  .unfold gJ at iw k2 m2;have e2:xs=[xs[0]'(by omega),xs[1]'(by omega)]:=aOu ss
   rw[e2] at iw;simp only[di,d6,DataW.weights,h,DataW.weightsEach,hA,hB,fw,bd] at iw;exact⟨k2 iw.1,m2 iw.2.1⟩
  have m9:cs=(cs.drop 0).take (P.cellsOf A)++(cs.drop (P.cellsOf A)).take (P.cellsOf B):=by
   have:(cs.drop (P.cellsOf A)).take (P.cellsOf B)=cs.drop (P.cellsOf A):=ak (by simp;omega)
   rw[this,List.drop_zero,cg]
  rw[m9];exact k1.append m1
def Rdr.struct3{T A B C:TypeId}{α β γ:Type}(r:Rdr P A α)(s:Rdr P B β)(t:Rdr P C γ){f0 f1 f2:Field}(h:P.underlying T=some (.struct #[f0,f1,f2]))(hA:f0.type=A)(hB:f1.type=B)(hC:f2.type=C)(h0:f0.offset=0)(h1:f1.offset=P.cellsOf A)(h2:f2.offset=P.cellsOf A+P.cellsOf B)(hc:P.cellsOf T=P.cellsOf A+P.cellsOf B+P.cellsOf C):Rdr P T (α × β × γ) where
 enc x:=r.enc x.1++(s.enc x.2.1++t.enc x.2.2)
 ok x:=r.ok x.1/\s.ok x.2.1/\t.ok x.2.2
 len x:=by simp[r.len,s.len,t.len,hc];omega
 sound e w base spare i7 fuel cs x hx:=by
  obtain⟨xs,n,rfl,rfl,hl,tr,j6⟩:=DataW.trod_struct h hx;have ss:xs.length=3:=tr
  have g0:=j6 0 f0 rfl;have g1:=j6 1 f1 rfl;have g2:=j6 2 f2 rfl;have e0:xs[0]?=some (xs[0]'(by omega)):=ab (by omega)
  have e1:xs[1]?=some (xs[1]'(by omega)):=ab (by omega)
  have e2:xs[2]?=some (xs[2]'(by omega)):=ab (by omega)
  rw[e0,h0,hA] at g0;rw[e1,h1,hB] at g1;rw[e2,h2,hC] at g2;obtain⟨y,k1,k2⟩:=r.sound e w base spare i7 n _ _ g0;obtain⟨z,m1,m2⟩:=s.sound e w base spare i7 n _ _ g1;obtain⟨q,p1,p2⟩:=t.sound e w base spare i7 n _ _ g2;refine⟨(y,z,q),?_,fun iw=>?_⟩
  rotate_left
  .unfold gJ at iw k2 m2 p2;have e2:xs=[xs[0]'(by omega),xs[1]'(by omega),xs[2]'(by omega)]:=aPJ ss
   rw[e2] at iw;simp only[di,d6,DataW.weights,h,DataW.weightsEach,hA,hB,hC,fw,bd] at iw;exact⟨k2 iw.1,m2 iw.2.1,p2 iw.2.2.1⟩
  have m9:cs=(cs.drop 0).take (P.cellsOf A)++((cs.drop (P.cellsOf A)).take (P.cellsOf B)++(cs.drop (P.cellsOf A+P.cellsOf B)).take (P.cellsOf C)):=by
   have:(cs.drop (P.cellsOf A+P.cellsOf B)).take (P.cellsOf C)=cs.drop (P.cellsOf A+P.cellsOf B):=ak (by simp;omega)
   rw[this,<-List.drop_drop,cg,List.drop_zero,cg]
  rw[m9];exact k1.append (m1.append p1)
def G0:Gh:=⟨fun _=>none,fun _=>none,fun _=>.whole,0⟩
def m0:bH:=⟨fun _=>none,0,fun _=>false,0⟩
theorem aQE(a:Addr):G0.ps a:=trivial
theorem aEm(W:World)(hg:nV G0 W:=by intro g cs h;simp[aFE] at h):aV G0 m0 W:=by
 constructor
 case glob=>exact hg
 case box=>intro k rows b sz h;cases h
 case nobox=>intro k _;rfl
 case inj=>intro k k' b sz sz' h;cases h
 case nb=>intro k _;rfl
 case nt=>rfl
 case toks=>intro t h;cases h
 case tokb=>intro t g h;cases h
 case tinj=>intro t t' g h;cases h
 case tnt=>intro t x h;cases h
 case fresh=>intro b _;rfl
theorem RVd.start{W:World}{d:D}{v:Value}(h:RVd W.cell? (fun _=>True) d v):RVd W.cell? G0.ps d v:=h.mono fun a u _ hc=>⟨aQE a,hc⟩
theorem Rdr.agg{T:TypeId}{α:Type}(r:Rdr P T α){W:World}{base base':Nat}{sp:Nat->Bool}{i7:Bool}{H:Type}{enc:TypeId × Value->H}{v:Value}{d:DataW H}{p:List MemPlace}(hs:aX P T=some true)(hv:Value.okWide P W .any base T v)(h:DataW.Trod enc P W base' sp i7 T v d p)(iw:gJ P T d):∃y,r.ok y/\RV G0 W (.agg ((r.enc y).map .d)) v:=by
 have m9:∃cs,v=.agg cs:=by
  unfold aX at hs;unfold Value.okWide at hv;cases hu:P.underlying T with
  | none=>rw[hu] at hs;simp at hs
  | some u =>
   rw[hu] at hs hv;cases u<;>simp at hs hv<;>exact⟨_,hv.choose_spec.1⟩
 obtain⟨cs,rfl⟩:=m9;obtain⟨fuel,h⟩:=h;obtain⟨y,⟨h1,h2⟩,ia⟩:=r.sound enc W base' sp i7 fuel _ _ h;refine⟨y,ia iw,?_⟩;simp only[Value.cells] at h1 h2;have:=RV.agg (G:=G0) (w:=W) (cs:=(r.enc y).map .d) (vs:=cs.toList) (by simp[h1]) (fun i g1 g2=>by
  simp only[bl];exact .d (h2 i g2 (by simpa using g1)).start) (fun v hv=>by
  obtain⟨i,hi,rfl⟩:=bf hv;exact(h2 i hi (by omega)).one)
 simpa using this
theorem Rdr.cell{T:TypeId}{α:Type}(r:Rdr P T α){W:World}{base base':Nat}{sp:Nat->Bool}{i7:Bool}{H:Type}{enc:TypeId × Value->H}{v:Value}{d:DataW H}{p:List MemPlace}(f:α->D)(hs:aX P T=some false)(hf:∀y,r.enc y=[f y])(hv:Value.okWide P W .any base T v)(h:DataW.Trod enc P W base' sp i7 T v d p)(iw:gJ P T d):∃y,r.ok y/\RV G0 W (.d (f y)) v:=by
 obtain⟨fuel,h⟩:=h;obtain⟨y,⟨h1,h2⟩,ia⟩:=r.sound enc W base' sp i7 fuel _ _ h;refine⟨y,ia iw,?_⟩;rw[hf] at h1;have m9:v.cells.toList=[v]:=by
  cases v with
  | agg cs =>
   exfalso
   unfold aX at hs;unfold Value.okWide Cell.okWide Cell.ok at hv;cases hu:P.underlying T with
   | none=>rw[hu] at hs;simp at hs
   | some u =>
    rw[hu] at hs hv;cases u<;>simp_all
  | _=>rfl
 have:=h2 0 (by rw[h1];simp) (by rw[hf];simp)
 simp only[hf,ck] at this;have e:v.cells.toList[0]'(by rw[h1];simp)=v:=by simp[m9]
 rw[e] at this;exact .d this.start
theorem light_arg{H:Type}{ts:List TypeId}{ds:List (DataW H)}(hz:(DataW.weightsEach P ts ds).all (· <= reachBytes)=true){j:Nat}{T:TypeId}{d:DataW H}(ht:ts[j]?=some T)(hd:ds[j]?=some d):gJ P T d :=
 aq.2 fun x hx=>aq.1 hz x (DataW.weights_mem_each ht hd x hx)
theorem aKl{ps:Array TypeId}{args:Array Value}{W:World}{base base':Nat}{sp:Nat->Bool}{i7:Bool}{H:Type}{enc:TypeId × Value->H}(hval:∀(j:Nat) t v,ps[j]?=some t->args[j]?=some v->Value.okWide P W .any base t v)(j:Nat)(T:TypeId)(v:Value)(hp:ps[j]?=some T)(ha:args[j]?=some v){α:Type}(r:Rdr P T α){d:DataW H}{p:List MemPlace}(hs:aX P T=some true)(h:DataW.Trod enc P W base' sp i7 T v d p)(iw:gJ P T d):
  ∃y,r.ok y/\RV G0 W (.agg ((r.enc y).map .d)) v:=r.agg hs (hval j T v hp ha) h iw
theorem aEu{W W':World}{G':Gh}(h:Le G0 W G' W')(b:Nat)(hb:b<W.heap.size):W'.heap[b]?=W.heap[b]?:=(h.whole b hb rfl).2
theorem aLh{W W':World}{G':Gh}(h:Le G0 W G' W')(may:MemPlace->Prop):W.keptBut W' may:=by
 refine⟨h.os,h.output,fun i hi=>?_⟩;rw[aEu h i hi];split
 .rename_i c t fr c' t' fr' e1 e2;rw[e1] at e2;cases e2;exact⟨rfl,rfl,rfl,fun _ _=>rfl⟩
 .rename_i e1 e2;rw[e1] at e2;cases e2;exact .inr ⟨rfl,rfl⟩
 .rfl
theorem aKv{W W':World}{G':Gh}(h:Le G0 W G' W'){p:MemPlace}(hp:p.block<W.heap.size):W.sameAt W' p:=by
 cases p with
 | cell b off=>exact World.cell?_of_block (w:=W) (a:=⟨b,off,none⟩) (aEu h b hp)
 | map b=>exact aEu h b hp
theorem pK{H:Type}{enc:TypeId × Value->H}{W W':World}{T:TypeId->Prop}{sp':Nat->Bool}(K:Kids P T)(hsz:∀{t e:TypeId},T t->P.underlying t=some (.slice e)->0<P.cellsOf e):
  ∀{ts:List TypeId} {vs:List Value} {ds:List (DataW H)} {ps:List MemPlace},(∀t∈ts,T t)->DataW.TrodAll enc P W 0 (fun _=>true) true ts vs ds ps->(∀p∈ps,W.sameAt W' p)->(∀p∈ps,sp' p.block=true) ->
  DataW.TrodAll enc P W' 0 sp' true ts vs ds ps
 | [],[],[],_,_,h,_,_=>h
 | t::ts,v::vs,d::ds,_,hT,⟨p,q,⟨n,hn⟩,h2,e⟩,h3,h4=>by
  subst e;exact⟨p,q,⟨n,DataW.trod_stays K hsz (fun h=>by cases h) (hT t (by simp)) hn (fun x hx=>h3 x (by simp[hx])) (fun x hx=>h4 x (by simp[hx]))⟩,
   pK K hsz (fun t ht=>hT t (by simp[ht])) h2 (fun x hx=>h3 x (by simp[hx])) (fun x hx=>h4 x (by simp[hx])),rfl⟩
theorem law_of{f:FuncId}{fn:Func}{s:ChangeSpec}{H:Type}{enc:TypeId × Value->H}{W:World}{args:Array Value}{ds:List (DataW H)}{before:List MemPlace}{avs:List AV}{tok':Nat->Bool}{nt':Nat}(hl:laidOutB P=true)(hm:mapsRowed P=true)(hz:((List.range P.types.size).all fun t=>match P.underlying t with|some (.slice e)=>decide (0<P.cellsOf e)|_=>true)=true)(vg:fn.params.all (· < P.types.size)=true){tb:TypeId}(hres:fn.resultTypes = #[tb])(hb:P.underlying tb=some .bool)(ya:s.vars=[])(ue:s.fn H ds={ results:=[.lit (.bool true)],args:=ds })(hW:DataW.Whole enc P fn.params.toList s.vars false W args.toList ds [] before)(hr:RVs G0 W avs args.toList)(hc:cZ P f avs (fun _=>false) 0 (B true) tok' nt')(hgl:nV G0 W:=by intro g cs h;simp[aFE] at h):
  Calls P f args W fun e W'=>∃v,e=.returned v/\s.post enc P fn false true false false W args v W':=by
 have yb:=(hc (fun _=>none) 0).2 G0 W args.toList (aEm W hgl) hr;simp only[Array.toArray_toList] at yb;refine yb.mono ?_;rintro e W' ⟨v,av,m',G',rfl,⟨rfl,rfl⟩,_,_,hv,iv,_⟩;cases hv with
 | d hv =>
  cases hv with
  | raw =>
   refine⟨_,rfl,?_⟩;have hlt:=hW.lt;have Dd:=hW;obtain⟨p,q,hA,hV,rfl,hfz,hnd⟩:=hW;rw[ya] at hV;obtain⟨_,rfl⟩:=trodVars_none hV;simp only[c6] at hlt hfz Dd ⊢;have hT:∀t∈fn.params.toList,t<P.types.size:=fun t ht=>by
    have:=Array.all_eq_true_iff_forall_mem.1 vg t (by simpa using ht)
    simpa using this
   have hsz:∀{t e:TypeId},t<P.types.size->P.underlying t=some (.slice e)->0<P.cellsOf e:=by
    intro t e ht hu;have:=aq.1 hz t (ay.2 ht)
    rw[hu] at this;simpa using this
   have hargs:∀sp:Nat->Bool,(∀x∈p,sp x.block=true)->DataW.TrodAll enc P W' 0 sp true fn.params.toList args.toList ds p:=fun sp qf =>
    pK (kids_rows hl hm) hsz hT hA (fun x hx=>aKv iv (hlt x hx)) qf
   have Cw:(Value.bool true).resultList fn.resultTypes.size=[.bool true]:=by rw[hres];rfl
   have AY:∀(b:Nat) (sp:Nat->Bool) (hd:Bool),DataW.TrodAll enc P W' b sp hd fn.resultTypes.toList ((Value.bool true).resultList fn.resultTypes.size) [.lit (.bool true)] []:=fun b sp hd=>by
    rw[Cw,hres];exact trodAll_mk1 ⟨1,by simp[DataW.trod,hb,Value.cells]⟩
   have zk:s.fn H (ds++[])={ results:=[.lit (.bool true)],args:=ds }:=by rw[c6];exact ue
   refine⟨ds,[],p,[],p,[],Dd,?_,?_,?_,World.keptBut_mono (fun _ f=>f.elim) (aLh iv fun _=>False),fun h=>by cases h⟩
   .rw[zk];exact AY _ _ _
   .rw[zk];exact hargs _ fun x hx=>by simpa using hlt x hx
   .rw[zk,ya];exact rfl
theorem own0:ownKnob prog.godebug=none:=by kernel_rfl
theorem laidOut0:laidOutB prog=true:=by kernel_rfl
theorem mapsRowed0:mapsRowed prog=true:=by kernel_rfl
theorem slices0:((List.range prog.types.size).all fun t=>match prog.underlying t with|some (.slice e)=>decide (0<prog.cellsOf e)|_=>true)=true:=by kernel_rfl
def bJ:Rdr prog 3 Int:=Rdr.int (k:=.i64) underlying3 (by kernel_rfl)
def tO:Rdr prog 37 (List Int):=bJ.sliceN 1 underlying37 (by kernel_rfl) (by kernel_rfl)
def aLC:Rdr prog 164 (Int × Int × Int):=Rdr.struct3 bJ bJ bJ underlying164 rfl rfl rfl rfl (by kernel_rfl) (by kernel_rfl) (by kernel_rfl)
def aNM:Rdr prog 164 E:=aLC.map (fun x=>⟨x.1,x.2.1,x.2.2⟩) E.cells (fun _=>True) (fun _=>rfl) (fun _ _=>trivial) (fun _=>by kernel_rfl)
def aF0:Rdr prog 38 (List E):=aNM.sliceN 3 underlying38 (by kernel_rfl) (by kernel_rfl)
def aIW:Rdr prog 40 (List Int × List E):=Rdr.struct2 tO aF0 underlying40 rfl rfl rfl (by kernel_rfl) (by kernel_rfl)
end Go.AM
