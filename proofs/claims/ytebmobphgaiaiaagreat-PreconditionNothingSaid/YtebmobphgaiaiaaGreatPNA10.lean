/-
 Parts of the proof, as merged from many texts: a machine over data, what the functions compute, plain laws.
-/
import Derived.Test.YtebmobphgaiaiaaGreatPNA9
import Derived.Shelf.Spec.SlicesGrow
set_option linter.unusedSimpArgs false
set_option linter.unusedVariables false
namespace Go.AM
open Go Go.Proofs
open Go.Proofs.Tryz
def firstN(f:Nat->Int)(g:Nat->ByteArray):Nat->ByteArray
 | 0=>eB
 | n+1=>if firstE f n=0 then (if f n=0 then eB else g n) else firstN f g n
theorem firstN_stop{f:Nat->Int}{g:Nat->ByteArray}{i:Nat}(h0:firstE f i=0)(h:f i≠0):∀n,i<n->firstN f g n=g i
 | 0,hi=>absurd hi (Nat.not_lt_zero _)
 | n+1,hi=>by
  simp only[firstN];by_cases e:i=n
  .subst e;rw[if_pos h0,if_neg h]
  .have:=firstE_stop h0 h n (by omega)
   rw[if_neg (by rw[this];exact h),firstN_stop h0 h n (by omega)]
theorem firstN_none{f:Nat->Int}{g:Nat->ByteArray}:∀n,firstE f n=0->firstN f g n=eB
 | 0,_=>rfl
 | n+1,h=>by
  simp only[firstE] at h;split at h
  .rename_i h1;rw[firstN,if_pos h1,if_pos h]
  .rename_i h1;exact absurd h h1
def tyE(t:Ty):Int :=
 if t.nodes.length=0 then 7 else if 12<t.nodes.length then 3 else if 20<t.edges.length then 3
 else if firstE (nodE t) t.nodes.length≠0 then firstE (nodE t) t.nodes.length else firstE (edgE t) t.edges.length
def tyN(t:Ty):ByteArray :=
 if t.nodes.length=0 then eB else if 12<t.nodes.length then eB else if 20<t.edges.length then eB
 else if firstE (nodE t) t.nodes.length≠0 then firstN (nodE t) (fun i=>(t.nd i).name) t.nodes.length else firstN (edgE t) (fun i=>(t.ed i).name) t.edges.length
theorem nodE_par{t:Ty}{i:Nat}(h:nodE t i=0):(t.nd i).par<i:=by
 unfold nodE at h;split at h
 .cases h
 .split at h
  .cases h
  .split at h
   .cases h
   .omega
theorem firstE_allZ{f:Nat->Int}:∀n,firstE f n=0->∀i,i<n->f i=0
 | 0,_,i,hi=>absurd hi (Nat.not_lt_zero _)
 | n+1,h,i,hi=>by
  simp only[firstE] at h;split at h
  .rename_i h1;by_cases e:i=n
   .subst e;exact h
   .exact firstE_allZ n h1 i (by omega)
  .rename_i h1;exact absurd h h1
def stV4n(t:Ty)(nb:Nat)(box:Bxs)(tok:Tks)(nt:Nat)(i:Nat):AS:=⟨tl [(4,I i),(1,.ptr (nb+1) 0 0)],lb nb box [(1,[[.d (nts t.nodes),.d (ets t.edges)]])],tok,nt⟩
def stV4e(t:Ty)(nb:Nat)(box:Bxs)(tok:Tks)(nt:Nat)(i:Nat):AS:=⟨tl [(6,I i),(1,.ptr (nb+1) 0 0)],lb nb box [(1,[[.d (nts t.nodes),.d (ets t.edges)]])],tok,nt⟩
theorem valid04_c(t:Ty)(ht:t.Fit)(hM:∀i,(t.nd i).own.length<=1000):DC 94 [t.av] (.tup [Sb (tyN t),I (tyE t)]):=by
 intro tok nt box nb;have htn:=ht.n;have hte:=ht.e;obtain⟨N,hN⟩:∃N,tyE t=N:=⟨_,rfl⟩
 obtain⟨Z,hZ⟩:∃Z,tyN t=Z:=⟨_,rfl⟩
 rw[hN,hZ];unfold tyE at hN;unfold tyN at hZ;by_cases e1:t.nodes.length=0
 .have e1':t.nodes=[]:=List.length_eq_zero_iff.1 e1
  rw[if_pos e1] at hN hZ;refine sI func94 ntmps94 fun Hb Ht=>?_
  repeat first|simp[e1']|refine sR ?_|refine sC ?_
  refine sT (sH Hb Ht ?_);simp[<-hN,<-hZ]
 .have e1':¬t.nodes=[]:=fun h=>e1 (by rw[h];rfl)
  rw[if_neg e1] at hN hZ;by_cases e2:12<t.nodes.length
  .have e2':(12:Int)<t.nodes.length:=by omega
   rw[if_pos e2] at hN hZ;refine sI func94 ntmps94 fun Hb Ht=>?_
   repeat first|simp[e1',e2,e2']|refine sR ?_
   refine sC ?_;simp[e1',e2,e2'];repeat first|simp[e2,e2']|refine sR ?_|refine sC ?_
   refine sT (sH Hb Ht ?_);simp[<-hN,<-hZ]
  .have e2':¬(12:Int)<t.nodes.length:=by omega
   rw[if_neg e2] at hN hZ;by_cases e3:20<t.edges.length
   .have e3':(20:Int)<t.edges.length:=by omega
    rw[if_pos e3] at hN hZ;refine sI func94 ntmps94 fun Hb Ht=>?_
    repeat first|simp[e1',e2,e2',e3,e3']|refine sR ?_
    refine sC ?_;simp[e1',e2,e2'];repeat first|simp[e2,e2',e3,e3']|refine sR ?_|refine sC ?_
    refine sT (sH Hb Ht ?_);simp[<-hN,<-hZ]
   .have e3':¬(20:Int)<t.edges.length:=by omega
    rw[if_neg e3] at hN hZ;refine sI func94 ntmps94 fun Hb Ht=>?_
    repeat first|simp[e1',e2,e2',e3,e3']|refine sR ?_
    refine sC ?_;simp[e1',e2,e2'];repeat first|simp[e2,e2',e3,e3']|refine sR ?_|refine sC ?_
    refine sN ?_;refine sL (stV4n t nb box tok nt) (fun i=>i<=t.nodes.length/\firstE (nodE t) i=0) (fun i=>t.nodes.length-i) 0 ⟨Nat.zero_le _,rfl⟩ wkA ?_;rintro i S' ⟨hi,hok⟩ hS;simp only[stV4n] at hS;subst hS;have hw:=sW (i:=i) (by omega);repeat first|simp|refine sR ?_|refine sC ?_
    refine⟨fun hlt=>?_,fun hge=>?_⟩
    .have hc:=node04_c t ht hM i hlt (fun j hj=>nodE_par (firstE_allZ i hok j hj));have hR:nodE t i≠0->firstE (nodE t) t.nodes.length=nodE t i:=fun h0=>firstE_stop hok h0 _ hlt
     have hR2:nodE t i≠0->firstN (nodE t) (fun i=>(t.nd i).name) t.nodes.length=t.nodes[i].name:=fun h0=>by rw[firstN_stop hok h0 _ hlt,nd_at hlt]
     have hnx:nodE t i=0->firstE (nodE t) (i+1)=0:=fun h0=>by simp only[firstE,hok,h0,↓reduceIte]
     generalize nodE t i=E at *;repeat first|simp[hlt]|refine sR ?_
     refine sD (hc _ _) ?_;repeat first|simp|refine sR ?_
     by_cases e7:E=0
     .refine sC ?_;simp[e7];repeat first|simp[hw]|refine sR ?_
      refine sE ?_;exact⟨i+1,⟨hlt,hnx e7⟩,by omega,wkA⟩
     .have b7:(E != 0)=true:=by simp[e7]
      rw[hR e7,if_pos e7] at hN hZ;rw[hR2 e7] at hZ;refine sC ?_;simp[e7,b7];repeat first|simp[hlt]|refine sR ?_
      refine sT (sH Hb Ht ?_);simp[<-hN,<-hZ]
    .refine sX ?_;simp only[AU,↓reduceIte];have:i=t.nodes.length:=by omega
     subst this;rw[if_neg (by rw[hok];simp)] at hN hZ;repeat first|simp|refine sR ?_
     refine sN ?_;refine sL (stV4e t nb box tok nt) (fun i=>i<=t.edges.length/\firstE (edgE t) i=0) (fun i=>t.edges.length-i) 0 ⟨Nat.zero_le _,rfl⟩ wkA ?_;rintro i S' ⟨hi,hok2⟩ hS;simp only[stV4e] at hS;subst hS;have hw:=sW (i:=i) (by omega);repeat first|simp|refine sR ?_|refine sC ?_
     refine⟨fun hlt=>?_,fun hge=>?_⟩
     .have hc:=edge04_c t ht i hlt;have hR:edgE t i≠0->firstE (edgE t) t.edges.length=edgE t i:=fun h0=>firstE_stop hok2 h0 _ hlt
      have hR2:edgE t i≠0->firstN (edgE t) (fun i=>(t.ed i).name) t.edges.length=t.edges[i].name:=fun h0=>by rw[firstN_stop hok2 h0 _ hlt,ed_at hlt]
      have hnx:edgE t i=0->firstE (edgE t) (i+1)=0:=fun h0=>by simp only[firstE,hok2,h0,↓reduceIte]
      generalize edgE t i=E at *;repeat first|simp[hlt]|refine sR ?_
      refine sD (hc _ _) ?_;repeat first|simp|refine sR ?_
      by_cases e7:E=0
      .refine sC ?_;simp[e7];repeat first|simp[hw]|refine sR ?_
       refine sE ?_;exact⟨i+1,⟨hlt,hnx e7⟩,by omega,wkA⟩
      .have b7:(E != 0)=true:=by simp[e7]
       rw[hR e7] at hN;rw[hR2 e7] at hZ;refine sC ?_;simp[e7,b7];repeat first|simp[hlt]|refine sR ?_
       refine sT (sH Hb Ht ?_);simp[<-hN,<-hZ]
     .refine sX ?_;simp only[AU,↓reduceIte];have:i=t.edges.length:=by omega
      subst this;rw[hok2] at hN;rw[firstN_none _ hok2] at hZ;repeat first|simp|refine sR ?_
      refine sT (sH Hb Ht ?_);simp[<-hN,<-hZ]
def stVn(t:Ty)(nb:Nat)(box:Bxs)(tok:Tks)(nt:Nat)(i:Nat):AS:=⟨tl [(29,I i),(28,I t.nodes.length),(27,.d (nts t.nodes)),(1,.ptr (nb+1) 0 0)],lb nb box [(1,[[.d (nts t.nodes),.d (ets t.edges)]])],tok,nt⟩
def stVe(t:Ty)(nb:Nat)(box:Bxs)(tok:Tks)(nt:Nat)(i:Nat):AS:=⟨tl [(46,I i),(45,I t.edges.length),(44,.d (ets t.edges)),(1,.ptr (nb+1) 0 0)],lb nb box [(1,[[.d (nts t.nodes),.d (ets t.edges)]])],tok,nt⟩
theorem valid_c4(t:Ty)(ht:t.Fit)(hM:∀i,(t.nd i).own.length<=1000):DC 88 [t.av] (.tup [Sb (tyN t),I (tyE t)]):=by
 intro tok nt box nb;have htn:=ht.n;have hte:=ht.e;obtain⟨N,hN⟩:∃N,tyE t=N:=⟨_,rfl⟩
 obtain⟨Z,hZ⟩:∃Z,tyN t=Z:=⟨_,rfl⟩
 rw[hN,hZ];unfold tyE at hN;unfold tyN at hZ;by_cases e1:t.nodes.length=0
 .have e1':t.nodes=[]:=List.length_eq_zero_iff.1 e1
  rw[if_pos e1] at hN hZ;refine sI func88 ntmps88 fun Hb Ht=>?_
  repeat first|simp[e1']|refine sR ?_|refine sC ?_
  refine sT (sH Hb Ht ?_);simp[<-hN,<-hZ]
 .have e1':¬t.nodes=[]:=fun h=>e1 (by rw[h];rfl)
  rw[if_neg e1] at hN hZ;by_cases e2:12<t.nodes.length
  .have e2':(12:Int)<t.nodes.length:=by omega
   rw[if_pos e2] at hN hZ;refine sI func88 ntmps88 fun Hb Ht=>?_
   repeat first|simp[e1',e2,e2']|refine sR ?_
   refine sC ?_;simp[e1',e2,e2'];repeat first|simp[e2,e2']|refine sR ?_|refine sC ?_
   refine sT (sH Hb Ht ?_);simp[<-hN,<-hZ]
  .have e2':¬(12:Int)<t.nodes.length:=by omega
   rw[if_neg e2] at hN hZ;by_cases e3:20<t.edges.length
   .have e3':(20:Int)<t.edges.length:=by omega
    rw[if_pos e3] at hN hZ;refine sI func88 ntmps88 fun Hb Ht=>?_
    repeat first|simp[e1',e2,e2',e3,e3']|refine sR ?_
    refine sC ?_;simp[e1',e2,e2'];repeat first|simp[e2,e2',e3,e3']|refine sR ?_|refine sC ?_
    refine sT (sH Hb Ht ?_);simp[<-hN,<-hZ]
   .have e3':¬(20:Int)<t.edges.length:=by omega
    rw[if_neg e3] at hN hZ;refine sI func88 ntmps88 fun Hb Ht=>?_
    repeat first|simp[e1',e2,e2',e3,e3']|refine sR ?_
    refine sC ?_;simp[e1',e2,e2'];repeat first|simp[e2,e2',e3,e3']|refine sR ?_|refine sC ?_
    refine sN ?_;refine sL (stVn t nb box tok nt) (fun i=>i<=t.nodes.length/\firstE (nodE t) i=0) (fun i=>t.nodes.length-i) 0 ⟨Nat.zero_le _,rfl⟩ wkA ?_;rintro i S' ⟨hi,hok⟩ hS;simp only[stVn] at hS;subst hS;have hw:=sW (i:=i) (by omega);repeat first|simp|refine sR ?_|refine sC ?_
    refine⟨fun hlt=>?_,fun hge=>?_⟩
    .have hc:=node_c t ht hM i hlt (fun j hj=>nodE_par (firstE_allZ i hok j hj));have hR:nodE t i≠0->firstE (nodE t) t.nodes.length=nodE t i:=fun h0=>firstE_stop hok h0 _ hlt
     have hR2:nodE t i≠0->firstN (nodE t) (fun i=>(t.nd i).name) t.nodes.length=t.nodes[i].name:=fun h0=>by rw[firstN_stop hok h0 _ hlt,nd_at hlt]
     have hnx:nodE t i=0->firstE (nodE t) (i+1)=0:=fun h0=>by simp only[firstE,hok,h0,↓reduceIte]
     generalize nodE t i=E at *;repeat first|simp[hlt]|refine sR ?_
     refine sD (hc _ _) ?_;repeat first|simp|refine sR ?_
     by_cases e7:E=0
     .refine sC ?_;simp[e7];repeat first|simp[hw]|refine sR ?_
      refine sE ?_;exact⟨i+1,⟨hlt,hnx e7⟩,by omega,wkA⟩
     .have b7:(E != 0)=true:=by simp[e7]
      rw[hR e7,if_pos e7] at hN hZ;rw[hR2 e7] at hZ;refine sC ?_;simp[e7,b7];repeat first|simp[hlt]|refine sR ?_
      refine sT (sH Hb Ht ?_);simp[<-hN,<-hZ]
    .refine sX ?_;simp only[AU,↓reduceIte];have:i=t.nodes.length:=by omega
     subst this;rw[if_neg (by rw[hok];simp)] at hN hZ;repeat first|simp|refine sR ?_
     refine sN ?_;refine sL (stVe t nb box tok nt) (fun i=>i<=t.edges.length/\firstE (edgE t) i=0) (fun i=>t.edges.length-i) 0 ⟨Nat.zero_le _,rfl⟩ wkA ?_;rintro i S' ⟨hi,hok2⟩ hS;simp only[stVe] at hS;subst hS;have hw:=sW (i:=i) (by omega);repeat first|simp|refine sR ?_|refine sC ?_
     refine⟨fun hlt=>?_,fun hge=>?_⟩
     .have hc:=edge_c t ht i hlt;have hR:edgE t i≠0->firstE (edgE t) t.edges.length=edgE t i:=fun h0=>firstE_stop hok2 h0 _ hlt
      have hR2:edgE t i≠0->firstN (edgE t) (fun i=>(t.ed i).name) t.edges.length=t.edges[i].name:=fun h0=>by rw[firstN_stop hok2 h0 _ hlt,ed_at hlt]
      have hnx:edgE t i=0->firstE (edgE t) (i+1)=0:=fun h0=>by simp only[firstE,hok2,h0,↓reduceIte]
      generalize edgE t i=E at *;repeat first|simp[hlt]|refine sR ?_
      refine sD (hc _ _) ?_;repeat first|simp|refine sR ?_
      by_cases e7:E=0
      .refine sC ?_;simp[e7];repeat first|simp[hw]|refine sR ?_
       refine sE ?_;exact⟨i+1,⟨hlt,hnx e7⟩,by omega,wkA⟩
      .have b7:(E != 0)=true:=by simp[e7]
       rw[hR e7] at hN;rw[hR2 e7] at hZ;refine sC ?_;simp[e7,b7];repeat first|simp[hlt]|refine sR ?_
       refine sT (sH Hb Ht ?_);simp[<-hN,<-hZ]
     .refine sX ?_;simp only[AU,↓reduceIte];have:i=t.edges.length:=by omega
      subst this;rw[hok2] at hN;rw[firstN_none _ hok2] at hZ;repeat first|simp|refine sR ?_
      refine sT (sH Hb Ht ?_);simp[<-hN,<-hZ]
structure Ru where
 name:ByteArray
 lg:Gr
 lsl:List Sl
 lv:Int
 lte:List Te
 rg:Gr
 rsl:List Sl
 rv:Int
 rte:List Te
 k:Mo
 i:Mo
 inj:Bool
 c:Cd
abbrev Ru.row(r:Ru):List AV:=[.d (.raw (.string r.name)),.d (ints r.lg.nodes),.d (AM.edges r.lg.edges),.d (slots r.lsl),I r.lv,.d (tests r.lte),.d (ints r.rg.nodes),.d (AM.edges r.rg.edges),.d (slots r.rsl),I r.rv,.d (tests r.rte),
 .d (ints r.k.nodes),.d (ints r.k.edges),.d (ints r.i.nodes),.d (ints r.i.edges),B r.inj,I r.c.kind,.d (conds r.c.kids),.d (ints r.c.m.nodes),.d (ints r.c.m.edges),.d (ints r.c.g.nodes),.d (AM.edges r.c.g.edges),.d (slots r.c.sl),I r.c.vars,.d (tests r.c.te)]
abbrev Ru.av(r:Ru):AV:=.agg r.row
structure Ru.Fit (r:Ru):Prop where
 lg:r.lg.Fit
 rg:r.rg.Fit
 k:r.k.Fit
 i:r.i.Fit
 ls:r.lsl.length<=bigN
 lt:r.lte.length<=bigN
 rs:r.rsl.length<=bigN
 rt:r.rte.length<=bigN
abbrev spAv(s:Sp):AV:=.agg [.d (ints s.l.nodes),.d (AM.edges s.l.edges),.d (ints s.r.nodes),.d (AM.edges s.r.edges),.d (ints s.k.nodes),.d (ints s.k.edges),.d (ints s.i.nodes),.d (ints s.i.edges)]
def Ru.sp(r:Ru):Sp:=⟨r.lg,r.rg,r.k,r.i⟩
def Ru.plainL(r:Ru):Prop:=r.lsl.length+r.lte.length=0/\r.lv=0
def Ru.plainR(r:Ru):Prop:=r.rsl.length+r.rte.length=0/\r.rv=0
instance (r:Ru):Decidable r.plainL:=inferInstanceAs (Decidable (_/\_))
instance (r:Ru):Decidable r.plainR:=inferInstanceAs (Decidable (_/\_))
def strR(r:Ru):Int :=
 if vG r.lg≠0 then vG r.lg else if vG r.rg≠0 then vG r.rg else if validP r.lg r.k≠0 then validP r.lg r.k
 else if validM (exG r.lg r.k) r.rg r.i≠0 then validM (exG r.lg r.k) r.rg r.i else if injM (exG r.lg r.k) r.rg r.i=false then 11
 else if r.plainL/\r.plainR/\r.inj=true then 0 else 8
theorem strR_zero{r:Ru}(h:strR r=0):SpOk r.sp/\vG r.lg=0/\vG r.rg=0:=by
 unfold strR at h;split at h
 .contradiction
 .split at h
  .contradiction
  .split at h
   .contradiction
   .split at h
    .contradiction
    .split at h
     .cases h
     .rename_i h1 h2 h3 h4 h5;exact⟨⟨VP.of (Decidable.not_not.1 h3),Emb.of (show injM (exG r.lg r.k) r.rg r.i=true by simpa using h5)⟩,Decidable.not_not.1 h1,Decidable.not_not.1 h2⟩
theorem mem_indexI{l m:List Int}(h:∀x∈l,x∈m):∀i (hi:i<l.length),0<=indexI m l[i]/\indexI m l[i]<m.length:=fun i hi=>by
 have:=indexI_in (h _ (List.getElem_mem hi))
 exact⟨this.1,this.2.1⟩
def mapK(f:Int->Int)(l:List Int)(i:Nat):List Int:=(l.take i).map f
theorem mapK_zero(f:Int->Int)(l:List Int):mapK f l 0=[]:=rfl
theorem mapK_succ(f:Int->Int)(l:List Int){i:Nat}(h:i<l.length):mapK f l (i+1)=mapK f l i++[f l[i]]:=by
 unfold mapK;rw[<-List.take_append_getElem h,List.map_append];rfl
theorem mapK_all(f:Int->Int)(l:List Int):mapK f l l.length=l.map f:=by simp[mapK]
theorem mapK_len(f:Int->Int)(l:List Int)(i:Nat):(mapK f l i).length<=i:=by simp[mapK];omega
def goneK(images keep:List Int)(i:Nat):List Int:=((List.range i).filter fun (i:Nat)=>decide ((i:Int)∉keep)).map fun (i:Nat)=>images.getD i 0
theorem goneK_zero(images keep:List Int):goneK images keep 0=[]:=rfl
theorem goneK_succ(images keep:List Int)(i:Nat):goneK images keep (i+1)=if (i:Int)∈keep then goneK images keep i else goneK images keep i++[images.getD i 0]:=by
 unfold goneK;rw[List.range_succ,List.filter_append,List.map_append];by_cases h:(i:Int)∈keep
 .simp[h]
 .simp[h]
theorem goneK_len(images keep:List Int)(i:Nat):(goneK images keep i).length<=i:=by
 unfold goneK;rw[List.length_map];have:=List.length_filter_le (fun (i:Nat)=>decide ((i:Int)∉keep)) (List.range i)
 simpa using this
def restX(n:Nat)(l:List Int):List Int:=((List.range n).filter fun (k:Nat)=>decide ((k:Int)∉l)).map fun (k:Nat)=>(k:Int)
theorem restX_succ(l:List Int)(i:Nat):restX (i+1) l=if (i:Int)∈l then restX i l else restX i l++[(i:Int)]:=by
 unfold restX;rw[List.range_succ,List.filter_append,List.map_append];by_cases h:(i:Int)∈l
 .simp[h]
 .simp[h]
theorem restX_len(n:Nat)(l:List Int):(restX n l).length<=n:=by
 unfold restX;rw[List.length_map];have:=List.length_filter_le (fun (k:Nat)=>decide ((k:Int)∉l)) (List.range n)
 simpa using this
theorem restX_zero(l:List Int):restX 0 l=[]:=rfl
def dangP(g:Gr)(keep m:Mo)(i:Nat):Bool:=decide ((i:Int)∉m.edges/\((g.edges.getD i default).fr∈goneI m.nodes keep.nodes∨(g.edges.getD i default).to∈goneI m.nodes keep.nodes))
def dangI(g:Gr)(keep m:Mo)(n:Nat):List Int:=((List.range n).filter (dangP g keep m)).map fun (k:Nat)=>(k:Int)
theorem dangI_succ(g:Gr)(keep m:Mo)(i:Nat):dangI g keep m (i+1)=if dangP g keep m i=true then dangI g keep m i++[(i:Int)] else dangI g keep m i:=by
 unfold dangI;rw[List.range_succ,List.filter_append,List.map_append];by_cases h:dangP g keep m i=true
 .simp[h]
 .simp[h]
theorem dangI_len(g:Gr)(keep m:Mo)(n:Nat):(dangI g keep m n).length<=n:=by
 unfold dangI;rw[List.length_map];have:=List.length_filter_le (dangP g keep m) (List.range n)
 simpa using this
theorem dangI_any(g:Gr)(keep m:Mo):decide (0<(dangI g keep m g.edges.length).length)=dangL g keep m:=by
 rw[Bool.eq_iff_iff,decide_eq_true_eq,dangL,List.any_eq_true,dangI,List.length_map,List.length_pos_iff_exists_mem];constructor
 .rintro⟨k,hk⟩;have:=List.mem_filter.1 hk;exact⟨k,this.1,this.2⟩
 .rintro⟨k,h1,h2⟩;exact⟨k,List.mem_filter.2 ⟨h1,h2⟩⟩
theorem dangI_zero(g:Gr)(keep m:Mo):dangI g keep m 0=[]:=rfl
def cmpR(l g:Gr)(keep m:Mo):Mo × Int:=if dangL g keep m=true then (⟨[],[]⟩,14) else (cmpl g keep m,0)
theorem restX_rest(n:Nat)(images keep:List Int):restX n (goneI images keep)=restI n images keep:=rfl
theorem goneI_len(images keep:List Int):(goneI images keep).length<=images.length:=goneK_len images keep images.length
abbrev glAv(l g:Gr)(keep m:Mo):AV:=.agg [.d (ints l.nodes),.d (AM.edges l.edges),.d (ints g.nodes),.d (AM.edges g.edges),.d (ints keep.nodes),.d (ints keep.edges),.d (ints m.nodes),.d (ints m.edges)]
theorem cgiven_c(l g:Gr)(keep m:Mo)(hl:l.Fit)(hg:g.Fit)(hm:m.Fit)(hk:keep.Fit):DC 293 [glAv l g keep m] (I (if validM l g m≠0 then validM l g m else validP l keep)):=by
 intro tok nt box nb;have h1:=valid51_c l g m hl hg;have h2:=validP_c l keep hl hk;refine sI func293 ntmps293 fun Hb Ht=>?_
 repeat first|simp|refine sR ?_
 refine sD (h1 _ _) ?_;repeat first|simp|refine sR ?_
 by_cases e1:validM l g m=0
 .simp only[e1];refine sC ?_;repeat first|simp|refine sR ?_
  refine sD (h2 _ _) ?_;repeat first|simp|refine sR ?_
  refine sT (sH Hb Ht ?_);simp[e1]
 .have b1:(validM l g m != 0)=true:=by simp[e1]
  simp only[b1];refine sC ?_;repeat first|simp|refine sR ?_
  refine sT (sH Hb Ht ?_);simp[e1]
def stDe(l g:Gr)(keep m:Mo)(nb:Nat)(box:Bxs)(x:Acc):AS :=
 ⟨tl [(10,I x.i),(9,I m.nodes.length),(8,.d (ints m.nodes)),(3,.osl 1 (rI (goneK m.nodes keep.nodes x.i)) x.own),(1,.ptr (nb+1) 0 0)],lb nb box [(1,[[.d (ints l.nodes),.d (AM.edges l.edges),.d (ints g.nodes),.d (AM.edges g.edges),.d (ints keep.nodes),.d (ints keep.edges),.d (ints m.nodes),.d (ints m.edges)]])],x.tok,x.nt⟩
theorem deleted_c(l g:Gr)(keep m:Mo)(hm:m.Fit)(hk:keep.Fit):DC 323 [glAv l g keep m] (.d (ints (goneI m.nodes keep.nodes))):=by
 intro tok nt box nb;have hh:=fun v=>contains_c keep.nodes v hk.n
 refine sI func323 ntmps323 fun Hb Ht=>?_
 repeat first|simp|refine sR ?_
 refine sN ?_;have hmn:=hm.n;refine sL (stDe l g keep m nb box) (fun x=>x.i<=m.nodes.length/\TK tok nt x.tok x.nt [x.own]) (fun x=>m.nodes.length-x.i) ⟨0,.full,tok,nt⟩ ⟨Nat.zero_le _,(TK.start Ht).full⟩ (wM (nr _) rfl (by simp[ToL,lk,goneK_zero]) (by simp[BoxL,lk])) ?_;rintro⟨i,own,tok',nt'⟩ S ⟨hi,htk⟩ hS;simp only[stDe] at hS hi htk;subst hS;have hw:=sW (i:=i) (by omega);have hsc:=goneK_succ m.nodes keep.nodes i;have hlen:=goneK_len m.nodes keep.nodes i;repeat first|simp|refine sR ?_|refine sC ?_
 refine⟨fun hlt=>?_,fun hge=>?_⟩
 .have hg:m.nodes.getD i 0=m.nodes[i]:=by simp[hlt]
  rw[hg] at hsc;repeat first|simp[hlt]|refine sR ?_
  refine sD (hh _ _ _) ?_;simp;by_cases hmm:(i:Int)∈keep.nodes
  .rw[if_pos hmm] at hsc;simp only[hmm];repeat first|simp[hw]|refine sR ?_|refine sC ?_
   refine sE ?_;exact⟨⟨i+1,own,tok',nt'⟩,⟨hlt,htk⟩,by simp only;omega,wM htk.le rfl (by simp[ToL,lk,hsc]) (by simp[BoxL,lk])⟩
  .rw[if_neg hmm] at hsc;simp only[hmm];repeat first|simp|refine sR ?_
   refine sC ?_;repeat first|simp|refine sR ?_
   refine⟨⟨by omega,htk.live⟩,?_⟩;repeat first|simp[hw]|refine sR ?_
   refine sE ?_;exact⟨⟨i+1,_,_,_⟩,⟨hlt,htk.app⟩,by simp only;omega,wM htk.app.le rfl (by simp[ToL,lk,hsc]) (by simp[BoxL,lk])⟩
 .refine sX ?_;simp only[AU,↓reduceIte];have:i=m.nodes.length:=by omega
  subst this;repeat first|simp|refine sR ?_
  have e:goneI m.nodes keep.nodes=goneK m.nodes keep.nodes m.nodes.length:=rfl
  refine sT (sG Hb Ht htk.old htk.le ?_);simp[e]
def stCp(images keep:List Int)(nb:Nat)(box:Bxs)(tok:Tks)(nt:Nat)(i:Nat):AS:=⟨tl [(10,I i),(9,I images.length),(8,.d (ints images)),(0,.d (ints images)),(1,.d (ints keep)),(5,.osl 0 [] .full)],lb nb box [],tok,nt⟩
def stCpb(images keep:List Int)(i:Nat)(nb:Nat)(box:Bxs)(tok:Tks)(nt:Nat)(k:Nat):AS:=⟨tl [(10,I i),(9,I images.length),(8,.d (ints images)),(0,.d (ints images)),(1,.d (ints keep)),(5,.osl 0 [] .full),(6,I i),(7,I k)],lb nb box [],tok,nt⟩
theorem cpairs_c(images keep:List Int)(h1:images.length<=1000000)(h2:keep.length<=1000000)(hn:images.Nodup):DC 322 [.d (ints images),.d (ints keep)] (.d (.sl 2 [])):=by
 intro tok nt box nb;refine sI func322 ntmps322 fun Hb Ht=>?_
 repeat first|simp|refine sR ?_
 refine sN ?_;refine sL (stCp images keep nb box tok nt) (fun i=>i<=images.length) (fun i=>images.length-i) 0 (Nat.zero_le _) (wM (nr _) rfl (by simp[ToL,lk]) trivial) ?_;rintro i S hi hS;simp only[stCp] at hS;subst hS;have hw:=sW (i:=i) (by omega);repeat first|simp|refine sR ?_|refine sC ?_
 refine⟨fun hlt=>?_,fun hge=>?_⟩
 .repeat first|simp[hw]|refine sR ?_
  refine sN ?_;refine sL (stCpb images keep i nb box tok nt) (fun k=>i<k/\k<=images.length) (fun k=>images.length-k) (i+1) ⟨Nat.lt_succ_self _,hlt⟩ (wM (nr _) rfl (by simp[ToL,lk]) trivial) ?_;rintro k S ⟨hik,hk⟩ hS;simp only[stCpb] at hS;subst hS;have hwk:=sW (i:=k) (by omega);repeat first|simp|refine sR ?_|refine sC ?_
  refine⟨fun hlk=>?_,fun hge=>?_⟩
  .have hne:(images[i]==images[k])=false:=by
    have:=List.pairwise_iff_getElem.1 hn i k hlt hlk hik
    simpa using this
   repeat first|simp[hlt,hlk,hne]|refine sR ?_
   refine sC ?_;simp;repeat first|simp[hwk]|refine sR ?_
   refine sE ?_;exact⟨k+1,⟨by omega,hlk⟩,by omega,wM (nr _) rfl (by simp[ToL,lk]) trivial⟩
  .refine sX ?_;simp only[AU,↓reduceIte];repeat first|simp[hw]|refine sR ?_
   refine sE ?_;exact⟨i+1,hlt,by omega,wM (nr _) rfl (by simp[ToL,lk]) trivial⟩
 .refine sX ?_;simp only[AU,↓reduceIte];repeat first|simp|refine sR ?_
  refine sT (sH Hb Ht ?_);simp
def stCd(l g:Gr)(keep m:Mo)(nb:Nat)(box:Bxs)(x:Acc):AS :=
 ⟨tl [(13,I x.i),(12,I g.edges.length),(11,.d (AM.edges g.edges)),(4,.osl 1 (rI (dangI g keep m x.i)) x.own),(3,.d (ints (goneI m.nodes keep.nodes))),(1,.ptr (nb+1) 0 0)],lb nb box [(1,[[.d (ints l.nodes),.d (AM.edges l.edges),.d (ints g.nodes),.d (AM.edges g.edges),.d (ints keep.nodes),.d (ints keep.edges),.d (ints m.nodes),.d (ints m.edges)]])],x.tok,x.nt⟩
theorem cdangling_c(l g:Gr)(keep m:Mo)(hg:g.Fit)(hm:m.Fit)(hk:keep.Fit):DC 295 [glAv l g keep m] (.d (ints (dangI g keep m g.edges.length))):=by
 intro tok nt box nb;have hh:=fun v=>contains_c m.edges v hm.e
 have hgo:=deleted_c l g keep m hm hk;have hh2:=fun v=>contains_c (goneI m.nodes keep.nodes) v (by have:=goneI_len m.nodes keep.nodes;have:=hm.n;omega)
 refine sI func295 ntmps295 fun Hb Ht=>?_
 repeat first|simp|refine sR ?_
 refine sD (hgo _ _) ?_;repeat first|simp|refine sR ?_
 refine sN ?_;have hge:=hg.e;refine sL (stCd l g keep m nb box) (fun x=>x.i<=g.edges.length/\TK tok nt x.tok x.nt [x.own]) (fun x=>g.edges.length-x.i) ⟨0,.full,tok,nt⟩ ⟨Nat.zero_le _,(TK.start Ht).full⟩ (wM (nr _) rfl (by simp[ToL,lk,dangI_zero]) (by simp[BoxL,lk])) ?_;rintro⟨i,own,tok',nt'⟩ S ⟨hi,htk⟩ hS;simp only[stCd] at hS hi htk;subst hS;have hw:=sW (i:=i) (by omega);have hsc:=dangI_succ g keep m i;have hlen:=dangI_len g keep m i;repeat first|simp|refine sR ?_|refine sC ?_
 refine⟨fun hlt=>?_,fun hge=>?_⟩
 .have hg1:g.edges.getD i default=g.edges[i]:=by simp[hlt]
  have hP:dangP g keep m i=(decide ((i:Int)∉m.edges)&&(decide (g.edges[i].fr∈goneI m.nodes keep.nodes)||decide (g.edges[i].to∈goneI m.nodes keep.nodes))):=by unfold dangP;rw[hg1];simp
  have no:dangP g keep m i=false->dangI g keep m (i+1)=dangI g keep m i:=fun h=>by rw[hsc,if_neg (by simp[h])]
  have yes:dangP g keep m i=true->dangI g keep m (i+1)=dangI g keep m i++[(i:Int)]:=fun h=>by rw[hsc,if_pos h]
  repeat first|simp[hlt]|refine sR ?_
  refine sD (hh _ _ _) ?_;simp;by_cases hmm:(i:Int)∈m.edges
  .have no:=no (by rw[hP];simp[hmm]);simp only[hmm];repeat first|simp[hw]|refine sR ?_|refine sC ?_
   refine sE ?_;exact⟨⟨i+1,own,tok',nt'⟩,⟨hlt,htk⟩,by simp only;omega,wM htk.le rfl (by simp[ToL,lk,no]) (by simp[BoxL,lk])⟩
  .simp only[hmm];repeat first|simp|refine sR ?_
   refine sD (hh2 _ _ _) ?_;simp;by_cases h1:g.edges[i].fr∈goneI m.nodes keep.nodes
   .have yes:=yes (by rw[hP];simp[hmm,h1]);simp only[h1];repeat first|simp|refine sR ?_
    refine sC ?_;repeat first|simp|refine sR ?_
    refine⟨⟨by omega,htk.live⟩,?_⟩;repeat first|simp[hw]|refine sR ?_
    refine sE ?_;exact⟨⟨i+1,_,_,_⟩,⟨hlt,htk.app⟩,by simp only;omega,wM htk.app.le rfl (by simp[ToL,lk,yes]) (by simp[BoxL,lk])⟩
   .simp only[h1];repeat first|simp|refine sR ?_
    refine sD (hh2 _ _ _) ?_;simp;by_cases h2:g.edges[i].to∈goneI m.nodes keep.nodes
    .have yes:=yes (by rw[hP];simp[hmm,h2]);simp only[h2];repeat first|simp|refine sR ?_
     refine sC ?_;repeat first|simp|refine sR ?_
     refine⟨⟨by omega,htk.live⟩,?_⟩;repeat first|simp[hw]|refine sR ?_
     refine sE ?_;exact⟨⟨i+1,_,_,_⟩,⟨hlt,htk.app⟩,by simp only;omega,wM htk.app.le rfl (by simp[ToL,lk,yes]) (by simp[BoxL,lk])⟩
    .have no:=no (by rw[hP];simp[hmm,h1,h2]);simp only[h2];repeat first|simp[hw]|refine sR ?_|refine sC ?_
     refine sE ?_;exact⟨⟨i+1,own,tok',nt'⟩,⟨hlt,htk⟩,by simp only;omega,wM htk.le rfl (by simp[ToL,lk,no]) (by simp[BoxL,lk])⟩
 .refine sX ?_;simp only[AU,↓reduceIte];have:i=g.edges.length:=by omega
  subst this;repeat first|simp|refine sR ?_
  refine sT (sG Hb Ht htk.old htk.le ?_);simp
def rowsB(bs:List Bool):List (List AV):=bs.map fun b=>[AV.d (.raw (.bool b))]
theorem rowsB_eq(bs:List Bool):rowsB bs=rowsD (bs.map fun b=>[D.raw (.bool b)]):=by simp[rowsB,rowsD]
@[simp] theorem set_rB(bs:List Bool)(i:Nat)(v:Bool):(rowsB bs).set i [AV.d (.raw (.bool v))]=rowsB (bs.set i v):=by simp[rowsB,List.map_set]
@[simp] theorem rowsB_length(bs:List Bool):(rowsB bs).length=bs.length:=by simp[rowsB]
@[simp high] theorem rowsB_get{bs:List Bool}{i:Nat}(h:i<bs.length):(rowsB bs)[i]?=some [AV.d (.raw (.bool bs[i]))]:=by simp[rowsB,h]
@[simp] theorem rowsTo_B{p q:Nat->Prop}{fz:Option (Nat × Nat × List (List D))}(bs:List Bool):RowsTo p q fz (rowsB bs) (rowsB bs):=by rw[rowsB_eq];simp
def goneB(n:Nat)(images keep:List Int):Nat->List Bool
 | 0=>List.replicate n false
 | i+1=>if (i:Int)∈keep then goneB n images keep i else (goneB n images keep i).set (images.getD i 0).toNat true
theorem goneB_len(n:Nat)(images keep:List Int):∀i,(goneB n images keep i).length=n
 | 0=>by simp[goneB]
 | i+1=>by
  unfold goneB;split
  .exact goneB_len n images keep i
  .rw[List.length_set];exact goneB_len n images keep i
theorem goneB_get(n:Nat)(images keep:List Int)(hr:∀x∈images,0<=x/\x<n):∀i,i<=images.length->∀k,k<n->(goneB n images keep i).getD k false=decide ((k:Int)∈goneK images keep i)
 | 0,_,k,hk=>by simp[goneB,goneK_zero,hk]
 | i+1,hi,k,hk=>by
  have ih:=goneB_get n images keep hr i (by omega) k hk;have rg:=hr _ (getD_mem (d:=0) (show i<images.length by omega));rw[goneK_succ];unfold goneB;by_cases hm:(i:Int)∈keep
  .rw[if_pos hm,if_pos hm];exact ih
  .rw[if_neg hm,if_neg hm];have hl:=goneB_len n images keep i;by_cases e:(images.getD i 0).toNat=k
   .rw[e,List.getD_eq_getElem?_getD,List.getElem?_set_self (by omega)];have:(k:Int)=images.getD i 0:=by omega
    simp[this]
   .rw[List.getD_eq_getElem?_getD,List.getElem?_set_ne e,<-List.getD_eq_getElem?_getD,ih];have:¬(k:Int)=images.getD i 0:=by omega
    rw[decide_eq_decide,List.mem_append,List.mem_singleton];simp only[this,or_false]
def stR1(n:Nat)(images keep:List Int)(nb:Nat)(box:Bxs)(tok:Tks)(nt:Nat)(i:Nat):AS :=
 ⟨tl [(17,I i),(16,I images.length),(15,.d (ints images)),(7,.msl (nb+14) 0 n 1),(6,.osl 0 [] .full),(0,I n),(2,.d (ints keep))],lb nb box [(14,rowsB (goneB n images keep i))],tok,nt⟩
def stR2(n:Nat)(images keep:List Int)(nb:Nat)(box:Bxs)(x:Acc):AS :=
 ⟨tl [(32,I x.i),(31,I n),(30,.msl (nb+14) 0 n 1),(10,.osl 1 (rI (restX x.i (goneI images keep))) x.own)],lb nb box [(14,rowsB (goneB n images keep images.length))],x.tok,x.nt⟩
theorem crest_c(n:Nat)(images keep:List Int)(hn:n<=1000000)(h1:images.length<=1000000)(h2:keep.length<=1000000)(hr:∀x∈images,0<=x/\x<n):DC 296 [I n,.d (ints images),.d (ints keep)] (.d (ints (restI n images keep))):=by
 intro tok nt box nb;have hh:=fun v=>contains_c keep v h2
 refine sI func296 ntmps296 fun Hb Ht=>?_
 repeat first|simp|refine sR ?_
 refine⟨by omega,?_⟩;repeat first|simp|refine sR ?_
 refine sN ?_;have hrep:List.replicate n [B false]=rowsB (goneB n images keep 0):=by simp[goneB,rowsB]
 refine sL (stR1 n images keep nb box tok nt) (fun i=>i<=images.length) (fun i=>images.length-i) 0 (Nat.zero_le _) (wM (nr _) rfl (by simp[ToL,lk]) (by simp[BoxL,lk,hrep])) ?_;rintro i S hi hS;simp only[stR1] at hS;subst hS;have hw:=sW (i:=i) (by omega);have hgl:=goneB_len n images keep i;repeat first|simp|refine sR ?_|refine sC ?_
 refine⟨fun hlt=>?_,fun hge=>?_⟩
 .obtain⟨r1,r2⟩:=hr _ (List.getElem_mem hlt);have r3:images[i].toNat<n:=by omega
  have hg:images.getD i 0=images[i]:=by simp[hlt]
  repeat first|simp[hlt]|refine sR ?_
  refine sD (hh _ _ _) ?_;simp;by_cases hm:(i:Int)∈keep
  .have hsc:goneB n images keep (i+1)=goneB n images keep i:=if_pos hm
   simp only[hm];repeat first|simp[hw]|refine sR ?_|refine sC ?_
   refine sE ?_;exact⟨i+1,hlt,by omega,wM (nr _) rfl (by simp[ToL,lk]) (by simp[BoxL,lk,hsc])⟩
  .have hsc:goneB n images keep (i+1)=(goneB n images keep i).set images[i].toNat true:=by rw[<-hg];exact if_neg hm
   simp only[hm];repeat first|simp[r1,r2,r3,hgl,hw]|refine sR ?_|refine sC ?_
   refine sE ?_;exact⟨i+1,hlt,by omega,wM (nr _) rfl (by simp[ToL,lk]) (by simp[BoxL,lk,hsc])⟩
 .refine sX ?_;simp only[AU,↓reduceIte];have:i=images.length:=by omega
  subst this;repeat first|simp|refine sR ?_
  refine sN ?_;refine sL (stR2 n images keep nb box) (fun x=>x.i<=n/\TK tok nt x.tok x.nt [x.own]) (fun x=>n-x.i) ⟨0,.full,tok,nt⟩ ⟨Nat.zero_le _,(TK.start Ht).full⟩ (wM (nr _) rfl (by simp[ToL,lk,restX_zero]) (by simp[BoxL,lk])) ?_;rintro⟨i,own,tok',nt'⟩ S ⟨hi,htk⟩ hS;simp only[stR2] at hS hi htk;subst hS;have hw:=sW (i:=i) (by omega);have hsc:=restX_succ (goneI images keep) i;have hlen:=restX_len i (goneI images keep);have hgt:=goneB_get n images keep hr images.length (nr _) i;repeat first|simp|refine sR ?_|refine sC ?_
  refine⟨fun hlt=>?_,fun hge=>?_⟩
  .have hgt:=hgt hlt;have hgl':=goneB_len n images keep images.length
   have hgt:(goneB n images keep images.length)[i]'(by omega)=decide ((i:Int)∈goneI images keep):=by
    have h:(goneB n images keep images.length)[i]?=some ((goneB n images keep images.length)[i]'(by omega)):=List.getElem?_eq_getElem (by omega)
    rw[List.getD_eq_getElem?_getD,h] at hgt;exact hgt
   repeat first|simp[hlt,hgl']|refine sR ?_
   rw[hgt];by_cases hm:(i:Int)∈goneI images keep
   .rw[if_pos hm] at hsc;simp only[hm];refine sC ?_;simp;repeat first|simp[hw]|refine sR ?_
    refine sE ?_;exact⟨⟨i+1,own,tok',nt'⟩,⟨hlt,htk⟩,by simp only;omega,wM htk.le rfl (by simp[ToL,lk,hsc]) (by simp[BoxL,lk])⟩
   .rw[if_neg hm] at hsc;simp only[hm];refine sC ?_;repeat first|simp|refine sR ?_
    refine⟨⟨by omega,htk.live⟩,?_⟩;repeat first|simp[hw]|refine sR ?_
    refine sE ?_;exact⟨⟨i+1,_,_,_⟩,⟨hlt,htk.app⟩,by simp only;omega,wM htk.app.le rfl (by simp[ToL,lk,hsc]) (by simp[BoxL,lk])⟩
  .refine sX ?_;simp only[AU,↓reduceIte];have:i=n:=by omega
   subst this;repeat first|simp|refine sR ?_
   refine sT (sG Hb Ht htk.old htk.le ?_);simp[restX_rest]
theorem cident_c(l g:Gr)(keep m:Mo)(hm:m.Fit)(hk:keep.Fit)(hn:m.nodes.Nodup)(he:m.edges.Nodup):DC 294 [glAv l g keep m] (.tup [.d (.sl 2 []),.d (.sl 2 [])]):=by
 intro tok nt box nb;have i1:=cpairs_c m.nodes keep.nodes hm.n hk.n hn;have i2:=cpairs_c m.edges keep.edges hm.e hk.e he;refine sI func294 ntmps294 fun Hb Ht=>?_
 repeat first|simp|refine sR ?_
 refine sD (i1 _ _) ?_;repeat first|simp|refine sR ?_
 refine sD (i2 _ _) ?_;repeat first|simp|refine sR ?_
 refine sT (sH Hb Ht ?_);simp
theorem ofP_c(l g:Gr)(keep m:Mo)(hl:l.Fit)(hg:g.Fit)(hm:m.Fit)(hk:keep.Fit)(he:Emb l g m)(hp:VP l keep):DC 264 [l.av,g.av,keep.av,m.av] (.tup [(cmpR l g keep m).1.av,I (cmpR l g keep m).2]):=by
 intro tok nt box nb;have h1:=cgiven_c l g keep m hl hg hm hk;rw[he.v,hp.v] at h1;have i1:=cident_c l g keep m hm hk he.n he.e;have hd:=cdangling_c l g keep m hg hm hk;have hda:=dangI_any g keep m;have hgn:=hg.n;have hge:=hg.e;have v:=he.vm;have r1:=crest_c g.nodes.length m.nodes keep.nodes (by omega) hm.n hk.n v.n;have r2:=crest_c g.edges.length m.edges keep.edges (by omega) hm.e hk.e v.e;have w0:IntKind.i64.wrap 0=0:=rfl
 refine sI func264 ntmps264 fun Hb Ht=>?_
 repeat first|simp|refine sR ?_
 refine sD (h1 _ _) ?_;repeat first|simp|refine sR ?_
 refine sC ?_;repeat first|simp|refine sR ?_
 refine sD (i1 _ _) ?_;simp;repeat first|simp[w0]|refine sR ?_
 have hcd:cmpl g keep m=⟨restI g.nodes.length m.nodes keep.nodes,restI g.edges.length m.edges keep.edges⟩:=rfl
 refine sC ?_;repeat first|simp|refine sR ?_
 refine sD (hd _ _) ?_;repeat first|simp|refine sR ?_
 rw[hda];cases hx:dangL g keep m
 .refine sC ?_;repeat first|simp|refine sR ?_
  refine sD (r1 _ _) ?_;repeat first|simp|refine sR ?_
  refine sD (r2 _ _) ?_;repeat first|simp|refine sR ?_
  refine sT (sH Hb Ht ?_);simp[cmpR,hx,hcd]
 .refine sC ?_;repeat first|simp|refine sR ?_
  refine sT (sH Hb Ht ?_);simp[cmpR,hx,ints]
def shE(n:Nat)(e:E):E:=⟨e.ty,e.fr+n,e.to+n⟩
def unG(b c:Gr):Gr:=⟨b.nodes++c.nodes,b.edges++c.edges.map (shE b.nodes.length)⟩
def iotaF(n k:Nat):List Int:=(List.range k).map fun (j:Nat)=>((n+j:Nat):Int)
theorem iotaF_len(n k:Nat):(iotaF n k).length=k:=by simp[iotaF]
theorem iotaF_get{n k j:Nat}(h:j<k):(iotaF n k).getD j 0=((n+j:Nat):Int):=by simp[iotaF,h]
def genX(n:Nat)(x:List Int):List Int:=iota n++(List.range x.length).map fun (j:Nat)=>if x.getD j 0<0 then ((n+j:Nat):Int) else x.getD j 0
theorem iota_len(n:Nat):(iota n).length=n:=by simp[iota]
theorem genX_len(n:Nat)(x:List Int):(genX n x).length=n+x.length:=by simp[genX,iota_len]
theorem genX_lo{n i:Nat}{x:List Int}(h:i<n):(genX n x).getD i 0=i:=by
 unfold genX;rw[getD_pre (by rw[iota_len];exact h)];exact iota_getD h
theorem genX_hi{n j:Nat}{x:List Int}(h:j<x.length):(genX n x).getD (n+j) 0=if x.getD j 0<0 then ((n+j:Nat):Int) else x.getD j 0:=by
 unfold genX;rw[List.getD_eq_getElem?_getD,List.getElem?_append_right (by rw[iota_len];omega),iota_len];simp[h,show n+j-n=j by omega]
def InX(n:Nat)(x:List Int):Prop:=∀j,j<x.length->x.getD j 0<n
theorem genX_part{n:Nat}{x:List Int}(hx:InX n x):PartL (genX n x):=by
 intro i hi;have e:(genX n x)[i]=(genX n x).getD i 0:=by simp[List.getD_eq_getElem?_getD,hi]
 rw[e];rw[genX_len] at hi;by_cases h:i<n
 .rw[genX_lo h];exact⟨by omega,by omega,by rw[Int.toNat_natCast,genX_lo h]⟩
 .obtain⟨j,rfl⟩:∃j,i=n+j:=⟨i-n,by omega⟩
  have hj:j<x.length:=by omega
  rw[genX_hi hj];split
  .rename_i h1;exact⟨by omega,by omega,by rw[Int.toNat_natCast,genX_hi hj,if_pos h1]⟩
  .rename_i h1;have:=hx j hj
   refine⟨by omega,by omega,?_⟩;rw[genX_lo (by omega)];omega
theorem num_lo(n:Nat)(x:List Int):∀i,i<=n->numN (genX n x) i=(iota i,(i:Int))
 | 0,_=>rfl
 | i+1,h=>by
  rw[numN,num_lo n x i (by omega),genX_lo (by omega),if_pos rfl];simp[iota,List.range_succ]
theorem rep_lo{α:Type}(f:Nat->α)(n:Nat)(x:List Int):∀i,i<=n->repG f (genX n x) i=(List.range i).map f
 | 0,_=>rfl
 | i+1,h=>by
  rw[repG,rep_lo f n x i (by omega),genX_lo (by omega),if_pos rfl];simp[List.range_succ]
theorem num_hi{α:Type}[Inhabited α](an bn:List α)(x:List Int)(hx:InX an.length x):∀j,j<=x.length->numN (genX an.length x) (an.length+j)=(iota an.length++(glueG an bn x j).2,((glueG an bn x j).1.length:Int))
 | 0,_=>by
  rw[Nat.add_zero,num_lo _ _ _ (nr _)];simp[glueG]
 | j+1,h=>by
  have ih:=num_hi an bn x hx j (by omega);have hj:j<x.length:=by omega
  rw[<-Nat.add_assoc,numN,ih,genX_hi hj,glueG];by_cases h1:x.getD j 0<0
  .rw[if_pos h1,if_pos h1,if_pos rfl];simp
  .have:=hx j hj
   rw[if_neg h1,if_neg h1,if_neg (by omega)];have e:(iota an.length++(glueG an bn x j).2).getD (x.getD j 0).toNat 0=x.getD j 0:=by
    rw[getD_pre (by rw[iota_len];omega),iota_getD (by omega)];omega
   simp only[e,List.append_assoc]
theorem rep_hi{α:Type}[Inhabited α](an bn:List α)(f:Nat->α)(x:List Int)(hx:InX an.length x)(h0:∀i,i<an.length->f i=an.getD i default)(h1:∀j,j<x.length->f (an.length+j)=bn.getD j default):
  ∀j,j<=x.length->repG f (genX an.length x) (an.length+j)=(glueG an bn x j).1
 | 0,_=>by
  rw[Nat.add_zero,rep_lo _ _ _ _ (nr _),glueG];refine List.ext_getElem (by simp) fun i g1 g2=>?_
  simp only[List.getElem_map,List.getElem_range];rw[h0 i g2];simp[List.getD_eq_getElem?_getD,g2]
 | j+1,h=>by
  have ih:=rep_hi an bn f x hx h0 h1 j (by omega);have hj:j<x.length:=by omega
  rw[<-Nat.add_assoc,repG,ih,genX_hi hj,glueG];by_cases h2:x.getD j 0<0
  .rw[if_pos h2,if_pos h2,if_pos rfl,h1 j hj]
  .have:=hx j hj
   rw[if_neg h2,if_neg h2,if_neg (by omega)]
theorem isM_in{ok:Nat->Nat->Bool}{na nb:Nat}{x:List Int}(h:isM ok na nb x):InX na x:=fun j hj=>by
 rcases h.2 j (by rw[<-h.1];exact hj) with e|⟨k,e,hk,_⟩
 .omega
 .omega
theorem quot_glue{b c:Gr}(hb:EOk b)(hc:EOk c){x es:List Int}(h:isPair b c (x,es)):
  quot (unG b c) (genX b.nodes.length x) (genX b.edges.length es)=⟨(glue b c x es).g,⟨iota b.nodes.length++(glue b c x es).r.nodes,iota b.edges.length++(glue b c x es).r.edges⟩⟩:=by
 obtain⟨h1,h2⟩:=h;simp only at h1 h2;have hx:=isM_in h1;have he:=isM_in h2;have xl:x.length=c.nodes.length:=h1.1
 have el:es.length=c.edges.length:=h2.1
 have n1:=num_hi b.nodes c.nodes x hx x.length (nr _);have gn:glueG b.nodes c.nodes x x.length=glueN b.nodes c.nodes x x.length:=(glueN_G _ _ _ _).symm
 rw[gn] at n1;have er:(glue b c x es).r.nodes=(glueN b.nodes c.nodes x x.length).2:=rfl
 have n2:=num_hi b.edges (c.edges.map (mapE (glue b c x es).r.nodes)) es he es.length (nr _);have ge:glueG b.edges (c.edges.map (mapE (glue b c x es).r.nodes)) es es.length=glueE b.edges c.edges (glue b c x es).r.nodes es es.length:=(glueE_G _ _ _ _ _ (by omega)).symm
 rw[ge] at n2;unfold quot;simp only[genX_len,n1,n2];have r1:repN (unG b c).nodes (genX b.nodes.length x) (b.nodes.length+x.length)=(glue b c x es).g.nodes:=by
  rw[repN_eq,rep_hi b.nodes c.nodes _ x hx (fun i hi=>?_) (fun j hj=>?_) _ (nr _),gn]
  .rfl
  .show (b.nodes++c.nodes).getD i 0=_
   rw[getD_pre hi];rfl
  .show (b.nodes++c.nodes).getD (b.nodes.length+j) 0=_
   rw[List.getD_eq_getElem?_getD,List.getElem?_append_right (by omega),show b.nodes.length+j-b.nodes.length=j by omega,List.getD_eq_getElem?_getD];rfl
 have hrl:(glue b c x es).r.nodes.length=c.nodes.length:=by rw[er,(glueN_len _ _ _ _).2,xl]
 have q1:∀v:Int,0<=v->v<b.nodes.length->(iota b.nodes.length++(glue b c x es).r.nodes).getD v.toNat 0=v:=fun v v0 v1=>by
  rw[getD_pre (by rw[iota_len];omega),iota_getD (by omega)];omega
 have q2:∀v:Int,0<=v->(iota b.nodes.length++(glue b c x es).r.nodes).getD (v+b.nodes.length).toNat 0=(glue b c x es).r.nodes.getD v.toNat 0:=fun v v0=>by
  rw[List.getD_eq_getElem?_getD,List.getElem?_append_right (by rw[iota_len];omega),iota_len,show (v+b.nodes.length).toNat-b.nodes.length=v.toNat by omega,List.getD_eq_getElem?_getD]
 have r2:repE (unG b c).edges (iota b.nodes.length++(glue b c x es).r.nodes) (genX b.edges.length es) (b.edges.length+es.length)=(glue b c x es).g.edges:=by
  rw[repE_eq,rep_hi b.edges (c.edges.map (mapE (glue b c x es).r.nodes)) _ es he (fun i hi=>?_) (fun j hj=>?_) _ (nr _),ge]
  .rfl
  .have e1:(unG b c).edges.getD i default=b.edges.getD i default:=getD_pre hi
   obtain⟨y1,y2,y3,y4⟩:=hb _ (getD_mem (d:=default) hi);rw[edgeAt,e1,q1 _ y1 y2,q1 _ y3 y4]
  .have hjc:j<c.edges.length:=by omega
   have e1:(unG b c).edges.getD (b.edges.length+j) default=shE b.nodes.length (c.edges.getD j default):=by
    show (b.edges++c.edges.map (shE b.nodes.length)).getD (b.edges.length+j) default=_
    rw[List.getD_eq_getElem?_getD,List.getElem?_append_right (by omega),show b.edges.length+j-b.edges.length=j by omega];simp[hjc]
   have e2:(c.edges.map (mapE (glue b c x es).r.nodes)).getD j default=mapE (glue b c x es).r.nodes (c.edges.getD j default):=by simp[hjc]
   obtain⟨y1,y2,y3,y4⟩:=hc _ (getD_mem (d:=default) hjc);rw[edgeAt,e1,e2];simp only[shE,mapE];rw[q2 _ y1,q2 _ y3]
 rw[<-er,r1,r2];rfl
theorem unG_ok{b c:Gr}(hb:EOk b)(hc:EOk c):EOk (unG b c):=fun e he=>by
 have hl:(unG b c).nodes.length=b.nodes.length+c.nodes.length:=by simp[unG]
 rw[hl];rcases List.mem_append.1 he with he|he
 .have:=hb e he;omega
 .obtain⟨y,hy,rfl⟩:=List.mem_map.1 he;have:=hc y hy
  simp only[shE];omega
theorem byK_lo{n:Nat}{r:List Int}:byK (iota n) (iota n++r) (iota n).length=iota n:=byK_ext rfl fun i hi=>by
 rw[iota_len] at hi;rw[iota_getD hi,Int.toNat_natCast,getD_pre (by rw[iota_len];exact hi),iota_getD hi]
theorem byK_hi{n:Nat}{r:List Int}:byK (iotaF n r.length) (iota n++r) (iotaF n r.length).length=r:=byK_ext (iotaF_len _ _) fun i hi=>by
 rw[iotaF_len] at hi;rw[iotaF_get hi,Int.toNat_natCast,List.getD_eq_getElem?_getD,List.getElem?_append_right (by rw[iota_len];omega),iota_len,show n+i-n=i by omega,List.getD_eq_getElem?_getD]
theorem to_mslk{p q:Nat->Prop}{fz:Option (Nat × Nat × List (List D))}{k off n sz:Nat}(h:p k):To p q fz (.msl k off n sz) (.msl k off n sz):=.same (.msl h)
def stRt(L:List Int)(i:Nat)(v:Int)(nb:Nat)(box:Bxs)(tok:Tks)(nt:Nat)(a:Nat):AS:=⟨tl [(4,I 0),(0,.d (ints L)),(1,I (if a=0 then (i:Int) else v))],lb nb box [],tok,nt⟩
theorem root_c(L:List Int)(i:Nat)(hi:i<L.length)(hl:L.length<=1000000)(hp:PartL L):DC 348 [.d (ints L),I i] (I L[i]):=by
 intro tok nt box nb;obtain⟨p1,p2,p3⟩:=hp i hi;have hg:L.getD i 0=L[i]:=by simp[hi]
 refine sI func348 ntmps348 fun Hb Ht=>?_
 repeat first|simp|refine sR ?_
 refine sN ?_;have hli:L[i].toNat<L.length:=by omega
 have hgl:L[L[i].toNat]=L[i]:=by
  rw[List.getD_eq_getElem?_getD,List.getElem?_eq_getElem hli] at p3;exact p3
 refine sL (stRt L i L[i] nb box tok nt) (fun a=>a<=1) (fun a=>1-a) 0 (Nat.zero_le _) (wM (nr _) rfl (by simp[ToL,lk]) trivial) ?_;rintro a S ha hS;simp only[stRt] at hS;subst hS;by_cases ea:a=0
 .subst ea;simp only[↓reduceIte];repeat first|simp[hi]|refine sR ?_
  by_cases he:L[i]=i
  .have b0:(L[i] != (i:Int))=false:=by simp[he]
   simp only[b0];refine sC ?_;simp;refine sX ?_;simp only[AU,↓reduceIte];repeat first|simp|refine sR ?_
   refine sT (sH Hb Ht ?_);simp[he]
  .have b0:(L[i] != (i:Int))=true:=by simp[he]
   simp only[b0];refine sC ?_;simp;repeat first|simp[hi]|refine sR ?_
   refine sE ?_;exact⟨1,nr _,by omega,wM (nr _) rfl (by simp[ToL,lk]) trivial⟩
 .simp only[ea,↓reduceIte];repeat first|simp[p1,hli,hgl]|refine sR ?_
  refine⟨by omega,?_⟩;refine sC ?_;simp;refine sX ?_;simp only[AU,↓reduceIte];repeat first|simp|refine sR ?_
  refine sT (sH Hb Ht ?_);simp
theorem rootM_c(L:List Int)(i:Nat)(hi:i<L.length)(hl:L.length<=1000000)(hp:PartL L)(box:Bxs)(k:Nat)(hk:box k=some (rowsI L))(tok:Tks)(nt:Nat):
  RCall prog 348 [.msl k 0 L.length 1,I i] box tok nt (I L[i]) tok nt:=by
 refine RCall.lent rfl (root_c L i hi hl hp tok nt) ⟨?_,.same .d,trivial⟩;have h:(rI L).length=L.length:=by simp
 have h2:box k=some (rowsD (rI L)):=by rw[hk,rowsI_eq]
 have:=Bo.msl (sz:=1) h2
 rw[h] at this;exact this
def QIs(L:List Int)(k:Nat)(box:Bxs)(nb:Nat)(tok:Tks)(nt:Nat)(r v:AV)(m:AMem):Prop:=v=r/\m=⟨upd box k (some (rowsI L)),nb,tok,nt⟩
theorem outIs{L:List Int}{box:Bxs}{k base:Nat}{p q:Nat->Prop}:∀k' rows,k'<base->(upd box k (some (rowsI L))) k'=some rows->box k'=some rows∨∀r∈rows,∀x∈r,OkIn p q x:=by
 intro k' rows hk' hr;by_cases e:k'=k
 .subst e;rw[uS] at hr;cases hr;refine .inr fun r hr x hx=>?_
  simp only[rowsI,List.mem_map] at hr;obtain⟨n,_,rfl⟩:=hr;simp only[List.mem_singleton] at hx;subst hx;exact .d
 .rw[uO _ _ e] at hr;exact .inl hr
def uniL(L:List Int)(a b:Nat):List Int:=L.set (max (L.getD a 0) (L.getD b 0)).toNat (min (L.getD a 0) (L.getD b 0))
theorem unite_c(L:List Int)(a b:Nat)(ha:a<L.length)(hb:b<L.length)(hl:L.length<=1000000)(hp:PartL L)(box:Bxs)(k:Nat)(hk:box k=some (rowsI L))(nb:Nat)(tok:Tks)(nt:Nat):
  ACalls prog 345 [.msl k 0 L.length 1,I a,I b] ⟨box,nb,tok,nt⟩ (QIs (uniL L a b) k box nb tok nt (.tup [])):=by
 have hrb:=fun (box':Bxs) hb'=>rootM_c L b hb hl hp box' k hb'
 have hra:=fun (box':Bxs) hb'=>rootM_c L a ha hl hp box' k hb'
 refine sI func345 ntmps345 fun Hb Ht=>?_
 have kn:=key_lt Hb hk;repeat first|simp|refine sR ?_
 refine Stop.of_r (hra _ (by simp only;rw[lO kn];exact hk) _ _) ?_;simp;refine Stop.of_r (hrb _ (by simp only;rw[lO kn];exact hk) _ _) ?_;obtain⟨a1,a2,a3⟩:=hp a ha;obtain⟨b1,b2,b3⟩:=hp b hb;have ga:L.getD a 0=L[a]:=by simp[ha]
 have gb:L.getD b 0=L[b]:=by simp[hb]
 have hu:uniL L a b=L.set (max L[a] L[b]).toNat (min L[a] L[b]):=by rw[uniL,ga,gb]
 have m0:0<=max L[a] L[b]:=by omega
 have m1:max L[a] L[b]<L.length:=by omega
 have m2:(max L[a] L[b]).toNat<L.length:=by omega
 simp;repeat first|simp[m0,m1,m2,lO kn,hk,uL kn]|refine sR ?_
 refine sE ?_;refine⟨by simp,(Fin.gen (vs:=[]) (av:=.tup []) (tok':=tok) (nt':=nt) (by simp[resAs,resA]) (by rw[<-uL kn,Hb]) (nr _) (nr _) (fun t h=>⟨h,.inl rfl⟩) outIs (by simp)).mono fun v M hq=>⟨hq.1,by rw[hq.2,hu]⟩⟩
def stFl(L:List Int)(k nb:Nat)(box:Bxs)(tok:Tks)(nt:Nat)(i:Nat):AS :=
 ⟨tl [(6,I i),(5,I L.length),(2,.osl 0 [] .full),(0,.msl k 0 L.length 1)],lb nb box [],tok,nt⟩
theorem flat_c(L:List Int)(hl:L.length<=1000000)(hp:PartL L)(box:Bxs)(k:Nat)(hk:box k=some (rowsI L))(nb:Nat)(tok:Tks)(nt:Nat):
  ACalls prog 346 [.msl k 0 L.length 1] ⟨box,nb,tok,nt⟩ (QIs L k box nb tok nt (.msl k 0 L.length 1)):=by
 have hrt:=fun (i:Nat) (hi:i<L.length) (box':Bxs) hb'=>rootM_c L i hi hl hp box' k hb'
 refine sI func346 ntmps346 fun Hb Ht=>?_
 have kn:=key_lt Hb hk;repeat first|simp|refine sR ?_
 refine sN ?_;have hbx:upd box k (some (rowsI L))=box:=by
  funext j
  by_cases e:j=k
  .subst e;rw[uS,hk]
  .rw[uO _ _ e]
 refine sL (stFl L k nb box tok nt) (fun i=>i<=L.length) (fun i=>L.length-i) 0 (Nat.zero_le _) (wM (nr _) rfl (by simp[ToL,lk];exact to_mslk (by rw[lO kn,hk];simp)) trivial) ?_;rintro i S hi hS;simp only[stFl] at hS;subst hS;have hw:=sW (i:=i) (by omega);repeat first|simp|refine sR ?_|refine sC ?_
 refine⟨fun hlt=>?_,fun hge=>?_⟩
 .repeat first|simp|refine sR ?_
  refine Stop.of_r (hrt i hlt _ (by simp only;rw[lO kn];exact hk) _ _) ?_;have hs:upd box k (some (rowsI (L.set i L[i])))=box:=by rw[List.set_getElem_self,hbx]
  simp[lO kn,hk,uL kn,hlt,hbx];repeat first|simp[hw]|refine sR ?_
  refine sE ?_;exact⟨i+1,hlt,by omega,wM (nr _) rfl (by simp[ToL,lk];exact to_mslk (by rw[lO kn,hk];simp)) trivial⟩
 .refine sX ?_;simp only[AU,↓reduceIte];have:i=L.length:=by omega
  subst this;repeat first|simp|refine sR ?_
  refine sT ?_;try simp only[AU]
  refine⟨by simp,(Fin.gen (av:=.msl k 0 L.length 1) (tok':=tok) (nt':=nt) (by simp[resAs,resA];rfl) Hb (nr _) (nr _) (fun t h=>⟨h,.inl rfl⟩) (fun k rows _ h=>.inl h) (by simp;exact to_mslk (by rw[lO kn,hk];simp))).mono fun v M hq=>⟨hq.1,by rw[hq.2,hbx]⟩⟩
def stFn0(n:Nat)(nb:Nat)(box:Bxs)(tok:Tks)(nt:Nat)(i:Nat):AS:=⟨tl [(9,I i),(8,I n),(3,.msl (nb+6) 0 n 1)],lb nb box [(6,rowsI (upto n i))],tok,nt⟩
theorem finestP_c(n:Nat)(hn:n<=1000000)(tok:Tks)(nt:Nat):DCall prog 344 [I n] tok nt (.ex nt 1 (rI (iota n))) (upd tok nt true) (nt+1):=by
 intro box nb;refine sI func344 ntmps344 fun Hb Ht=>?_
 repeat first|simp|refine sR ?_
 refine⟨by omega,?_⟩;repeat first|simp|refine sR ?_
 refine sN ?_;refine sL (stFn0 n nb box tok nt) (fun i=>i<=n) (fun i=>n-i) 0 (Nat.zero_le _) wkA ?_;rintro i S hi hS;simp only[stFn0] at hS;subst hS;have hw:=sW (i:=i) (by omega);refine sR ?_;simp;refine sC ?_;simp;refine⟨fun hlt=>?_,fun hge=>?_⟩
 .refine sR ?_;simp;refine sR ?_;simp[hlt,hi];refine sR ?_;simp[hw];refine sE ?_;refine⟨i+1,hlt,by omega,wM (nr _) rfl (by simp[ToL,lk]) (by simp[BoxL,lk,iota_set hlt])⟩
 .refine sX ?_;simp only[AU,↓reduceIte];have:i=n:=by omega
  subst this;refine AL.weak (wM (l':=[(3,.msl (nb+6) 0 i 1)]) (loc':=[(6,rowsI (iota i))]) (nr _) rfl (by simp[ToL,lk]) (by simp[BoxL,lk])) ?_;refine AL.trans (Trans.sealI (l':=[(3,.ex nt 1 (rI (iota i)))]) (loc:=[]) (loc':=[]) 6 (iota i) 3 rfl (nr _) (by rw[iota_len];rfl) rfl ⟨rfl,seTo_mslI (iota_len i).symm,trivial⟩ trivial) ?_;refine sR ?_;simp;refine sT ?_;try simp only[AU]
  refine⟨by simp,Fin.gen (by simp[resAs,resA];rfl) Hb (by omega) (nr _) (fun t ht=>⟨?_,.inl rfl⟩) (fun k rows _ h=>.inl h) (by simp)⟩;by_cases e:t=nt
  .subst e;exact uS _ _ _
  .rw[uO _ _ e] at ht ⊢;exact ht
def pickN(ns:List Int)(js:List Int)(i:Nat):List Int:=(js.take i).map fun j=>ns.getD j.toNat 0
@[simp] theorem pickN_len(l h:List Int)(i:Nat):(pickN l h i).length=min i h.length:=by simp[pickN]
def pickE(es:List E)(ns js:List Int)(i:Nat):List E:=(js.take i).map fun j=>⟨(es.getD j.toNat default).ty,indexI ns (es.getD j.toNat default).fr,indexI ns (es.getD j.toNat default).to⟩
@[simp] theorem pickE_len(l:List E)(ns h:List Int)(i:Nat):(pickE l ns h i).length=min i h.length:=by simp[pickE]
def rkK(ns:List Int)(bit:Nat->Bool):Nat->List Int
 | 0=>[]
 | i+1=>if bit i=true then rkK ns bit i++[((chN ns bit i).1.length:Int)] else rkK ns bit i++[0]
def rkR(ns:List Int)(bit:Nat->Bool)(n i:Nat):List Int:=rkK ns bit i++List.replicate (n-i) 0
theorem rkK_len(ns:List Int)(bit:Nat->Bool):∀i,(rkK ns bit i).length=i
 | 0=>rfl
 | i+1=>by
  simp only[rkK];split<;>simp[rkK_len ns bit i]
@[simp] theorem rkR_len(ns:List Int)(bit:Nat->Bool){n i:Nat}(h:i<=n):(rkR ns bit n i).length=n:=by simp[rkR,rkK_len];omega
def sameAt(a b:List Int)(i k:Nat):Bool:=decide (a.getD i 0=a.getD k 0)==decide (b.getD i 0=b.getD k 0)
def mrgK(l:List Int)(lo hi:Int)(i:Nat):List Int:=(l.take i).map fun k=>if k=hi then lo else k
theorem mrgK_zero(l:List Int)(lo hi:Int):mrgK l lo hi 0=[]:=by simp[mrgK]
@[simp] theorem mrgK_len(l:List Int)(lo hi:Int)(i:Nat):(mrgK l lo hi i).length=min i l.length:=by simp[mrgK]
theorem mrgK_succ(l:List Int)(lo hi:Int){i:Nat}(h:i<l.length):mrgK l lo hi (i+1)=mrgK l lo hi i++[if l[i]=hi then lo else l[i]]:=by simp only[mrgK,List.take_add_one,List.getElem?_eq_getElem h,Option.toList,List.map_append,List.map_cons,List.map_nil]
def st73(l:List Int)(lo hi:Int)(nb:Nat)(box:Bxs)(x:Acc):AS :=
 ⟨tl [(0,.d (ints l)),(7,I lo),(8,I hi),(9,.osl 1 (rI (mrgK l lo hi x.i)) x.own),(10,I x.i)],lb nb box [],x.tok,x.nt⟩
theorem merge73_c(l:List Int)(a b:Nat)(ha:a<l.length)(hb:b<l.length)(hl:l.length<=80):DC 253 [.d (ints l),I a,I b] (.d (ints (mrgK l (min l[a] l[b]) (max l[a] l[b]) l.length))):=by
 intro tok nt box nb;refine sI func253 ntmps253 fun Hb Ht=>?_
 refine sR ?_;simp;refine sR ?_;simp[ha,hb];generalize min l[a] l[b]=lo;generalize max l[a] l[b]=hg;refine sR ?_;simp;refine sR ?_;simp;refine sN ?_;refine sL (st73 l lo hg nb box) (fun x=>x.i<=l.length/\TK tok nt x.tok x.nt [x.own]) (fun x=>l.length-x.i) ⟨0,.full,tok,nt⟩ ⟨Nat.zero_le _,(TK.start Ht).full⟩ (wM (nr _) rfl (by simp[ToL,mrgK_zero]) trivial) ?_;rintro⟨i,own,tok',nt'⟩ S ⟨hi,htk⟩ hS;simp only[st73] at hS hi htk;subst hS;have hw:=sW (i:=i) (by omega);refine sR ?_;simp;refine sC ?_;simp;refine⟨fun hlt=>?_,fun hge=>?_⟩
 .have hS:=mrgK_succ l lo hg hlt;refine sR ?_;simp[hlt];refine sR ?_;simp;refine sC ?_;simp;refine⟨fun he=>?_,fun hne=>?_⟩
  .refine sR ?_;simp;refine sR ?_;simp;refine⟨⟨by omega,htk.live⟩,?_⟩;refine sR ?_;simp[hw];refine sE ?_;refine⟨⟨i+1,_,_,_⟩,⟨hlt,htk.app⟩,by simp;omega,wM htk.app.le rfl (by simp[ToL,hS,he]) trivial⟩
  .refine sR ?_;simp;refine⟨⟨by omega,htk.live⟩,?_⟩;refine sR ?_;simp[hw];refine sE ?_;refine⟨⟨i+1,_,_,_⟩,⟨hlt,htk.app⟩,by simp;omega,wM htk.app.le rfl (by simp[ToL,hS,hne]) trivial⟩
 .refine sX ?_;simp only[AU,↓reduceIte];have:i=l.length:=by omega
  subst this;refine sR ?_;simp;refine sT (sG Hb Ht htk.old htk.le ?_);simp
def preK(l:List Int)(i:Nat):List Int:=l.take i
@[simp] theorem preK_len(l:List Int)(i:Nat):(preK l i).length=min i l.length:=by simp[preK]
structure Mt (n1 n2:Nat) (F G:List Int):Prop where
 l:F.length=G.length
 f:F.Nodup
 g:G.Nodup
 rf:∀x∈F,0<=x/\x<n1
 rg:∀x∈G,0<=x/\x<n2
def gnK(n1 n2:Nat)(F G:List Int)(i:Nat):List Int:=genX n1 (mtI (F.take i) (G.take i) n2)
theorem gnK_len(n1 n2:Nat)(F G:List Int)(i:Nat):(gnK n1 n2 F G i).length=n1+n2:=by rw[gnK,genX_len,mtI_len]
theorem gnK_zero(n1 n2:Nat)(F G:List Int):gnK n1 n2 F G 0=iota (n1+n2):=by
 refine ext_getD (by rw[gnK_len,iota_len]) fun t ht=>?_
 rw[gnK_len] at ht;rw[iota_getD ht,gnK];by_cases h:t<n1
 .rw[genX_lo h]
 .obtain⟨j,rfl⟩:∃j,t=n1+j:=⟨t-n1,by omega⟩
  have hj:j<n2:=by omega
  rw[genX_hi (by rw[mtI_len];exact hj)];rcases mtI_cases (F:=F.take 0) (G:=G.take 0) hj with ⟨e,_⟩|⟨q,hq,_⟩
  .rw[e,if_pos (by omega)]
  .simp at hq
theorem take_gd{l:List Int}{i q:Nat}(h:q<i):(l.take i).getD q 0=l.getD q 0:=by
 simp only[List.getD_eq_getElem?_getD,List.getElem?_take,h,↓reduceIte]
theorem mtI_step{n1 n2:Nat}{F G:List Int}(h:Mt n1 n2 F G){i:Nat}(hi:i<F.length){j:Nat}(hj:j<n2):
  (mtI (F.take (i+1)) (G.take (i+1)) n2).getD j 0=if (j:Int)=G.getD i 0 then F.getD i 0 else (mtI (F.take i) (G.take i) n2).getD j 0:=by
 have hgi:i<G.length:=by rw[<-h.l];exact hi
 have inT:∀q k,q<k->q<G.length->G.getD q 0∈G.take k:=fun q k hq hl=>by
  have:=getD_mem (r:=G.take k) (d:=0) (j:=q) (by rw[List.length_take];omega)
  rwa [take_gd hq] at this
 rcases mtI_cases (F:=F.take (i+1)) (G:=G.take (i+1)) hj with ⟨e,hn⟩|⟨q,hq,h2,h3⟩
 .have hne:¬(j:Int)=G.getD i 0:=fun e=>hn (by rw[e];exact inT i (i+1) (by omega) hgi)
  rw[if_neg hne,e];rcases mtI_cases (F:=F.take i) (G:=G.take i) hj with ⟨e',_⟩|⟨q,hq,h2,h3⟩
  .exact e'.symm
  .rw[List.length_take] at hq;rw[take_gd (by omega)] at h2;exact absurd (by rw[<-h2];exact inT q (i+1) (by omega) (by omega)) hn
 .rw[List.length_take] at hq;rw[take_gd (by omega)] at h2;rw[take_gd (by omega)] at h3;rw[h3];by_cases e:q=i
  .subst e;rw[if_pos h2.symm]
  .have hne:¬(j:Int)=G.getD i 0:=fun e2=>e (getD_inj h.g (by omega) hgi (h2.trans e2))
   rw[if_neg hne];rcases mtI_cases (F:=F.take i) (G:=G.take i) hj with ⟨_,hn⟩|⟨q',hq',h2',h3'⟩
   .exact absurd (by rw[<-h2];exact inT q i (by omega) (by omega)) hn
   .rw[List.length_take] at hq';rw[take_gd (by omega)] at h2' h3';have:=getD_inj h.g (show q'<G.length by omega) (by omega) (h2'.trans h2.symm)
    subst this;exact h3'.symm
theorem gnK_in{n1 n2:Nat}{F G:List Int}(h:Mt n1 n2 F G)(i:Nat):InX n1 (mtI (F.take i) (G.take i) n2):=fun j hj=>by
 rw[mtI_len] at hj;rcases mtI_cases (F:=F.take i) (G:=G.take i) hj with ⟨e,_⟩|⟨q,hq,_,h3⟩
 .omega
 .rw[h3,List.length_take] at *;have:=h.l
  rw[take_gd (by omega)];have:=h.rf _ (getD_mem (d:=0) (show q<F.length by omega))
  omega
theorem gnK_part{n1 n2:Nat}{F G:List Int}(h:Mt n1 n2 F G)(i:Nat):PartL (gnK n1 n2 F G i):=genX_part (gnK_in h i)
theorem gnK_step{n1 n2:Nat}{F G:List Int}(h:Mt n1 n2 F G){i:Nat}(hi:i<F.length){t:Nat}(ht:t<n1+n2):
  (gnK n1 n2 F G (i+1)).getD t 0=if (t:Int)=n1+G.getD i 0 then F.getD i 0 else (gnK n1 n2 F G i).getD t 0:=by
 have rg:=h.rg _ (getD_mem (d:=0) (show i<G.length by rw[<-h.l];exact hi));have rf:=h.rf _ (getD_mem (d:=0) hi);unfold gnK;by_cases hl:t<n1
 .rw[genX_lo hl,genX_lo hl,if_neg (by omega)]
 .obtain⟨j,rfl⟩:∃j,t=n1+j:=⟨t-n1,by omega⟩
  have hj:j<n2:=by omega
  rw[genX_hi (by rw[mtI_len];exact hj),genX_hi (by rw[mtI_len];exact hj),mtI_step h hi hj];by_cases e:(j:Int)=G.getD i 0
  .rw[if_pos e,if_neg (show ¬F.getD i 0<0 by omega),if_pos (show ((n1+j:Nat):Int)=n1+G.getD i 0 by omega)]
  .rw[if_neg e,if_neg (show ¬((n1+j:Nat):Int)=n1+G.getD i 0 by omega)]
theorem gnK_a{n1 n2:Nat}{F G:List Int}(h:Mt n1 n2 F G){i:Nat}(hi:i<F.length):(gnK n1 n2 F G i).getD (F.getD i 0).toNat 0=F.getD i 0:=by
 have rf:=h.rf _ (getD_mem (d:=0) hi);rw[gnK,genX_lo (by omega)];omega
theorem gnK_b{n1 n2:Nat}{F G:List Int}(h:Mt n1 n2 F G){i:Nat}(hi:i<F.length):(gnK n1 n2 F G i).getD (n1+G.getD i 0).toNat 0=n1+G.getD i 0:=by
 have hgi:i<G.length:=by rw[<-h.l];exact hi
 have rg:=h.rg _ (getD_mem (d:=0) hgi);have e:(n1+G.getD i 0).toNat=n1+(G.getD i 0).toNat:=by omega
 rw[e,gnK,genX_hi (by rw[mtI_len];omega)];rcases mtI_cases (F:=F.take i) (G:=G.take i) (show (G.getD i 0).toNat<n2 by omega) with ⟨e',_⟩|⟨q,hq,h2,h3⟩
 .rw[e',if_pos (by omega)];omega
 .rw[List.length_take] at hq;rw[take_gd (by omega)] at h2;have:=getD_inj h.g (show q<G.length by omega) hgi (by omega)
  omega
theorem gnK_uni{n1 n2:Nat}{F G:List Int}(h:Mt n1 n2 F G){i:Nat}(hi:i<F.length):uniL (gnK n1 n2 F G i) (F.getD i 0).toNat (n1+G.getD i 0).toNat=gnK n1 n2 F G (i+1):=by
 have rg:=h.rg _ (getD_mem (d:=0) (show i<G.length by rw[<-h.l];exact hi));have rf:=h.rf _ (getD_mem (d:=0) hi);rw[uniL,gnK_a h hi,gnK_b h hi,show max (F.getD i 0) (n1+G.getD i 0)=n1+G.getD i 0 by omega,show min (F.getD i 0) (n1+G.getD i 0)=F.getD i 0 by omega];refine ext_getD (by rw[List.length_set,gnK_len,gnK_len]) fun t ht=>?_
 rw[List.length_set,gnK_len] at ht;rw[gnK_step h hi ht];have hl:=gnK_len n1 n2 F G i;by_cases e:(t:Int)=n1+G.getD i 0
 .rw[if_pos e];have:(n1+G.getD i 0).toNat=t:=by omega
  rw[this,List.getD_eq_getElem?_getD,List.getElem?_set_self (by omega)];rfl
 .rw[if_neg e,List.getD_eq_getElem?_getD,List.getElem?_set_ne (by omega),<-List.getD_eq_getElem?_getD]
theorem gnK_mrg{n1 n2:Nat}{F G:List Int}(h:Mt n1 n2 F G){i:Nat}(hi:i<F.length):mrgK (gnK n1 n2 F G i) (F.getD i 0) (n1+G.getD i 0) (n1+n2)=gnK n1 n2 F G (i+1):=by
 have hgi:i<G.length:=by rw[<-h.l];exact hi
 have rg:=h.rg _ (getD_mem (d:=0) hgi);have rf:=h.rf _ (getD_mem (d:=0) hi);have hl:=gnK_len n1 n2 F G i;refine ext_getD (by rw[mrgK,List.length_map,List.length_take,gnK_len,gnK_len];omega) fun t ht=>?_
 rw[mrgK,List.length_map,List.length_take,gnK_len] at ht;have ht':t<n1+n2:=by omega
 rw[gnK_step h hi ht',mrgK,List.take_of_length_le (by omega)];have e0:((gnK n1 n2 F G i).map fun k=>if k=n1+G.getD i 0 then F.getD i 0 else k).getD t 0=if (gnK n1 n2 F G i).getD t 0=n1+G.getD i 0 then F.getD i 0 else (gnK n1 n2 F G i).getD t 0:=by
  simp only[List.getD_eq_getElem?_getD,List.getElem?_map,List.getElem?_eq_getElem (show t<(gnK n1 n2 F G i).length by omega),Option.map_some,Option.getD_some]
 rw[e0];by_cases e:(t:Int)=n1+G.getD i 0
 .have hb:=gnK_b h hi;have:(n1+G.getD i 0).toNat=t:=by omega
  rw[this] at hb;rw[if_pos e,if_pos hb]
 .rw[if_neg e,if_neg];intro e2
  -- what lies at t is t,or lies below
  by_cases hlo:t<n1
  .rw[gnK,genX_lo hlo] at e2;omega
  .obtain⟨j,rfl⟩:∃j,t=n1+j:=⟨t-n1,by omega⟩
   have hj:j<n2:=by omega
   have hin:=gnK_in h i j (by rw[mtI_len];exact hj);rw[gnK,genX_hi (by rw[mtI_len];exact hj)] at e2;split at e2<;>omega
theorem gnK_all{n1 n2:Nat}{F G:List Int}(h:F.length=G.length):gnK n1 n2 F G F.length=genX n1 (mtI F G n2):=by
 rw[gnK,List.take_length,h,List.take_length]
abbrev prs(l:List (Int × Int)):D:=.sl 2 (l.map fun p=>[D.raw (.int .i64 p.1),D.raw (.int .i64 p.2)])
def prK(n1:Nat)(F G:List Int)(i:Nat):List (Int × Int):=(List.range i).map fun (j:Nat)=>(F.getD j 0,(n1:Int)+G.getD j 0)
theorem prK_len(n1:Nat)(F G:List Int)(i:Nat):(prK n1 F G i).length=i:=by simp[prK]
theorem prK_succ(n1:Nat)(F G:List Int)(i:Nat):prK n1 F G (i+1)=prK n1 F G i++[(F.getD i 0,(n1:Int)+G.getD i 0)]:=by simp[prK,List.range_succ]
theorem prK_get{n1:Nat}{F G:List Int}{i n:Nat}(h:i<n):(prK n1 F G n)[i]'(by rw[prK_len];exact h)=(F.getD i 0,(n1:Int)+G.getD i 0):=by simp[prK]
def stGc(N:Int)(ps:List (Int × Int))(nb:Nat)(box:Bxs)(tok:Tks)(nt:Nat)(i:Nat):AS:=⟨tl [(6,I i),(5,I 0),(4,.osl 0 [] .full),(0,I N),(1,.d (prs ps))],lb nb box [],tok,nt⟩
def stGd(L:List Int)(ps:List (Int × Int))(nb:Nat)(box:Bxs)(tok:Tks)(nt:Nat)(i:Nat):AS:=⟨tl [(8,I i),(7,.d (ints L)),(5,I 0),(4,.osl 0 [] .full),(1,.d (prs ps))],lb nb box [],tok,nt⟩
structure PsOk (n1 n2:Nat) (F G:List Int) (ps:List (Int × Int)):Prop where
 len:ps.length=F.length
 few:F.length<=80
 a:∀i (h:i<ps.length),ps[i].1=F.getD i 0
 b:∀i (h:i<ps.length),ps[i].2=(n1:Int)+G.getD i 0
 r:∀i (h:i<ps.length),0<=ps[i].1/\ps[i].1<n1/\n1<=ps[i].2/\ps[i].2<((n1+n2:Nat):Int)
theorem psOk{n1 n2:Nat}{F G:List Int}(h:Mt n1 n2 F G)(hn:n1+n2<=80):PsOk n1 n2 F G (prK n1 F G F.length):=by
 refine⟨prK_len _ _ _ _,?_,fun i hi=>?_,fun i hi=>?_,fun i hi=>?_⟩
 .have:=nodup_le F (iota n1) h.f fun x hx=>by
   have:=h.rf x hx
   simp only[iota,List.mem_map,List.mem_range];exact⟨x.toNat,by omega,by omega⟩
  rw[iota_len] at this;omega
 .rw[prK_len] at hi;rw[prK_get hi]
 .rw[prK_len] at hi;rw[prK_get hi]
 .rw[prK_len] at hi;rw[prK_get hi];have rg:=h.rg _ (getD_mem (d:=0) (show i<G.length by rw[<-h.l];exact hi));have rf:=h.rf _ (getD_mem (d:=0) hi);exact⟨by omega,by omega,by simp only;omega,by simp only;omega⟩
theorem generate02_c(n1 n2:Nat)(F G:List Int)(h:Mt n1 n2 F G)(hn:n1+n2<=80):DC 205 [I ((n1+n2:Nat):Int),.d (prs (prK n1 F G F.length))] (.tup [.d (ints (genX n1 (mtI F G n2))),I 0]):=by
 intro tok nt box nb;have hf:=finest_c (n1+n2) (by omega);rw[<-gnK_zero n1 n2 F G] at hf;have hk:¬(80:Int)<((n1+n2:Nat):Int):=by omega
 have hk2:¬((n1+n2:Nat):Int)<0:=by omega
 have P:=psOk h hn;have hRf:genX n1 (mtI F G n2)=gnK n1 n2 F G F.length:=(gnK_all h.l).symm
 generalize prK n1 F G F.length=ps at *;have hNv:((n1+n2:Nat):Int)=(n1:Int)+n2:=by omega
 have pl:=P.len;have pf:=P.few;rw[hRf];generalize hN:((n1+n2:Nat):Int)=N at *;refine sI func205 ntmps205 fun Hb Ht=>?_
 repeat first|simp[hk,hk2]|refine sR ?_
 refine sC ?_;simp;repeat first|simp[hk2]|refine sR ?_
 refine sC ?_;repeat first|simp|refine sR ?_
 refine sN ?_;refine sL (stGc N ps nb box tok nt) (fun i=>i<=ps.length) (fun i=>ps.length-i) 0 (Nat.zero_le _) (wM (nr _) rfl (by simp[ToL,lk]) trivial) ?_;rintro i S hi hS;simp only[stGc] at hS;subst hS;have hw:=sW (i:=i) (by omega);repeat first|simp|refine sR ?_|refine sC ?_
 refine⟨fun hlt=>?_,fun hge=>?_⟩
 .obtain⟨p1,p2,p3,p4⟩:=P.r i hlt;have q1:¬ps[i].1<0:=by omega
  have q2:¬N<=ps[i].1:=by omega
  have q3:¬ps[i].2<0:=by omega
  have q4:¬N<=ps[i].2:=by omega
  repeat first|simp[hlt,q1,q2,q3,q4]|refine sR ?_
  refine sC ?_;simp;repeat first|simp[hw]|refine sR ?_
  refine sE ?_;exact⟨i+1,hlt,by omega,wM (nr _) rfl (by simp[ToL,lk]) trivial⟩
 .refine sX ?_;simp only[AU,↓reduceIte];repeat first|simp|refine sR ?_
  refine sD (hf _ _) ?_;repeat first|simp|refine sR ?_
  refine sN ?_;refine sL (fun i=>stGd (gnK n1 n2 F G i) ps nb box tok nt i) (fun i=>i<=ps.length) (fun i=>ps.length-i) 0 (Nat.zero_le _) (wM (nr _) rfl (by simp[ToL,lk]) trivial) ?_;rintro i S hi hS;simp only[stGd] at hS;subst hS;have hw:=sW (i:=i) (by omega);repeat first|simp|refine sR ?_|refine sC ?_
  refine⟨fun hlt=>?_,fun hge=>?_⟩
  .obtain⟨p1,p2,p3,p4⟩:=P.r i hlt;have hiF:i<F.length:=by omega
   have hln:=gnK_len n1 n2 F G i;have hm:=merge73_c (gnK n1 n2 F G i) ps[i].1.toNat ps[i].2.toNat (by omega) (by omega) (by omega);have ga:=gnK_a h hiF;have gb:=gnK_b h hiF;rw[<-P.a i hlt] at ga;rw[<-P.b i hlt] at gb;have ga':(gnK n1 n2 F G i)[ps[i].1.toNat]'(by omega)=ps[i].1:=by
    rw[List.getD_eq_getElem?_getD,List.getElem?_eq_getElem (by omega)] at ga;exact ga
   have gb':(gnK n1 n2 F G i)[ps[i].2.toNat]'(by omega)=ps[i].2:=by
    rw[List.getD_eq_getElem?_getD,List.getElem?_eq_getElem (by omega)] at gb;exact gb
   rw[ga',gb',show min ps[i].1 ps[i].2=ps[i].1 by omega,show max ps[i].1 ps[i].2=ps[i].2 by omega,hln,show ((ps[i].1.toNat:Nat):Int)=ps[i].1 by omega,show ((ps[i].2.toNat:Nat):Int)=ps[i].2 by omega,P.a i hlt,P.b i hlt,gnK_mrg h hiF,<-P.a i hlt,<-P.b i hlt] at hm;repeat first|simp[hlt]|refine sR ?_
   refine sD (hm _ _) ?_;simp;repeat first|simp[hw]|refine sR ?_
   refine sE ?_;exact⟨i+1,hlt,by omega,wM (nr _) rfl (by simp[ToL,lk]) trivial⟩
  .refine sX ?_;simp only[AU,↓reduceIte];have:i=F.length:=by omega
   subst this;repeat first|simp|refine sR ?_
   refine sT (sH Hb Ht ?_);simp
def stGe(N:Int)(n1 n2:Nat)(F G:List Int)(ps:List (Int × Int))(nb:Nat)(box:Bxs)(tok:Tks)(nt:Nat)(i:Nat):AS :=
 ⟨tl [(17,I i),(16,I ps.length),(15,.d (prs ps)),(6,.msl (nb+6) 0 (n1+n2) 1),(5,I 0),(4,.osl 0 [] .full),(0,I N)],lb nb box [(6,rowsI (gnK n1 n2 F G i))],tok,nt⟩
theorem generateP_c(n1 n2:Nat)(F G:List Int)(h:Mt n1 n2 F G)(hn:n1+n2<=80):DC 338 [I ((n1+n2:Nat):Int),.d (prs (prK n1 F G F.length))] (.tup [.d (ints (genX n1 (mtI F G n2))),I 0]):=by
 intro tok nt box nb;have hf:=finestP_c (n1+n2) (by omega);rw[<-gnK_zero n1 n2 F G] at hf;have hk:¬(80:Int)<((n1+n2:Nat):Int):=by omega
 have hk2:¬((n1+n2:Nat):Int)<0:=by omega
 have P:=psOk h hn;have hRf:genX n1 (mtI F G n2)=gnK n1 n2 F G F.length:=(gnK_all h.l).symm
 generalize prK n1 F G F.length=ps at *;have hNv:((n1+n2:Nat):Int)=(n1:Int)+n2:=by omega
 have pl:=P.len;have pf:=P.few;rw[hRf];generalize hN:((n1+n2:Nat):Int)=N at *;refine sI func338 ntmps338 fun Hb Ht=>?_
 repeat first|simp[hk,hk2]|refine sR ?_
 refine sC ?_;simp;repeat first|simp[hk2]|refine sR ?_
 refine sC ?_;repeat first|simp|refine sR ?_
 refine sD (hf _ _) ?_;repeat first|simp|refine sR ?_
 refine sN ?_;have hl0:=gnK_len n1 n2 F G 0;refine AL.weak (wM (l':=[(17,I 0),(16,I ps.length),(15,.d (prs ps)),(6,.ex nt 1 (rI (gnK n1 n2 F G 0))),(5,I 0),(4,.osl 0 [] .full),(0,I N)]) (loc':=[]) (Nat.le_succ _) rfl (by simp[ToL]) (by simp[BoxL])) ?_;refine AL.trans (Trans.thawI (l':=[(17,I 0),(16,I ps.length),(15,.d (prs ps)),(6,.msl (nb+6) 0 (n1+n2) 1),(5,I 0),(4,.osl 0 [] .full),(0,I N)]) (loc':=[]) nt 6 (gnK n1 n2 F G 0) 6 rfl (by show 6<50;decide) rfl (uS _ _ _) rfl
  ⟨rfl,.same,rfl,.same,rfl,.same,rfl,thTo_exI hl0.symm,rfl,.same,rfl,.same,rfl,.same,trivial⟩ trivial) ?_
 have htt:∀t,tok t=true->upd (upd tok nt true) nt false t=true:=fun t ht=>by
  have:=Ht t ht
  rw[uO _ _ (by omega),uO _ _ (by omega)];exact ht
 generalize upd (upd tok nt true) nt false=tok1 at *;refine sL (stGe N n1 n2 F G ps nb box tok1 (nt+1)) (fun i=>i<=ps.length) (fun i=>ps.length-i) 0 (Nat.zero_le _) (wM (Nat.le_succ _) rfl (by simp[ToL,lk]) (by simp[BoxL,lk])) ?_;rintro i S hi hS;simp only[stGe] at hS;subst hS;have hw:=sW (i:=i) (by omega);have hln:=gnK_len n1 n2 F G i;have hpt:=gnK_part h i;repeat first|simp|refine sR ?_|refine sC ?_
 refine⟨fun hlt=>?_,fun hge=>?_⟩
 .obtain⟨p1,p2,p3,p4⟩:=P.r i hlt;have q1:¬ps[i].1<0:=by omega
  have q2:¬N<=ps[i].1:=by omega
  have q3:¬ps[i].2<0:=by omega
  have q4:¬N<=ps[i].2:=by omega
  have hiF:i<F.length:=by omega
  have hu:=unite_c (gnK n1 n2 F G i) ps[i].1.toNat ps[i].2.toNat (by omega) (by omega) (by omega) hpt;have eu:uniL (gnK n1 n2 F G i) ps[i].1.toNat ps[i].2.toNat=gnK n1 n2 F G (i+1):=by rw[P.a i hlt,P.b i hlt];exact gnK_uni h hiF
  rw[eu,hln,show ((ps[i].1.toNat:Nat):Int)=ps[i].1 by omega,show ((ps[i].2.toNat:Nat):Int)=ps[i].2 by omega] at hu;refine sR ?_;simp[hlt];generalize ps[i]=y at *;repeat first|simp[q1,q2,q3,q4]|refine sR ?_
  refine sC ?_;repeat first|simp|refine sR ?_
  refine Stop.of_a (hu _ (nb+6) (by simp[lk]) _ _ _) ?_;rintro v m' ⟨rfl,rfl⟩;simp;repeat first|simp[hw]|refine sR ?_
  refine sE ?_;exact⟨i+1,hlt,by omega,wM (Nat.le_succ _) rfl (by simp[ToL,lk]) (by simp[BoxL,lk])⟩
 .refine sX ?_;simp only[AU,↓reduceIte];have:i=F.length:=by omega
  subst this;have hfl:=flat_c (gnK n1 n2 F G F.length) (by omega) hpt;rw[hln] at hfl;repeat first|simp|refine sR ?_
  refine Stop.of_a (hfl _ (nb+6) (by simp[lk]) _ _ _) ?_;rintro v m' ⟨rfl,rfl⟩;repeat first|simp|refine sR ?_
  refine AL.weak (Weaks.frz (l':=[(4,.d (ints (gnK n1 n2 F G F.length))),(5,I 0)]) (loc':=[]) 6 1 (rI (gnK n1 n2 F G F.length)) (Nat.le_succ _) rfl (by simp[lk,rowsI_eq]) (by simp[lk]) (by simp) (by simp[ToL,lk,hln]) (by simp[BoxL])) ?_;refine sT ?_;try simp only[AU]
  refine⟨by simp,sF Hb Ht htt (Nat.le_succ _) ?_⟩;simp
theorem iotaF_zero(n:Nat):iotaF n 0=[]:=rfl
theorem iotaF_succ(n k:Nat):iotaF n (k+1)=iotaF n k++[((n+k:Nat):Int)]:=by simp[iotaF,List.range_succ]
theorem unG_fit{b c:Gr}(h:¬(40<b.nodes.length+c.nodes.length∨80<b.edges.length+c.edges.length)):(unG b c).Fit:=⟨by simp[unG];omega,by simp[unG];omega⟩
def unE(b c:Gr)(i:Nat):List E:=b.edges++(c.edges.take i).map (shE b.nodes.length)
theorem unE_len(b c:Gr)(i:Nat):(unE b c i).length<=b.edges.length+i:=by simp[unE];omega
theorem unE_succ(b c:Gr){i:Nat}(h:i<c.edges.length):unE b c (i+1)=unE b c i++[shE b.nodes.length c.edges[i]]:=by simp only[unE,List.take_add_one,List.getElem?_eq_getElem h,Option.toList,List.map_append,List.map_cons,List.map_nil,List.append_assoc]
theorem iotaF_iota(n:Nat):iotaF 0 n=iota n:=by simp[iotaF,iota]
theorem mt_n{a b c:Gr}{f g:Mo}(hf:Emb a b f)(hg:Emb a c g):Mt b.nodes.length c.nodes.length f.nodes g.nodes:=⟨by rw[hf.vm.ln,hg.vm.ln],hf.n,hg.n,hf.vm.n,hg.vm.n⟩
theorem mt_e{a b c:Gr}{f g:Mo}(hf:Emb a b f)(hg:Emb a c g):Mt b.edges.length c.edges.length f.edges g.edges:=⟨by rw[hf.vm.le,hg.vm.le],hf.e,hg.e,hf.vm.e,hg.vm.e⟩
def poBig(b c:Gr):Prop:=40<b.nodes.length+c.nodes.length∨80<b.edges.length+c.edges.length
instance (b c:Gr):Decidable (poBig b c):=inferInstanceAs (Decidable (_∨_))
def pushR(b c:Gr)(f g:Mo):Ov × Int:=if poBig b c then (⟨⟨[],[]⟩,⟨[],[]⟩,⟨[],[]⟩⟩,3) else (pushO b c f g,0)
abbrev spanAv(a b c:Gr)(f g:Mo):AV:=.agg [.d (ints a.nodes),.d (AM.edges a.edges),.d (ints b.nodes),.d (AM.edges b.edges),.d (ints c.nodes),.d (AM.edges c.edges),.d (ints f.nodes),.d (ints f.edges),.d (ints g.nodes),.d (ints g.edges)]
theorem Emb.fit{a b:Gr}{m:Mo}(h:Emb a b m):m.Fit/\a.Fit/\b.Fit:=by
 have v:=h.vm;have h1:=(validG_types v.va).1;have h2:=(validG_types v.vb).1;have h3:=v.ln;have h4:=v.le;exact⟨⟨by omega,by omega⟩,⟨by omega,by omega⟩,⟨by omega,by omega⟩⟩
theorem pushO_r{b c:Gr}{f g:Mo}(hp:isPair b c (mtI f.nodes g.nodes c.nodes.length,mtI f.edges g.edges c.edges.length)):(pushO b c f g).r.nodes.length=c.nodes.length/\(pushO b c f g).r.edges.length=c.edges.length/\(pushO b c f g).l=idM b :=
 ⟨by rw[<-mtI_len f.nodes g.nodes c.nodes.length];exact(glueN_len _ _ _ _).2,by rw[<-mtI_len f.edges g.edges c.edges.length];exact(glueE_len _ _ _ _ _).2,rfl⟩
end Go.AM
namespace Go.Proofs
open Go.Shelf
open Go.Proofs.Tryz
def Tryz.layGrow_ren:Go.Shelf.Ren:=⟨fun|4=>343|n=>n,fun|0=>0|3=>3|4=>4|9=>9|20=>20|22=>26|25=>3|n=>n,fun|n=>n⟩
theorem Tryz.layGrow:Go.Proofs.Lays8.n4 prog Tryz.layGrow_ren:={
 mixed:=by kernel_rfl
 f4:=⟨Tryz.f343.name,by kernel_rfl,func343.trans (congrArg some (by kernel_rfl))⟩
 t0:=underlying0
 a0:=isAgg0
 z0:=sizeOf0
 v0:=zeroValue0
 t3:=underlying3
 a3:=isAgg3
 z3:=sizeOf3
 v3:=zeroValue3
 t4:=underlying4
 a4:=isAgg4
 z4:=sizeOf4
 v4:=zeroValue4
 t9:=underlying9
 a9:=isAgg9
 z9:=sizeOf9
 v9:=zeroValue9
 t20:=underlying20
 a20:=isAgg20
 z20:=sizeOf20
 v20:=zeroValue20
 t22:=underlying26
 a22:=isAgg26
 z22:=sizeOf26
 v22:=zeroValue26
}
end Go.Proofs
namespace Go.AM
open Go Go.Proofs Go.RowKit Go.Lib
open Go.Proofs.Tryz
theorem infoInt:(prog.info? 3).map (fun i=>(i.zero,i.size,i.bytes))=some (some (.int .i64 0),1,8):=by kernel_rfl
theorem rvd_nil{c:Addr->Option Value}{ps:Addr->Prop}{A:Option Addr}{cap:Nat}(h:cap<=maxLen):RVd c ps (.sl 1 []) (.slice A 0 cap) :=
 .sl (es:=[]) (fun _ _=>default) (Nat.zero_le _) h (by simp) (by simp) (by simp) (by simp)
theorem grow_c(n:Nat)(hn:n<=1000000)(tok:Tks)(nt:Nat):DCall prog 343 [.osl 0 [] .full,I n] tok nt (.osl 1 [] (.tok nt)) (upd tok nt true) (nt+1):=by
 intro box nb;refine⟨Enters.mk func343 rfl (by kernel_rfl),fun G w vals hm hr=>?_⟩;obtain⟨hlen,hrv⟩:=hr
 match vals,hlen with
 | [v,u],_ =>
  have h0:=hrv 0 (by simp) (by simp);have h1:=hrv 1 (by simp) (by simp);simp only[List.getElem_cons_zero,List.getElem_cons_succ] at h0 h1;have hu:u=.int .i64 n:=by cases h1 with|d h=>cases h;rfl
  subst hu;obtain⟨A,rfl⟩:∃A,v=.slice A 0 0:=by cases h0 with|osl h2 h3=>exact h3.imp fun _ h=>h.1
  have hnt:=hm.nt;by_cases e:n=0
  .subst e;refine(Any8.slices_Grow_room Tryz.layGrow A 0 0 0 w (nr _) (by omega) (by omega) (by omega)).mono ?_;rintro e w' ⟨rfl,rfl⟩;refine⟨_,_,_,G.newtok none,rfl,⟨rfl,rfl⟩,rfl,hm.newtok none (fun g h=>by cases h),.osl (rvd_nil (by decide)) ⟨?_,fun x hx=>?_⟩,Le.newtok none,fun k hk=>⟨hk,rfl⟩⟩
   .simp only[Gh.newtok];rw[hnt];exact Nat.lt_succ_self _
   .simp only[Gh.newtok] at hx;rw[show G.nt=nt from hnt,uS] at hx;cases hx;exact⟨A,rfl⟩
  .obtain⟨i0,hi,hz0,hz1,hz2⟩:=info_parts infoInt;have hcapge:=grownCap_ge w (0+n) 0 3;have hcapm:=grownCap_le_maxLen w (0+n) 0 3 (by unfold maxLen;omega);refine(Any8.slices_Grow_grow Tryz.layGrow i0 (.int .i64 0) hi hz0 (by rw[hz1];decide) A 0 0 n [] w (nr _) (by omega) (by rw[hz2];omega) (by omega) (by simp) (fun _=>rfl) (fun a _ j v h=>by simp at h)).mono ?_;rintro e w' ⟨rfl,rfl⟩;have hcap:grownCap w (0+n) 0 (Tryz.layGrow_ren.t 25)=grownCap w (0+n) 0 3:=rfl
   rw[hcap];generalize grownCap w (0+n) 0 3=cap at *;have hms:(Builtin.zeroCells (Value.int .i64 0).cells (0+n-0)).size=n:=by simp[size_zeroCells,Value.cells]
   have hmr:(Builtin.zeroCells (Value.int .i64 0).cells (cap-(0+n))).size=cap-n:=by simp[size_zeroCells,Value.cells]
   have hcs:((([]:List Value).toArray++Builtin.zeroCells (Value.int .i64 0).cells (0+n-0))++Builtin.zeroCells (Value.int .i64 0).cells (cap-(0+n))).size=cap:=by
    rw[Array.size_append,Array.size_append,hms,hmr];simp;omega
   generalize ((([]:List Value).toArray++Builtin.zeroCells (Value.int .i64 0).cells (0+n-0))++Builtin.zeroCells (Value.int .i64 0).cells (cap-(0+n)))=cs at *;have hmd:=RelM.drew hm;have hp:=RelM.newpart hmd 0 cap (.cells cs (Tryz.layGrow_ren.t 25));have hle:=Le.newpart hmd 0 cap (.cells cs (Tryz.layGrow_ren.t 25));have hsz:w.drew.heap.size=w.heap.size:=rfl
   refine⟨_,_,_,(G.setKind w.heap.size (.part 0 cap)).newtok (some w.heap.size),rfl,⟨rfl,rfl⟩,rfl,hp.newtok (some w.heap.size) (fun g hg=>?_),.osl (rvd_nil hcapm) ⟨?_,fun x hx=>?_⟩,(Le.drew.trans hle).trans (Le.newtok _),fun k hk=>⟨hk,rfl⟩⟩
   .cases hg;refine⟨fun t ht=>?_,0,cs,_,.inl ⟨?_,_,rfl⟩,heap_alloc_new _ _⟩
    .have:=hm.tlt t w.heap.size ht
     omega
    .rw[hcs];simp[Gh.setKind,uS]
   .simp only[Gh.newtok,Gh.setKind];rw[hnt];exact Nat.lt_succ_self _
   .simp only[Gh.newtok,Gh.setKind] at hx;rw[show G.nt=nt from hnt,uS] at hx;cases hx;exact⟨cap,rfl,by simp[Gh.newtok,Gh.setKind,uS]⟩
def flK(LL:List (List Int))(i:Nat):List Int:=(LL.take i).flatten
theorem flK_zero(LL:List (List Int)):flK LL 0=[]:=by simp[flK]
theorem flK_succ(LL:List (List Int)){i:Nat}(h:i<LL.length):flK LL (i+1)=flK LL i++LL[i]:=by
 simp only[flK,List.take_add_one,List.getElem?_eq_getElem h,Option.toList,List.flatten_append,List.flatten_cons,List.flatten_nil,List.append_nil]
theorem flK_le(LL:List (List Int))(i:Nat):(flK LL i).length<=LL.flatten.length:=by
 have:LL.flatten=flK LL i++(LL.drop i).flatten:=by rw[flK,<-List.flatten_append,List.take_append_drop]
 rw[this,List.length_append];omega
def stC1(LL:List (List Int))(nb:Nat)(box:Bxs)(tok:Tks)(nt:Nat)(i:Nat):AS :=
 ⟨tl [(11,I i),(10,I LL.length),(9,.d (lists LL)),(3,I (flK LL i).length),(0,.d (lists LL))],lb nb box [],tok,nt⟩
def stC2(LL:List (List Int))(nb:Nat)(box:Bxs)(x:Acc):AS :=
 ⟨tl [(27,I x.i),(26,I LL.length),(25,.d (lists LL)),(6,.osl 1 (rI (flK LL x.i)) x.own)],lb nb box [],x.tok,x.nt⟩
theorem concat_c(LL:List (List Int))(hl:LL.length<=1000)(ht:LL.flatten.length<=1000000):DC 336 [.d (lists LL)] (.d (ints LL.flatten)):=by
 intro tok nt box nb;have hfl:∀i,(flK LL i).length<=LL.flatten.length:=flK_le LL
 have hall:flK LL LL.length=LL.flatten:=by rw[flK,List.take_length]
 generalize LL.flatten=T at *;have hg:=grow_c T.length ht;refine sI func336 ntmps336 fun Hb Ht=>?_
 repeat first|simp|refine sR ?_
 refine sN ?_;refine sL (stC1 LL nb box tok nt) (fun i=>i<=LL.length) (fun i=>LL.length-i) 0 (Nat.zero_le _) (wM (nr _) rfl (by simp[ToL,lk,flK_zero]) trivial) ?_;rintro i S hi hS;simp only[stC1] at hS;subst hS;have hw:=sW (i:=i) (by omega);repeat first|simp|refine sR ?_|refine sC ?_
 refine⟨fun hlt=>?_,fun hge=>?_⟩
 .have hs:=flK_succ LL hlt;have hle:=hfl (i+1);have hle0:=hfl i;rw[hs,List.length_append] at hle;have hw2:IntKind.i64.wrap (↑(flK LL i).length+↑LL[i].length)=((flK LL (i+1)).length:Int):=by rw[hs,List.length_append,wrap_in (by omega) (by omega)];omega
  have hn:¬((flK LL (i+1)).length:Int)<0:=by omega
  repeat first|simp[hlt,hw2,hn]|refine sR ?_
  refine sC ?_;simp;repeat first|simp[hw]|refine sR ?_
  refine sE ?_;exact⟨i+1,hlt,by omega,wM (nr _) rfl (by simp[ToL,lk]) trivial⟩
 .refine sX ?_;simp only[AU,↓reduceIte];have:i=LL.length:=by omega
  subst this;rw[hall];repeat first|simp|refine sR ?_
  refine sD (hg _ _) ?_;repeat first|simp|refine sR ?_
  refine sN ?_;have htk:=(TK.start Ht).full.app;refine sL (stC2 LL nb box) (fun x=>x.i<=LL.length/\TK tok nt x.tok x.nt [x.own]) (fun x=>LL.length-x.i) ⟨0,_,_,_⟩ ⟨Nat.zero_le _,htk⟩ (wM htk.le rfl (by simp[ToL,lk,flK_zero]) trivial) ?_;rintro⟨i,own,tok',nt'⟩ S ⟨hi,htk⟩ hS;simp only[stC2] at hS hi htk;subst hS;have hw:=sW (i:=i) (by omega);repeat first|simp|refine sR ?_|refine sC ?_
  refine⟨fun hlt=>?_,fun hge=>?_⟩
  .have hs:=flK_succ LL hlt;have hle:=hfl (i+1);rw[hs,List.length_append] at hle;repeat first|simp[hlt]|refine sR ?_
   refine⟨⟨by omega,htk.live⟩,?_⟩;repeat first|simp[hw]|refine sR ?_
   refine sE ?_;exact⟨⟨i+1,_,_,_⟩,⟨hlt,htk.app⟩,by simp only;omega,wM htk.app.le rfl (by simp[ToL,lk,hs]) trivial⟩
  .refine sX ?_;simp only[AU,↓reduceIte];have:i=LL.length:=by omega
   subst this;rw[hall];repeat first|simp|refine sR ?_
   refine sT (sG Hb Ht htk.old htk.le ?_);simp
theorem concat2_c(a b:List Int)(ht:a.length+b.length<=1000000)(tok:Tks)(nt:Nat):DCall prog 336 [.d (lists [a,b])] tok nt (.d (ints (a++b))) tok nt:=by
 have:=concat_c [a,b] (by simp) (by simpa using ht) tok nt
 simpa using this
def stGN(n k:Nat)(nb:Nat)(box:Bxs)(x:Acc):AS:=⟨tl [(8,I x.i),(7,I k),(5,.osl 1 (rI (iotaF n x.i)) x.own),(0,I n)],lb nb box [],x.tok,x.nt⟩
theorem gnumbers_c(n k:Nat)(hn:n<=1000000)(hk:k<=1000000):DC 337 [I n,I k] (.d (ints (iotaF n k))):=by
 intro tok nt box nb;refine sI func337 ntmps337 fun Hb Ht=>?_
 repeat first|simp|refine sR ?_
 refine sN ?_;refine sL (stGN n k nb box) (fun x=>x.i<=k/\TK tok nt x.tok x.nt [x.own]) (fun x=>k-x.i) ⟨0,.full,tok,nt⟩ ⟨Nat.zero_le _,(TK.start Ht).full⟩ (wM (nr _) rfl (by simp[ToL,lk,iotaF_zero]) trivial) ?_;rintro⟨i,own,tok',nt'⟩ S ⟨hi,htk⟩ hS;simp only[stGN] at hS hi htk;subst hS;have hw:=sW (i:=i) (by omega);have hw2:IntKind.i64.wrap (↑n+↑i)=((n+i:Nat):Int):=by rw[wrap_in (by omega) (by omega)];omega
 have hl:=iotaF_len n i;have hs:=iotaF_succ n i;repeat first|simp|refine sR ?_|refine sC ?_
 refine⟨fun hlt=>?_,fun hge=>?_⟩
 .repeat first|simp[hw2]|refine sR ?_
  refine⟨⟨by omega,htk.live⟩,?_⟩;repeat first|simp[hw]|refine sR ?_
  refine sE ?_;exact⟨⟨i+1,_,_,_⟩,⟨hlt,htk.app⟩,by simp only;omega,wM htk.app.le rfl (by simp[ToL,lk,hs]) trivial⟩
 .refine sX ?_;simp only[AU,↓reduceIte];have:i=k:=by omega
  subst this;repeat first|simp|refine sR ?_
  refine sT (sG Hb Ht htk.old htk.le ?_);simp
def folK(l h:List Int)(i:Nat):List Int:=byK l h i++List.replicate (l.length-i) 0
theorem folK_len(l h:List Int){i:Nat}(hi:i<=l.length):(folK l h i).length=l.length:=by simp[folK,byK];omega
theorem folK_set(l h:List Int){i:Nat}(hi:i<l.length)(h2:l[i].toNat<h.length):(folK l h i).set i h[l[i].toNat]=folK l h (i+1):=by
 unfold folK;have e:(byK l h i).length=i:=by simp[byK];omega
 have e2:l.length-i=(l.length-(i+1))+1:=by omega
 rw[List.set_append,e,if_neg (by omega),Nat.sub_self,e2,List.replicate_succ,List.set_cons_zero,byK_succ l h hi];simp[h2]
def stFw(l h:List Int)(nb:Nat)(box:Bxs)(tok:Tks)(nt:Nat)(i:Nat):AS :=
 ⟨tl [(13,I i),(12,I l.length),(11,.d (ints l)),(5,.msl (nb+10) 0 l.length 1),(1,.d (ints h))],lb nb box [(10,rowsI (folK l h i))],tok,nt⟩
theorem follow_c(l h:List Int)(hl:l.length<=1000000)(hr:∀x∈l,0<=x/\x<h.length):DC 340 [.d (ints l),.d (ints h)] (.d (ints (byK l h l.length))):=by
 intro tok nt box nb;refine sI func340 ntmps340 fun Hb Ht=>?_
 repeat first|simp|refine sR ?_
 refine⟨by omega,?_⟩;repeat first|simp|refine sR ?_
 refine sN ?_;refine sL (stFw l h nb box tok nt) (fun i=>i<=l.length) (fun i=>l.length-i) 0 (Nat.zero_le _) (wM (nr _) rfl (by simp[ToL,lk]) (by simp[BoxL,lk,folK,byK_zero])) ?_;rintro i S hi hS;simp only[stFw] at hS;subst hS;have hw:=sW (i:=i) (by omega);have hfl:=folK_len l h hi;repeat first|simp|refine sR ?_|refine sC ?_
 refine⟨fun hlt=>?_,fun hge=>?_⟩
 .obtain⟨x0,x1⟩:=hr _ (List.getElem_mem hlt);have x2:l[i].toNat<h.length:=by omega
  have hst:=folK_set l h hlt x2;repeat first|simp[hlt,x0,x1,x2,hfl,hw]|refine sR ?_
  refine sE ?_;exact⟨i+1,hlt,by omega,wM (nr _) rfl (by simp[ToL,lk]) (by simp[BoxL,lk,hst])⟩
 .refine sX ?_;simp only[AU,↓reduceIte];have:i=l.length:=by omega
  subst this;have hall:folK l h l.length=byK l h l.length:=by simp[folK]
  rw[hall];have hbl:(byK l h l.length).length=l.length:=byK_all l h
  refine AL.weak (Weaks.frz (l':=[(5,.d (ints (byK l h l.length)))]) (loc':=[]) 10 1 (rI (byK l h l.length)) (nr _) rfl (by simp[lk,rowsI_eq]) (by simp[lk]) (by simp) (by simp[ToL,hbl]) (by simp[BoxL])) ?_;repeat first|simp|refine sR ?_
  refine sT (sH Hb Ht ?_);simp
def stPp(F G A C:List Int)(n1:Nat)(nb:Nat)(box:Bxs)(x:Acc):AS :=
 ⟨tl [(13,I x.i),(12,I F.length),(9,.osl 2 ((prK n1 F G x.i).map fun p=>[D.raw (.int .i64 p.1),D.raw (.int .i64 p.2)]) x.own),(0,.d (ints F)),(1,.d (ints G)),(2,.d (ints A)),(3,.d (ints C))],lb nb box [],x.tok,x.nt⟩
theorem ppairs_c(F G A C:List Int)(n1:Nat)(hl:F.length=G.length)(hF:F.length<=1000000)(h1:∀x∈F,0<=x/\x<n1)(h2:∀x∈G,0<=x/\x<C.length)(hA:A=iota n1)(hC:C=iotaF n1 C.length):DC 326 [.d (ints F),.d (ints G),.d (ints A),.d (ints C)] (.d (prs (prK n1 F G F.length))):=by
 intro tok nt box nb;refine sI func326 ntmps326 fun Hb Ht=>?_
 repeat first|simp|refine sR ?_
 refine sN ?_;have Al:A.length=n1:=by rw[hA,iota_len]
 refine sL (stPp F G A C n1 nb box) (fun x=>x.i<=F.length/\TK tok nt x.tok x.nt [x.own]) (fun x=>F.length-x.i) ⟨0,.full,tok,nt⟩ ⟨Nat.zero_le _,(TK.start Ht).full⟩ (wM (nr _) rfl (by simp[ToL,lk,prK]) trivial) ?_;rintro⟨i,own,tok',nt'⟩ S ⟨hi,htk⟩ hS;simp only[stPp] at hS hi htk;subst hS;have hw:=sW (i:=i) (by omega);have hpl:=prK_len n1 F G i;have hsc:=prK_succ n1 F G i;repeat first|simp|refine sR ?_|refine sC ?_
 refine⟨fun hlt=>?_,fun hge=>?_⟩
 .have hig:i<G.length:=by omega
  have e1:F.getD i 0=F[i]:=by simp[hlt]
  have e2:G.getD i 0=G[i]:=by simp[hig]
  obtain⟨a0,a1⟩:=h1 _ (List.getElem_mem hlt);obtain⟨c0,c1⟩:=h2 _ (List.getElem_mem hig);have a2:F[i].toNat<A.length:=by omega
  have c2:G[i].toNat<C.length:=by omega
  have a3:A[F[i].toNat]=F[i]:=by
   have:A.getD F[i].toNat 0=F[i].toNat:=by rw[hA];exact iota_getD (by omega)
   rw[List.getD_eq_getElem?_getD,List.getElem?_eq_getElem a2,Option.getD_some] at this;omega
  have c3:C[G[i].toNat]=(n1:Int)+G[i]:=by
   have:C.getD G[i].toNat 0=((n1+G[i].toNat:Nat):Int):=by rw[hC];exact iotaF_get (by omega)
   rw[List.getD_eq_getElem?_getD,List.getElem?_eq_getElem c2,Option.getD_some] at this;omega
  rw[e1,e2] at hsc;rw[<-Al] at a1;repeat first|simp[hlt,hig,a0,a1,a2,a3,c0,c1,c2,c3]|refine sR ?_
  refine⟨⟨by omega,htk.live⟩,?_⟩;repeat first|simp[hw]|refine sR ?_
  refine sE ?_;exact⟨⟨i+1,_,_,_⟩,⟨hlt,htk.app⟩,by simp only;omega,wM htk.app.le rfl (by simp[ToL,lk,hsc]) trivial⟩
 .refine sX ?_;simp only[AU,↓reduceIte];have:i=F.length:=by omega
  subst this;repeat first|simp|refine sR ?_
  refine sT (sG Hb Ht htk.old htk.le ?_);simp
def stU1(b c:Gr)(nb:Nat)(box:Bxs)(tok:Tks)(nt:Nat)(i:Nat):AS :=
 ⟨tl [(22,I i),(21,I 2),(20,.osl 2 [[ints b.nodes,AM.edges b.edges],[ints c.nodes,AM.edges c.edges]] .full),(7,I 0),(6,.ptr (nb+6) 0 0),(5,.ptr (nb+5) 0 0),(4,.ptr (nb+4) 0 0),(3,.ptr (nb+3) 0 0),(2,.ptr (nb+2) 0 0)],
  lb nb box [(3,[[.d (ints c.nodes),.d (AM.edges c.edges)]]),(2,[[.d (ints b.nodes),.d (AM.edges b.edges)]]),(6,[[.bot,.bot]]),(5,[[.bot,.bot]]),(4,[[.bot,.bot]])],tok,nt⟩
def stU2(b c:Gr)(N:List Int)(nb:Nat)(box:Bxs)(x:Acc):AS :=
 ⟨tl [(71,I x.i),(70,I c.edges.length),(69,.d (AM.edges c.edges)),(13,.ptr (nb+13) 0 0),(12,I b.edges.length),(11,I b.nodes.length),(6,.ptr (nb+6) 0 0),(5,.ptr (nb+5) 0 0),(4,.ptr (nb+4) 0 0),(3,.ptr (nb+3) 0 0)],
  lb nb box [(13,[[.d (ints N),.osl 3 (rE (unE b c x.i)) x.own]]),(3,[[.d (ints c.nodes),.d (AM.edges c.edges)]]),(6,[[.bot,.bot]]),(5,[[.bot,.bot]]),(4,[[.bot,.bot]])],x.tok,x.nt⟩
theorem union_c(b c:Gr)(hb:b.Fit)(hc:c.Fit)(vb:vG b=0)(vc:vG c=0):DC 324 [b.av,c.av] (if 40<b.nodes.length+c.nodes.length∨80<b.edges.length+c.edges.length then .tup [Gr.av ⟨[],[]⟩,Mo.av ⟨[],[]⟩,Mo.av ⟨[],[]⟩,I 3]
   else .tup [(unG b c).av,(idM b).av,Mo.av ⟨iotaF b.nodes.length c.nodes.length,iotaF b.edges.length c.edges.length⟩,I 0]):=by
 intro tok nt box nb;have hb1:=graphValid_c b hb;have hc1:=graphValid_c c hc;refine sI func324 ntmps324 fun Hb Ht=>?_
 repeat first|simp|refine sR ?_
 refine⟨rfl,?_⟩;refine sN ?_;refine sL (stU1 b c nb box tok nt) (fun i=>i<=2) mu13 0 (by omega) wkA ?_;rintro i S hi hS;simp only[stU1] at hS;subst hS;repeat first|simp|refine sR ?_|refine sC ?_
 have h012:i=0∨i=1∨i=2:=by omega
 rcases h012 with rfl|rfl|rfl
 .simp;repeat first|simp|refine sR ?_
  refine sD (hb1 _ _) ?_;simp;repeat first|simp[vb]|refine sR ?_
  refine sC ?_;simp;repeat first|simp[show IntKind.i64.wrap 1=1 from rfl]|refine sR ?_
  refine sE ?_;exact⟨1,by omega,by decide,wkA⟩
 .simp;repeat first|simp|refine sR ?_
  refine sD (hc1 _ _) ?_;simp;repeat first|simp[vc]|refine sR ?_
  refine sC ?_;simp;repeat first|simp[show IntKind.i64.wrap 2=2 from rfl]|refine sR ?_
  refine sE ?_;exact⟨2,by omega,by decide,wkA⟩
 .simp;refine sX ?_;simp only[AU,↓reduceIte];have hbn:=hb.n;have hbe:=hb.e;have hcn:=hc.n;have hce:=hc.e;have w1:IntKind.i64.wrap (↑b.nodes.length+↑c.nodes.length)=(b.nodes.length:Int)+c.nodes.length:=wrap_in (by omega) (by omega)
  have w2:IntKind.i64.wrap (↑b.edges.length+↑c.edges.length)=(b.edges.length:Int)+c.edges.length:=wrap_in (by omega) (by omega)
  have hcl:=cloneE_c b.edges (by omega);by_cases h1:(40:Int)<(b.nodes.length:Int)+c.nodes.length
  .have hcc:40<b.nodes.length+c.nodes.length∨80<b.edges.length+c.edges.length:=.inl (by omega)
   repeat first|simp[w1,h1]|refine sR ?_
   refine sC ?_;repeat first|simp|refine sR ?_
   refine sT (sH Hb Ht ?_);simp[hcc,ints,AM.edges]
  .by_cases h2:(80:Int)<(b.edges.length:Int)+c.edges.length
   .have hcc:40<b.nodes.length+c.nodes.length∨80<b.edges.length+c.edges.length:=.inr (by omega)
    repeat first|simp[w1,h1,w2,h2]|refine sR ?_
    refine sC ?_;repeat first|simp|refine sR ?_
    refine sT (sH Hb Ht ?_);simp[hcc,ints,AM.edges]
   .have hcc:¬(40<b.nodes.length+c.nodes.length∨80<b.edges.length+c.edges.length):=by omega
    repeat first|simp[w1,h1,w2,h2]|refine sR ?_|refine sC ?_
    have hcat:=concat2_c b.nodes c.nodes (by omega);have hcc2:¬40<b.nodes.length+c.nodes.length:=by omega
    have hcc3:¬80<b.edges.length+c.edges.length:=by omega
    obtain⟨N,hN⟩:∃N,b.nodes++c.nodes=N:=⟨_,rfl⟩
    rw[hN] at hcat;have hu:unG b c=⟨N,unE b c c.edges.length⟩:=by rw[<-hN];simp[unG,unE]
    repeat first|simp|refine sR ?_
    refine⟨rfl,?_⟩;refine Stop.data ?_;refine sD (hcat _ _) ?_;repeat first|simp|refine sR ?_
    refine sD (hcl _ _) ?_;repeat first|simp|refine sR ?_
    refine sN ?_;have htk:=(TK.start Ht).full.app;refine sL (stU2 b c N nb box) (fun x=>x.i<=c.edges.length/\TK tok nt x.tok x.nt [x.own]) (fun x=>c.edges.length-x.i) ⟨0,_,_,_⟩ ⟨Nat.zero_le _,htk⟩ (wM htk.le rfl (by simp[ToL,lk]) (by simp[BoxL,lk,unE])) ?_;rintro⟨i,o2,tok',nt'⟩ S ⟨hi,htk⟩ hS;simp only[stU2] at hS hi htk;subst hS;have hw:=sW (i:=i) (by omega);have hul:=unE_len b c i;have hec:=validG_edges vc;repeat first|simp|refine sR ?_|refine sC ?_
    refine⟨fun hlt=>?_,fun hge=>?_⟩
    .have hus:=unE_succ b c hlt;obtain⟨e1,e2,e3,e4⟩:=hec _ (List.getElem_mem hlt);have x1:IntKind.i64.wrap (c.edges[i].fr+↑b.nodes.length)=c.edges[i].fr+b.nodes.length:=wrap_in (by omega) (by omega)
     have x2:IntKind.i64.wrap (c.edges[i].to+↑b.nodes.length)=c.edges[i].to+b.nodes.length:=wrap_in (by omega) (by omega)
     repeat first|simp[hlt,x1,x2]|refine sR ?_
     refine⟨⟨by omega,htk.live⟩,?_⟩;repeat first|simp[hw]|refine sR ?_
     refine sE ?_;exact⟨⟨i+1,_,_,_⟩,⟨hlt,htk.app⟩,by simp only;omega,wM htk.app.le rfl (by simp[ToL,lk]) (by simp[BoxL,lk,hus,shE])⟩
    .refine sX ?_;simp only[AU,↓reduceIte];have:i=c.edges.length:=by omega
     subst this;have n1:∀tok nt,DCall prog 337 [I 0,I b.nodes.length] tok nt (.d (ints (iota b.nodes.length))) tok nt:=by rw[<-iotaF_iota];exact gnumbers_c 0 b.nodes.length (by omega) (by omega)
     have n2:∀tok nt,DCall prog 337 [I 0,I b.edges.length] tok nt (.d (ints (iota b.edges.length))) tok nt:=by rw[<-iotaF_iota];exact gnumbers_c 0 b.edges.length (by omega) (by omega)
     have n3:=gnumbers_c b.nodes.length c.nodes.length (by omega) (by omega);have n4:=gnumbers_c b.edges.length c.edges.length (by omega) (by omega);repeat first|simp|refine sR ?_
     refine sD (n1 _ _) ?_;repeat first|simp|refine sR ?_
     refine sD (n2 _ _) ?_;repeat first|simp|refine sR ?_
     refine sD (n3 _ _) ?_;repeat first|simp|refine sR ?_
     refine sD (n4 _ _) ?_;simp;refine sN ?_;refine AL.region2 follows_Tryz (nr _) (by kernel_rfl) (Side.of (by simp)) ?_;simp;refine sT (sG Hb Ht htk.old htk.le ?_);simp[hcc,hu,idM]
def stPq1(a:Gr)(L1 L2 q1 q2:List Int)(nb:Nat)(box:Bxs)(x:Acc):AS :=
 ⟨tl [(64,I x.i),(63,I L1.length),(62,.d (ints L1)),(18,.ptr (nb+18) 0 0),(15,.d (ints q2)),(12,.d (ints q1)),(11,.d (ints L2)),(7,.ptr (nb+7) 0 0),(6,.ptr (nb+6) 0 0),(3,.ptr (nb+3) 0 0)],
  lb nb box [(18,[[.osl 1 (rI (repN a.nodes L1 x.i)) x.own,.osl 0 [] .full]]),(3,[[.d (ints a.nodes),.d (AM.edges a.edges)]]),(7,[[.bot,.bot]]),(6,[[.bot,.bot]])],x.tok,x.nt⟩
def stPq2(a:Gr)(L1 L2 q1 q2:List Int)(nb:Nat)(box:Bxs)(x:Acc):AS :=
 ⟨tl [(85,I x.i),(84,I L2.length),(83,.d (ints L2)),(18,.ptr (nb+18) 0 0),(15,.d (ints q2)),(12,.d (ints q1)),(7,.ptr (nb+7) 0 0),(6,.ptr (nb+6) 0 0),(3,.ptr (nb+3) 0 0)],
  lb nb box [(18,[[.d (ints (repN a.nodes L1 L1.length)),.osl 3 (rE (repE a.edges q1 L2 x.i)) x.own]]),(3,[[.d (ints a.nodes),.d (AM.edges a.edges)]]),(7,[[.bot,.bot]]),(6,[[.bot,.bot]])],x.tok,x.nt⟩
theorem pquotient_c(a:Gr)(pn pe:List (Int × Int))(L1 L2:List Int)(ha:a.Fit)(g1:∀tok nt,DCall prog 338 [I a.nodes.length,.d (prs pn)] tok nt (.tup [.d (ints L1),I 0]) tok nt)(g2:∀tok nt,DCall prog 338 [I a.edges.length,.d (prs pe)] tok nt (.tup [.d (ints L2),I 0]) tok nt)(hl:L1.length=a.nodes.length)(hk:L2.length=a.edges.length)(h80:a.nodes.length<=80/\a.edges.length<=80)(hpl:PartL L1)(hpk:PartL L2)(hx:EOk a):DC 325 [a.av,.d (prs pn),.d (prs pe)] (.tup [(quot a L1 L2).g.av,(quot a L1 L2).o.av,I 0]):=by
 intro tok nt box nb;have q1:=quotient86_c L1 (by omega) hpl;have q2:=quotient86_c L2 (by omega) hpk;refine sI func325 ntmps325 fun Hb Ht=>?_
 repeat first|simp|refine sR ?_
 refine sD (g1 _ _) ?_;repeat first|simp|refine sR ?_
 refine sC ?_;repeat first|simp|refine sR ?_
 refine sD (g2 _ _) ?_;repeat first|simp|refine sR ?_
 refine sC ?_;repeat first|simp|refine sR ?_
 refine sD (q1 _ _) ?_;repeat first|simp|refine sR ?_
 refine sD (q2 _ _) ?_;repeat first|simp|refine sR ?_
 refine sN ?_;have han:=ha.n;have hae:=ha.e;have hnl:=numN_len L1 L1.length;have hnk:=numN_len L2 L2.length;have hqt:quot a L1 L2=⟨⟨repN a.nodes L1 L1.length,repE a.edges (numN L1 L1.length).1 L2 L2.length⟩,⟨(numN L1 L1.length).1,(numN L2 L2.length).1⟩⟩:=rfl
 rw[hqt];generalize (numN L1 L1.length).1=q1n at *;generalize (numN L2 L2.length).1=q2n at *;refine sL (stPq1 a L1 L2 q1n q2n nb box) (fun x=>x.i<=L1.length/\TK tok nt x.tok x.nt [x.own]) (fun x=>L1.length-x.i) ⟨0,.full,tok,nt⟩ ⟨Nat.zero_le _,(TK.start Ht).full⟩ (wM (nr _) rfl (by simp[ToL,lk]) (by simp[BoxL,lk,repN])) ?_;rintro⟨i,own,tok',nt'⟩ S ⟨hi,htk⟩ hS;simp only[stPq1] at hS hi htk;subst hS;have hw:=sW (i:=i) (by omega);have hln:=repN_len a.nodes L1 i;repeat first|simp|refine sR ?_|refine sC ?_
 refine⟨fun hlt=>?_,fun hge=>?_⟩
 .have hlb:i<a.nodes.length:=by omega
  repeat first|simp[hlt]|refine sR ?_|refine sC ?_
  refine⟨fun he=>?_,fun hne=>?_⟩
  .repeat first|simp[hlb]|refine sR ?_
   refine⟨⟨by omega,htk.live⟩,?_⟩;repeat first|simp[hw]|refine sR ?_
   refine sE ?_;exact⟨⟨i+1,_,_,_⟩,⟨hlt,htk.app⟩,by simp only;omega,wM htk.app.le rfl (by simp[ToL,lk]) (by simp[BoxL,lk,repN,hlt,hlb,he])⟩
  .repeat first|simp[hw]|refine sR ?_
   refine sE ?_;exact⟨⟨i+1,own,tok',nt'⟩,⟨hlt,htk⟩,by simp only;omega,wM htk.le rfl (by simp[ToL,lk]) (by simp[BoxL,lk,repN,hlt,hlb,hne])⟩
 .refine sX ?_;simp only[AU,↓reduceIte];have:i=L1.length:=by omega
  subst this;repeat first|simp|refine sR ?_
  refine sN ?_;have htk2:=htk.tail.full;refine sL (stPq2 a L1 L2 q1n q2n nb box) (fun x=>x.i<=L2.length/\TK tok nt x.tok x.nt [x.own]) (fun x=>L2.length-x.i) ⟨0,.full,tok',nt'⟩ ⟨Nat.zero_le _,htk2⟩ (wM htk2.le rfl (by simp[ToL,lk]) (by simp[BoxL,lk,repE])) ?_;rintro⟨i,own2,tok',nt'⟩ S ⟨hi,htk⟩ hS;simp only[stPq2] at hS hi htk;subst hS;have hw:=sW (i:=i) (by omega);have hle:=repE_len a.edges q1n L2 i;repeat first|simp|refine sR ?_|refine sC ?_
  refine⟨fun hlt=>?_,fun hge=>?_⟩
  .have hlb:i<a.edges.length:=by omega
   obtain⟨x1,x2,x3,x4⟩:=hx _ (List.getElem_mem hlb);have hq1:q1n.length=a.nodes.length:=by omega
   have y1:a.edges[i].fr.toNat<q1n.length:=by omega
   have y2:a.edges[i].to.toNat<q1n.length:=by omega
   rw[<-hq1] at x2 x4;repeat first|simp[hlt]|refine sR ?_|refine sC ?_
   refine⟨fun he=>?_,fun hne=>?_⟩
   .repeat first|simp[hlb,x1,x2,x3,x4,y1,y2]|refine sR ?_
    refine⟨⟨by omega,htk.live⟩,?_⟩;repeat first|simp[hw]|refine sR ?_
    refine sE ?_;exact⟨⟨i+1,_,_,_⟩,⟨hlt,htk.app⟩,by simp only;omega,wM htk.app.le rfl (by simp[ToL,lk]) (by simp[BoxL,lk,repE,hlt,hlb,he,y1,y2])⟩
   .repeat first|simp[hw]|refine sR ?_
    refine sE ?_;exact⟨⟨i+1,own2,tok',nt'⟩,⟨hlt,htk⟩,by simp only;omega,wM htk.le rfl (by simp[ToL,lk]) (by simp[BoxL,lk,repE,hlt,hlb,hne])⟩
  .refine sX ?_;simp only[AU,↓reduceIte];have:i=L2.length:=by omega
   subst this;repeat first|simp|refine sR ?_
   refine sT (sG Hb Ht htk.old htk.le ?_);simp
theorem pthen_c(m n:Mo)(hm:m.Fit)(hn:∀x∈m.nodes,0<=x/\x<n.nodes.length)(he:∀x∈m.edges,0<=x/\x<n.edges.length):DC 327 [m.av,n.av] (thenM m n).av:=by
 intro tok nt box nb;have h1:=follow_c m.nodes n.nodes hm.n hn;have h2:=follow_c m.edges n.edges hm.e he;refine sI func327 ntmps327 fun Hb Ht=>?_
 repeat first|simp|refine sR ?_
 refine sD (h1 _ _) ?_;repeat first|simp|refine sR ?_
 refine sD (h2 _ _) ?_;repeat first|simp|refine sR ?_
 refine sT (sH Hb Ht ?_);simp[thenM]
theorem pspan_c(a b c:Gr)(f g:Mo)(ha:a.Fit)(hb:b.Fit)(hc:c.Fit)(hf:validM a b f=0)(hg:validM a c g=0):DC 298 [spanAv a b c f g] (I 0):=by
 intro tok nt box nb;have h1:=valid51_c a b f ha hb;have h2:=valid51_c a c g ha hc;rw[hf] at h1;rw[hg] at h2;refine sI func298 ntmps298 fun Hb Ht=>?_
 repeat first|simp|refine sR ?_
 refine sD (h1 _ _) ?_;repeat first|simp|refine sR ?_
 refine sC ?_;repeat first|simp|refine sR ?_
 refine sD (h2 _ _) ?_;repeat first|simp|refine sR ?_
 refine sT (sH Hb Ht ?_);simp
theorem pglue_c(a b c:Gr)(f g:Mo)(hf:Emb a b f)(hg:Emb a c g):DC 299 [spanAv a b c f g] (.tup [(pushR b c f g).1.g.av,(pushR b c f g).1.l.av,(pushR b c f g).1.r.av,I (pushR b c f g).2]):=by
 intro tok nt box nb;obtain⟨ff,fa,fb⟩:=hf.fit;obtain⟨fg,_,fc⟩:=hg.fit;have v:=hf.vm;have w:=hg.vm;have hun:=union_c b c fb fc v.vb w.vb;refine sI func299 ntmps299 fun Hb Ht=>?_
 repeat first|simp|refine sR ?_
 refine sD (hun _ _) ?_;simp;by_cases hb:poBig b c
 .have hb':40<b.nodes.length+c.nodes.length∨80<b.edges.length+c.edges.length:=hb
  have hR:pushR b c f g=(⟨⟨[],[]⟩,⟨[],[]⟩,⟨[],[]⟩⟩,3):=if_pos hb
  rw[if_pos hb'];repeat first|simp|refine sR ?_
  refine sC ?_;repeat first|simp|refine sR ?_
  refine sT (sH Hb Ht ?_);simp[hR,ints,AM.edges]
 .have hb':¬(40<b.nodes.length+c.nodes.length∨80<b.edges.length+c.edges.length):=hb
  have hR:pushR b c f g=(pushO b c f g,0):=if_neg hb
  rw[if_neg hb'];have hp:=spn_pair hf hg;obtain⟨rl1,rl2,rl3⟩:=pushO_r hp;have mn:=mt_n hf hg;have me:=mt_e hf hg;have p1:=ppairs_c f.nodes g.nodes (iota b.nodes.length) (iotaF b.nodes.length c.nodes.length) b.nodes.length mn.l ff.n v.n (by rw[iotaF_len];exact w.n) rfl (by rw[iotaF_len]);have p2:=ppairs_c f.edges g.edges (iota b.edges.length) (iotaF b.edges.length c.edges.length) b.edges.length me.l ff.e v.e (by rw[iotaF_len];exact w.e) rfl (by rw[iotaF_len]);have hfit:=unG_fit hb';have ln:(unG b c).nodes.length=b.nodes.length+c.nodes.length:=by simp[unG]
  have le:(unG b c).edges.length=b.edges.length+c.edges.length:=by simp[unG]
  have g1:=generateP_c b.nodes.length c.nodes.length f.nodes g.nodes mn (by omega);have g2:=generateP_c b.edges.length c.edges.length f.edges g.edges me (by omega);rw[<-ln] at g1;rw[<-le] at g2;have q:=pquotient_c (unG b c) _ _ _ _ hfit g1 g2 (by rw[genX_len,mtI_len,ln]) (by rw[genX_len,mtI_len,le]) (by omega) (genX_part (isM_in hp.1)) (genX_part (isM_in hp.2)) (unG_ok (validG_edges v.vb) (validG_edges w.vb));rw[quot_glue (validG_edges v.vb) (validG_edges w.vb) hp] at q;have hpo:glue b c (mtI f.nodes g.nodes c.nodes.length) (mtI f.edges g.edges c.edges.length)=pushO b c f g:=rfl
  rw[hpo] at q;have e3:thenM (idM b) ⟨iota b.nodes.length++(pushO b c f g).r.nodes,iota b.edges.length++(pushO b c f g).r.edges⟩=idM b:=by simp only[thenM,idM,byK_lo]
  have e4:thenM ⟨iotaF b.nodes.length c.nodes.length,iotaF b.edges.length c.edges.length⟩ ⟨iota b.nodes.length++(pushO b c f g).r.nodes,iota b.edges.length++(pushO b c f g).r.edges⟩=(pushO b c f g).r:=by
   simp only[thenM];rw[<-rl1,<-rl2,byK_hi,byK_hi]
  have i1:∀(n:Nat) (r:List Int),∀x∈iota n,0<=x/\x<(iota n++r).length:=fun n r x hx=>by
   obtain⟨j,hj,rfl⟩:=mem_getD hx;rw[iota_len] at hj;rw[iota_getD hj,List.length_append,iota_len];omega
  have i2:∀(n k:Nat) (r:List Int),r.length=k->∀x∈iotaF n k,0<=x/\x<(iota n++r).length:=fun n k r hr x hx=>by
   obtain⟨j,hj,rfl⟩:=mem_getD hx;rw[iotaF_len] at hj;rw[iotaF_get hj,List.length_append,iota_len];omega
  have t3:=pthen_c (idM b) ⟨iota b.nodes.length++(pushO b c f g).r.nodes,iota b.edges.length++(pushO b c f g).r.edges⟩ ⟨by simp only[idM,iota_len];exact fb.n,by simp only[idM,iota_len];exact fb.e⟩ (i1 _ _) (i1 _ _);have t4:=pthen_c ⟨iotaF b.nodes.length c.nodes.length,iotaF b.edges.length c.edges.length⟩ ⟨iota b.nodes.length++(pushO b c f g).r.nodes,iota b.edges.length++(pushO b c f g).r.edges⟩ ⟨by simp only[iotaF_len];exact fc.n,by simp only[iotaF_len];exact fc.e⟩ (i2 _ _ _ rl1) (i2 _ _ _ rl2);rw[e3] at t3;rw[e4] at t4;rw[hR];simp only;rw[rl3];have hid:idM b=⟨iota b.nodes.length,iota b.edges.length⟩:=rfl
  rw[hid] at t3 ⊢;generalize pushO b c f g=o at *;generalize unG b c=u at *;generalize (⟨iota b.nodes.length++o.r.nodes,iota b.edges.length++o.r.edges⟩:Mo)=qq at *;generalize prK b.nodes.length f.nodes g.nodes f.nodes.length=r1 at *;generalize prK b.edges.length f.edges g.edges f.edges.length=r2 at *;generalize iotaF b.nodes.length c.nodes.length=j1 at *;generalize iotaF b.edges.length c.edges.length=j2 at *;generalize iota b.nodes.length=k1 at *;generalize iota b.edges.length=k2 at *;repeat first|simp|refine sR ?_
  refine sC ?_;repeat first|simp|refine sR ?_
  refine sD (p1 _ _) ?_;repeat first|simp|refine sR ?_
  refine sD (p2 _ _) ?_;repeat first|simp|refine sR ?_
  refine sD (q _ _) ?_;repeat first|simp|refine sR ?_
  refine sC ?_;repeat first|simp|refine sR ?_
  refine sD (t3 _ _) ?_;repeat first|simp|refine sR ?_
  refine sD (t4 _ _) ?_;repeat first|simp|refine sR ?_
  refine sT (sH Hb Ht ?_);simp
theorem pushP_c(a b c:Gr)(f g:Mo)(hf:Emb a b f)(hg:Emb a c g):DC 269 [spanAv a b c f g] (.tup [(pushR b c f g).1.g.av,(pushR b c f g).1.l.av,(pushR b c f g).1.r.av,I (pushR b c f g).2]):=by
 intro tok nt box nb;obtain⟨ff,fa,fb⟩:=hf.fit;obtain⟨fg,_,fc⟩:=hg.fit;have h1:=pspan_c a b c f g fa fb fc hf.v hg.v;have h2:=pglue_c a b c f g hf hg;refine sI func269 ntmps269 fun Hb Ht=>?_
 repeat first|simp|refine sR ?_
 refine sD (h1 _ _) ?_;repeat first|simp|refine sR ?_
 refine sC ?_;repeat first|simp|refine sR ?_
 refine sD (h2 _ _) ?_;repeat first|simp|refine sR ?_
 refine sT (sH Hb Ht ?_);simp
theorem yes_c:DC 297 [] (cdOf 1 []).av:=by
 intro tok nt box nb;refine sI func297 ntmps297 fun Hb Ht=>?_
 repeat first|simp|refine sR ?_
 refine sT (sH Hb Ht ?_);simp[cdOf,Cd.kind,Cd.kids,Cd.m,Cd.g,Cd.sl,Cd.vars,Cd.te,conds,ints,AM.edges,slots,tests]
theorem no_c:DC 266 [] noC.av:=by
 intro tok nt box nb;have h:=yes_c;refine sI func266 ntmps266 fun Hb Ht=>?_
 repeat first|simp|refine sR ?_
 refine sD (h _ _) ?_;repeat first|simp|refine sR ?_
 refine sT (sH Hb Ht ?_);simp[noC,Cd.cells,Cd.rows,cdOf,Cd.kind,Cd.kids,Cd.m,Cd.g,Cd.sl,Cd.vars,Cd.te,conds,ints,AM.edges,slots,tests]
theorem tof_c(r:Ru):DC 85 [r.av] (spAv r.sp):=by
 intro tok nt box nb;refine sI func85 ntmps85 fun Hb Ht=>?_
 repeat first|simp|refine sR ?_
 refine sT (sH Hb Ht ?_);simp[Ru.sp]
def stAt(l images:List Int)(nb:Nat)(box:Bxs)(x:Acc):AS:=⟨tl [(11,I x.i),(10,I images.length),(9,.d (ints images)),(0,.d (ints l)),(5,.osl 1 (rI (mapK (indexI l) images x.i)) x.own)],lb nb box [],x.tok,x.nt⟩
theorem at_c(l images:List Int)(h1:l.length<=1000000)(h2:images.length<=1000000)(tok:Tks)(nt:Nat):DCall prog 267 [.d (ints l),.d (ints images)] tok nt (.d (ints (images.map (indexI l)))) tok nt:=by
 rw[<-mapK_all];intro box nb;have hh:=fun v=>index_c l v h1
 refine sI func267 ntmps267 fun Hb Ht=>?_
 repeat first|simp|refine sR ?_
 refine sN ?_;refine sL (stAt l images nb box) (fun x=>x.i<=images.length/\TK tok nt x.tok x.nt [x.own]) (fun x=>images.length-x.i) ⟨0,.full,tok,nt⟩ ⟨Nat.zero_le _,(TK.start Ht).full⟩ (wM (nr _) rfl (by simp[ToL,lk,mapK_zero]) trivial) ?_;rintro⟨i,own,tok',nt'⟩ S ⟨hi,htk⟩ hS;simp only[stAt] at hS hi htk;subst hS;have hw:=sW (i:=i) (by omega);have hlen:=mapK_len (indexI l) images i;repeat first|simp|refine sR ?_|refine sC ?_
 refine⟨fun hlt=>?_,fun hge=>?_⟩
 .have hsc:=mapK_succ (indexI l) images hlt;repeat first|simp[hlt]|refine sR ?_
  refine sD (hh _ _ _) ?_;repeat first|simp|refine sR ?_
  refine⟨⟨by omega,htk.live⟩,?_⟩;repeat first|simp[hw]|refine sR ?_
  refine sE ?_;exact⟨⟨i+1,_,_,_⟩,⟨hlt,htk.app⟩,by simp only;omega,wM htk.app.le rfl (by simp[ToL,lk,hsc]) trivial⟩
 .refine sX ?_;simp only[AU,↓reduceIte];have:i=images.length:=by omega
  subst this;repeat first|simp|refine sR ?_
  refine sT (sG Hb Ht htk.old htk.le ?_);simp
def stPk(l which:List Int)(nb:Nat)(box:Bxs)(x:Acc):AS:=⟨tl [(11,I x.i),(10,I which.length),(9,.d (ints which)),(0,.d (ints l)),(5,.osl 1 (rI (byK which l x.i)) x.own)],lb nb box [],x.tok,x.nt⟩
theorem picked_c(l which:List Int)(h2:which.length<=1000000)(hr:∀x∈which,0<=x/\x<l.length):DC 268 [.d (ints l),.d (ints which)] (.d (ints (byK which l which.length))):=by
 intro tok nt box nb;refine sI func268 ntmps268 fun Hb Ht=>?_
 repeat first|simp|refine sR ?_
 refine sN ?_;refine sL (stPk l which nb box) (fun x=>x.i<=which.length/\TK tok nt x.tok x.nt [x.own]) (fun x=>which.length-x.i) ⟨0,.full,tok,nt⟩ ⟨Nat.zero_le _,(TK.start Ht).full⟩ (wM (nr _) rfl (by simp[ToL,lk,byK_zero]) trivial) ?_;rintro⟨i,own,tok',nt'⟩ S ⟨hi,htk⟩ hS;simp only[stPk] at hS hi htk;subst hS;have hw:=sW (i:=i) (by omega);repeat first|simp|refine sR ?_|refine sC ?_
 refine⟨fun hlt=>?_,fun hge=>?_⟩
 .obtain⟨x0,x1⟩:=hr _ (List.getElem_mem hlt);have x2:which[i].toNat<l.length:=by omega
  repeat first|simp[hlt,x0,x1,x2]|refine sR ?_
  refine⟨⟨by omega,htk.live⟩,?_⟩;repeat first|simp[hw]|refine sR ?_
  refine sE ?_;exact⟨⟨i+1,_,_,_⟩,⟨hlt,htk.app⟩,by simp only;omega,wM htk.app.le rfl (by simp[ToL,lk,byK_succ which l hlt,x2]) trivial⟩
 .refine sX ?_;simp only[AU,↓reduceIte];have:i=which.length:=by omega
  subst this;repeat first|simp|refine sR ?_
  refine sT (sG Hb Ht htk.old htk.le ?_);simp
def stBk(part into keep:List Int)(nb:Nat)(box:Bxs)(x:Acc):AS:=⟨tl [(13,I x.i),(12,I part.length),(11,.d (ints part)),(1,.d (ints into)),(2,.d (ints keep)),(7,.osl 1 (rI (byK (part.map (indexI into)) keep x.i)) x.own)],lb nb box [],x.tok,x.nt⟩
theorem backwards_c(part into keep:List Int)(h1:part.length<=1000000)(h2:into.length<=1000000)(hs:∀x∈part,x∈into)(hk:into.length<=keep.length):DC 270 [.d (ints part),.d (ints into),.d (ints keep)] (.d (ints (byK (part.map (indexI into)) keep (part.map (indexI into)).length))):=by
 intro tok nt box nb;have hh:=fun v=>index_c into v h2
 refine sI func270 ntmps270 fun Hb Ht=>?_
 repeat first|simp|refine sR ?_
 refine sN ?_;refine sL (stBk part into keep nb box) (fun x=>x.i<=part.length/\TK tok nt x.tok x.nt [x.own]) (fun x=>part.length-x.i) ⟨0,.full,tok,nt⟩ ⟨Nat.zero_le _,(TK.start Ht).full⟩ (wM (nr _) rfl (by simp[ToL,lk,byK_zero]) trivial) ?_;rintro⟨i,own,tok',nt'⟩ S ⟨hi,htk⟩ hS;simp only[stBk] at hS hi htk;subst hS;have hw:=sW (i:=i) (by omega);repeat first|simp|refine sR ?_|refine sC ?_
 refine⟨fun hlt=>?_,fun hge=>?_⟩
 .obtain⟨x0,x1⟩:=mem_indexI hs i hlt;have x2:(indexI into part[i]).toNat<keep.length:=by omega
  have x3:indexI into part[i]<keep.length:=by omega
  have hsc:=byK_succ (part.map (indexI into)) keep (i:=i) (by simpa using hlt);rw[List.getElem_map] at hsc;repeat first|simp[hlt]|refine sR ?_
  refine sD (hh _ _ _) ?_;simp;repeat first|simp[x0,x2,x3]|refine sR ?_
  refine⟨⟨by omega,htk.live⟩,?_⟩;repeat first|simp[hw]|refine sR ?_
  refine sE ?_;exact⟨⟨i+1,_,_,_⟩,⟨hlt,htk.app⟩,by simp only;omega,wM htk.app.le rfl (by simp[ToL,lk,hsc,x2]) trivial⟩
 .refine sX ?_;simp only[AU,↓reduceIte];have:i=part.length:=by omega
  subst this;repeat first|simp|refine sR ?_
  refine sT (sG Hb Ht htk.old htk.le ?_);simp
def stSt(r:Ru)(nb:Nat)(box:Bxs)(tok:Tks)(nt:Nat)(i:Nat):AS :=
 ⟨tl [(72,I i),(71,I 2),(70,.osl 5 [[ints r.lg.nodes,AM.edges r.lg.edges,slots r.lsl,.raw (.int .i64 r.lv),tests r.lte],[ints r.rg.nodes,AM.edges r.rg.edges,slots r.rsl,.raw (.int .i64 r.rv),tests r.rte]] .full),(1,.ptr (nb+1) 0 0)],lb nb box [(1,[r.row])],tok,nt⟩
theorem structural_c(r:Ru)(hr:r.Fit):DC 83 [r.av] (I (strR r)):=by
 intro tok nt box nb;have h1:=graphValid_c r.lg hr.lg;have h2:=graphValid_c r.rg hr.rg;have h3:=validP_c r.lg r.k hr.lg hr.k;have h4:=fun h=>extractP_c r.lg r.k hr.lg hr.k h
 have h5:=fun h=>valid51_c (exG r.lg r.k) r.rg r.i h hr.rg
 have h6:=fun h=>injective56_c (exG r.lg r.k) r.rg r.i h hr.rg hr.i
 refine sI func83 ntmps83 fun Hb Ht=>?_
 repeat first|simp|refine sR ?_
 refine sD (h1 _ _) ?_;repeat first|simp|refine sR ?_
 by_cases e1:vG r.lg=0
 .simp only[e1];refine sC ?_;repeat first|simp|refine sR ?_
  refine sD (h2 _ _) ?_;repeat first|simp|refine sR ?_
  by_cases e2:vG r.rg=0
  .simp only[e2];refine sC ?_;repeat first|simp|refine sR ?_
   refine sD (h3 _ _) ?_;repeat first|simp|refine sR ?_
   by_cases e3:validP r.lg r.k=0
   .simp only[e3];refine sC ?_;repeat first|simp|refine sR ?_
    have hp:=VP.of e3;have hx:=hp.emb.fit.2.1;refine sD (h4 hp _ _) ?_;repeat first|simp|refine sR ?_
    refine sC ?_;repeat first|simp|refine sR ?_
    refine sD (h5 hx _ _) ?_;repeat first|simp|refine sR ?_
    by_cases e4:validM (exG r.lg r.k) r.rg r.i=0
    .simp only[e4];refine sC ?_;repeat first|simp|refine sR ?_
     refine sD (h6 hx _ _) ?_;repeat first|simp|refine sR ?_
     cases e5:injM (exG r.lg r.k) r.rg r.i
     .refine sC ?_;repeat first|simp|refine sR ?_
      refine sT (sH Hb Ht ?_);simp[strR,e1,e2,e3,e4,e5]
     .refine sC ?_;repeat first|simp|refine sR ?_
      have hls:=hr.ls;have hlt:=hr.lt;have hrs:=hr.rs;have hrt:=hr.rt;rw[bigN_eq] at hls hlt hrs hrt;have w1:IntKind.i64.wrap ((r.lsl.length:Int)+r.lte.length)=((r.lsl.length+r.lte.length:Nat):Int):=by rw[wrap_in (by omega) (by omega)];omega
      have w2:IntKind.i64.wrap ((r.rsl.length:Int)+r.rte.length)=((r.rsl.length+r.rte.length:Nat):Int):=by rw[wrap_in (by omega) (by omega)];omega
      refine⟨rfl,?_⟩;repeat first|simp|refine sR ?_
      refine sN ?_;refine sL (stSt r nb box tok nt) (fun i=>i<=2/\(1<=i->r.plainL)/\(2<=i->r.plainR)) (fun i=>2-i) 0 ⟨by omega,by omega,by omega⟩ wkA ?_;rintro i S ⟨hi,hpl,hpr⟩ hS;simp only[stSt] at hS;subst hS;obtain rfl|rfl|rfl:i=0∨i=1∨i=2:=by omega
      .have hw:IntKind.i64.wrap 1=1:=rfl
       repeat (first|simp|refine sR ?_)
       refine sC ?_
       repeat (first|simp|refine sR ?_)
       by_cases s1:(0:Int)<(r.lsl.length:Int)+r.lte.length
       .have hne:¬r.plainL:=fun h=>by have:=h.1;omega
        repeat first|simp[w1,s1]|refine sR ?_
        refine sC ?_;repeat first|simp|refine sR ?_
        refine sT (sH Hb Ht ?_);simp[strR,e1,e2,e3,e4,e5,hne]
       .by_cases s2:r.lv=0
        .have hyes:r.plainL:=⟨by omega,s2⟩
         have b2:(r.lv != 0)=false:=by simp[s2]
         repeat first|simp[w1,s1,b2]|refine sR ?_
         refine sC ?_;simp;repeat first|simp[hw]|refine sR ?_
         refine sE ?_;exact⟨1,⟨by omega,fun _=>hyes,by omega⟩,by omega,wkA⟩
        .have hne:¬r.plainL:=fun h=>s2 h.2
         have b2:(r.lv != 0)=true:=by simp[s2]
         repeat first|simp[w1,s1,b2]|refine sR ?_
         refine sC ?_;repeat first|simp|refine sR ?_
         refine sT (sH Hb Ht ?_);simp[strR,e1,e2,e3,e4,e5,hne]
      .have hw:IntKind.i64.wrap 2=2:=rfl
       have hl:=hpl (by omega);repeat (first|simp|refine sR ?_)
       refine sC ?_
       repeat (first|simp|refine sR ?_)
       by_cases s1:(0:Int)<(r.rsl.length:Int)+r.rte.length
       .have hne:¬r.plainR:=fun h=>by have:=h.1;omega
        repeat first|simp[w2,s1]|refine sR ?_
        refine sC ?_;repeat first|simp|refine sR ?_
        refine sT (sH Hb Ht ?_);simp[strR,e1,e2,e3,e4,e5,hne]
       .by_cases s2:r.rv=0
        .have hyes:r.plainR:=⟨by omega,s2⟩
         have b2:(r.rv != 0)=false:=by simp[s2]
         repeat first|simp[w2,s1,b2]|refine sR ?_
         refine sC ?_;simp;repeat first|simp[hw]|refine sR ?_
         refine sE ?_;exact⟨2,⟨by omega,fun _=>hl,fun _=>hyes⟩,by omega,wkA⟩
        .have hne:¬r.plainR:=fun h=>s2 h.2
         have b2:(r.rv != 0)=true:=by simp[s2]
         repeat first|simp[w2,s1,b2]|refine sR ?_
         refine sC ?_;repeat first|simp|refine sR ?_
         refine sT (sH Hb Ht ?_);simp[strR,e1,e2,e3,e4,e5,hne]
      .have hl:=hpl (by omega);have hr2:=hpr (by omega);repeat first|simp|refine sR ?_|refine sC ?_
       refine sX ?_;simp only[AU,↓reduceIte];repeat first|simp|refine sR ?_
       cases hin:r.inj
       .refine sC ?_;repeat first|simp|refine sR ?_
        refine sT (sH Hb Ht ?_);simp[strR,e1,e2,e3,e4,e5,hl,hr2,hin]
       .refine sC ?_;repeat first|simp|refine sR ?_
        refine sT (sH Hb Ht ?_);simp[strR,e1,e2,e3,e4,e5,hl,hr2,hin]
    .have b4:(validM (exG r.lg r.k) r.rg r.i != 0)=true:=by simp[e4]
     simp only[b4];refine sC ?_;repeat first|simp|refine sR ?_
     refine sT (sH Hb Ht ?_);simp[strR,e1,e2,e3,e4]
   .have b3:(validP r.lg r.k != 0)=true:=by simp[e3]
    simp only[b3];refine sC ?_;repeat first|simp|refine sR ?_
    refine sT (sH Hb Ht ?_);simp[strR,e1,e2,e3]
  .have b2:(vG r.rg != 0)=true:=by simp[e2]
   simp only[b2];refine sC ?_;repeat first|simp|refine sR ?_
   refine sT (sH Hb Ht ?_);simp[strR,e1,e2]
 .have b1:(vG r.lg != 0)=true:=by simp[e1]
  simp only[b1];refine sC ?_;repeat first|simp|refine sR ?_
  refine sT (sH Hb Ht ?_);simp[strR,e1]
end Go.AM
