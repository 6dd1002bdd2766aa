/-
 Parts of the proof, as merged from many texts: a machine over data, what the functions compute, plain laws.
-/
import Derived.Test.YtebmobphgaiaiaaGreatPNA6
import Derived.Shelf.Sort.Plain
import Derived.Ground.Names2Prog
import Derived.Shelf.Slices.Clone
import Derived.Shelf.Slices.CompactI
import Derived.Shelf.Slices.In.SortNone
import Derived.Test.YtebmobphgaiaiaaGreatProg
import Derived.Test.YtebmobphgaiaiaaGreatChecked
import Derived.WalkKit
import Derived.Deep.LoopGhost
import Derived.Sort.OwnSortedInts
import Derived.Lib.OwnBridge
import Derived.RangeFuncBox
import Derived.RangeFuncLeaves
import Derived.Shelf.Abstract
import Derived.OwnWalkIn
import Derived.TacticsInMore
import Derived.LoopNIn
import Derived.LoopIn
import Derived.Maps.AppendAt
import Derived.Sort.EveryDepth
import Derived.Shelf.Small.Strs
import Derived.Shelf.Strings.Search1
import Derived.Shelf.Slices.Reverse
import Derived.Laws.Strings
import Derived.WideShapes
set_option linter.unusedSimpArgs false
set_option linter.unusedVariables false
namespace Go.AM
open Go Go.Proofs
open Go.Proofs.Tryz
theorem Sub.agg{xs ys:List AV}(h:SubL xs ys):Sub (.agg xs) (.agg ys):=fun G w v r=>by
 cases r with
 | agg hl hh h1=>have:=h.rvs ⟨hl,hh⟩;exact .agg this.1 this.2 h1
theorem foldl_all{α β:Type}{P:α->Prop}(f:List α->β->List α):∀(l:List β) (out:List α),(∀out b,b∈l->(∀o∈out,P o)->∀o∈f out b,P o)->(∀o∈out,P o)->∀o∈l.foldl f out,P o
 | [],out,_,h=>h
 | b::l,out,hf,h=>foldl_all f l _ (fun out b hb=>hf out b (by simp[hb])) (hf out b (by simp) h)
theorem ovE_all{P:Ov->Prop}(a b:Gr)(nodes:List Int):∀(n:Nat) (es:List Int) (out:List Ov),(∀o∈out,P o)->(∀es',es'.length=es.length+n->P (glue a b nodes es'))->∀o∈ovE a b nodes n es out,P o
 | 0,es,out,h,hg=>by
  unfold ovE;split
  .exact h
  .intro o ho;rcases List.mem_append.1 ho with ho|ho
   .exact h o ho
   .simp at ho;subst ho;exact hg es (by simp)
 | n+1,es,out,h,hg=>by
  unfold ovE;split
  .exact h
  .refine foldl_all _ _ _ (fun out k _ ho=>?_) (ovE_all a b nodes n _ _ h fun es' he=>hg es' (by simp at he;omega));split
   .exact ovE_all a b nodes n _ _ ho fun es' he=>hg es' (by simp at he;omega)
   .exact ho
theorem ovN_all{P:Ov->Prop}(a b:Gr):∀(n:Nat) (l:List Int) (out:List Ov),(∀o∈out,P o)->(∀l' es',l'.length=l.length+n->es'.length=b.edges.length->P (glue a b l' es'))->∀o∈ovN a b n l out,P o
 | 0,l,out,h,hg=>by
  unfold ovN;split
  .exact h
  .exact ovE_all a b l _ _ _ h fun es' he=>hg l es' (by simp) (by simpa using he)
 | n+1,l,out,h,hg=>by
  unfold ovN;split
  .exact h
  .refine foldl_all _ _ _ (fun out k _ ho=>?_) (ovN_all a b n _ _ h fun l' es' hl he=>hg l' es' (by simp at hl;omega) he);unfold ovStepN;split
   .exact ovN_all a b n _ _ ho fun l' es' hl he=>hg l' es' (by simp at hl;omega) he
   .exact ho
theorem glue_fit(a b:Gr)(l k:List Int)(ha:a.nodes.length<=90/\a.edges.length<=90)(hl:l.length<=90)(hk:k.length<=90):(glue a b l k).Fit:=by
 have h1:=glueN_len a.nodes b.nodes l l.length;have h2:=glueE_len a.edges b.edges (glueN a.nodes b.nodes l l.length).2 k k.length;exact⟨⟨by simp only[glue];omega,by simp only[glue];omega⟩,⟨by simp[glue,idM];omega,by simp[glue,idM];omega⟩,⟨by simp only[glue];omega,by simp only[glue];omega⟩⟩
theorem overlapsR_fit(a b:Gr)(ha:a.nodes.length<=90/\a.edges.length<=90)(hb:b.nodes.length<=90/\b.edges.length<=90):(oR a b).1.length<=1000000/\∀o∈(oR a b).1,o.Fit:=by
 have key:∀o∈ovN a b b.nodes.length [] [],o.Fit:=ovN_all a b _ _ _ (by simp) fun l' es' h1 h2=>glue_fit a b l' es' ha (by simp at h1;omega) (by omega)
 unfold oR;split
 .simp
 .split
  .simp
  .split
   .simp
   .split
    .simp
    .exact⟨by simp only;omega,key⟩
def firstE(f:Nat->Int):Nat->Int
 | 0=>0
 | n+1=>if firstE f n=0 then f n else firstE f n
theorem firstE_stop{f:Nat->Int}{i:Nat}(h0:firstE f i=0)(h:f i≠0):∀n,i<n->firstE f n=f i
 | 0,hn=>by omega
 | n+1,hn=>by
  simp only[firstE];by_cases e:i=n
  .subst e;rw[if_pos h0]
  .rw[firstE_stop h0 h n (by omega),if_neg h]
def nodeE(a b:Gr)(m:Mo)(i:Nat):Int :=
 if m.nodes.getD i 0<0∨(b.nodes.length:Int)<=m.nodes.getD i 0 then 6 else if b.nodes.getD (m.nodes.getD i 0).toNat 0=a.nodes.getD i 0 then 0 else 13
def edgeE(a b:Gr)(m:Mo)(i:Nat):Int :=
 if m.edges.getD i 0<0∨(b.edges.length:Int)<=m.edges.getD i 0 then 6 else
  let x:=a.edges.getD i default
  let y:=b.edges.getD (m.edges.getD i 0).toNat default
  if x.ty≠y.ty then 13 else if m.nodes.getD x.fr.toNat 0≠y.fr∨m.nodes.getD x.to.toNat 0≠y.to then 11 else 0
def validM(a b:Gr)(m:Mo):Int :=
 if vG a≠0 then vG a else if vG b≠0 then vG b else if m.nodes.length≠a.nodes.length∨m.edges.length≠a.edges.length then 20
 else if firstE (nodeE a b m) a.nodes.length≠0 then firstE (nodeE a b m) a.nodes.length else firstE (edgeE a b m) a.edges.length
def st51a(a b:Gr)(m:Mo)(nb:Nat)(box:Bxs)(tok:Tks)(nt:Nat)(i:Nat):AS :=
 ⟨tl [(3,.ptr (nb+3) 0 0),(4,.ptr (nb+4) 0 0),(5,.ptr (nb+5) 0 0),(42,.d (ints m.nodes)),(43,I m.nodes.length),(44,I i)],
  lb nb box [(3,[[.d (ints a.nodes),.d (AM.edges a.edges)]]),(4,[[.d (ints b.nodes),.d (AM.edges b.edges)]]),(5,[[.d (ints m.nodes),.d (ints m.edges)]])],tok,nt⟩
def st51b(a b:Gr)(m:Mo)(nb:Nat)(box:Bxs)(tok:Tks)(nt:Nat)(i:Nat):AS :=
 ⟨tl [(3,.ptr (nb+3) 0 0),(4,.ptr (nb+4) 0 0),(5,.ptr (nb+5) 0 0),(71,.d (ints m.edges)),(72,I m.edges.length),(73,I i)],
  lb nb box [(3,[[.d (ints a.nodes),.d (AM.edges a.edges)]]),(4,[[.d (ints b.nodes),.d (AM.edges b.edges)]]),(5,[[.d (ints m.nodes),.d (ints m.edges)]])],tok,nt⟩
theorem valid51_c(a b:Gr)(m:Mo)(ha:a.Fit)(hb:b.Fit):DC 115 [a.av,b.av,m.av] (I (validM a b m)):=by
 intro tok nt box nb;have han:=ha.n;have hae:=ha.e;have hbn:=hb.n;have hbe:=hb.e;refine sI func115 ntmps115 fun Hb Ht=>?_
 refine sR ?_;simp;refine sR ?_;simp;refine sD (graphValid_c a ha _ _) ?_;simp;by_cases hva:vG a=0
 .refine sR ?_;simp[hva];refine sC ?_;simp;refine sR ?_;simp;refine sD (graphValid_c b hb _ _) ?_;simp;by_cases hvb:vG b=0
  .refine sR ?_;simp[hvb];refine sC ?_;simp;have hxa:=validG_edges hva;have hxb:=validG_edges hvb;refine sR ?_;simp;by_cases hl1:m.nodes.length=a.nodes.length
   .simp[hl1];refine sC ?_;simp;refine⟨fun hl2=>?_,fun hl2=>?_⟩
    .refine sR ?_;simp;have hR:validM a b m=20:=by
      have:¬m.edges.length=a.edges.length:=by omega
      simp[validM,hva,hvb,this]
     refine sT (sH Hb Ht ?_);simp[hR]
    .refine sR ?_;simp;refine sN ?_;have hl2':m.edges.length=a.edges.length:=by omega
     have hRn:∀i,i<a.nodes.length->firstE (nodeE a b m) i=0->nodeE a b m i≠0->validM a b m=nodeE a b m i:=fun i hi h0 hne=>by
      have:=firstE_stop h0 hne a.nodes.length hi
      simp[validM,hva,hvb,hl1,hl2',this,hne]
     refine sL (st51a a b m nb box tok nt) (fun i=>i<=m.nodes.length/\firstE (nodeE a b m) i=0) (fun i=>m.nodes.length-i) 0 ⟨Nat.zero_le _,rfl⟩ wkA ?_;rintro i S ⟨hi,hok⟩ hS;simp only[st51a] at hS;subst hS;have hw:=sW (i:=i) (by omega);refine sR ?_;simp;refine sC ?_;simp;refine⟨fun hlt=>?_,fun hge=>?_⟩
     .have hia:i<a.nodes.length:=by omega
      have hgm:m.nodes.getD i 0=m.nodes[i]:=by simp[hlt]
      have hga:a.nodes.getD i 0=a.nodes[i]:=by simp[hia]
      refine sR ?_;simp[hlt];by_cases hneg:m.nodes[i]<0
      .refine sR ?_;simp[hneg];refine sC ?_;simp;refine sR ?_;simp;have hN:nodeE a b m i=6:=by simp only[nodeE,hgm];rw[if_pos (.inl hneg)]
       have hR:=hRn i hia hok (by rw[hN];decide);refine sT (sH Hb Ht ?_);simp[hR,hN]
      .refine sR ?_;simp[hneg];refine sC ?_;simp;refine⟨fun hbig=>?_,fun hsm=>?_⟩
       .refine sR ?_;simp;have hN:nodeE a b m i=6:=by simp only[nodeE,hgm];rw[if_pos (.inr (by omega))]
        have hR:=hRn i hia hok (by rw[hN];decide);refine sT (sH Hb Ht ?_);simp[hR,hN]
       .have hkb:m.nodes[i].toNat<b.nodes.length:=by omega
        have h0:0<=m.nodes[i]:=by omega
        have hgb:b.nodes.getD m.nodes[i].toNat 0=b.nodes[m.nodes[i].toNat]:=by simp[hkb]
        have hnb:¬(b.nodes.length:Int)<=m.nodes[i]:=by omega
        refine sR ?_;simp[hkb,h0,hsm,hia];refine sC ?_;simp;refine⟨fun hne=>?_,fun heq=>?_⟩
        .refine sR ?_;simp;have hN:nodeE a b m i=13:=by simp only[nodeE,hgm,hga,hgb];rw[if_neg (by omega),if_neg hne]
         have hR:=hRn i hia hok (by rw[hN];decide);refine sT (sH Hb Ht ?_);simp[hR,hN]
        .refine sR ?_;simp[hw];refine sE ?_;refine⟨i+1,⟨hlt,?_⟩,by omega,wkA⟩;have hN:nodeE a b m i=0:=by simp only[nodeE,hgm,hga,hgb];rw[if_neg (by omega),if_pos heq]
         simp only[firstE,hok,hN,↓reduceIte]
     .refine sX ?_;simp only[AU,↓reduceIte];have hin:i=a.nodes.length:=by omega
      subst hin;refine sR ?_;simp;refine sN ?_;have hRe:∀i,i<a.edges.length->firstE (edgeE a b m) i=0->edgeE a b m i≠0->validM a b m=edgeE a b m i:=fun i hi h0 hne=>by
       have:=firstE_stop h0 hne a.edges.length hi
       simp[validM,hva,hvb,hl1,hl2',hok,this]
      refine sL (st51b a b m nb box tok nt) (fun i=>i<=m.edges.length/\firstE (edgeE a b m) i=0) (fun i=>m.edges.length-i) 0 ⟨Nat.zero_le _,rfl⟩ wkA ?_;rintro i S ⟨hi,hoke⟩ hS;simp only[st51b] at hS;subst hS;have hw:=sW (i:=i) (by omega);refine sR ?_;simp;refine sC ?_;simp;refine⟨fun hlt=>?_,fun hge=>?_⟩
      .have hia:i<a.edges.length:=by omega
       have hgm:m.edges.getD i 0=m.edges[i]:=by simp[hlt]
       have hga:a.edges.getD i default=a.edges[i]:=by simp[hia]
       obtain⟨x1,x2,x3,x4⟩:=hxa _ (List.getElem_mem hia);rw[<-hl1] at x2 x4;have y1:a.edges[i].fr.toNat<m.nodes.length:=by omega
       have y2:a.edges[i].to.toNat<m.nodes.length:=by omega
       have hg1:m.nodes.getD a.edges[i].fr.toNat 0=m.nodes[a.edges[i].fr.toNat]:=by simp[y1]
       have hg2:m.nodes.getD a.edges[i].to.toNat 0=m.nodes[a.edges[i].to.toNat]:=by simp[y2]
       refine sR ?_;simp[hlt];by_cases hneg:m.edges[i]<0
       .refine sR ?_;simp[hneg];refine sC ?_;simp;refine sR ?_;simp;have hN:edgeE a b m i=6:=by simp only[edgeE,hgm];rw[if_pos (.inl hneg)]
        have hR:=hRe i hia hoke (by rw[hN];decide);refine sT (sH Hb Ht ?_);simp[hR,hN]
       .refine sR ?_;simp[hneg];refine sC ?_;simp;refine⟨fun hbig=>?_,fun hsm=>?_⟩
        .refine sR ?_;simp;have hN:edgeE a b m i=6:=by simp only[edgeE,hgm];rw[if_pos (.inr (by omega))]
         have hR:=hRe i hia hoke (by rw[hN];decide);refine sT (sH Hb Ht ?_);simp[hR,hN]
        .have hkb:m.edges[i].toNat<b.edges.length:=by omega
         have h0:0<=m.edges[i]:=by omega
         have hgb:b.edges.getD m.edges[i].toNat default=b.edges[m.edges[i].toNat]:=by simp[hkb]
         have hnn:¬(m.edges[i]<0∨(b.edges.length:Int)<=m.edges[i]):=by omega
         refine sN ?_;refine AL.region2 follows_Tryz (nr _) (by kernel_rfl) (Side.of (by simp)) ?_;simp[hkb,h0,hsm,hia];generalize hy:b.edges[m.edges[i].toNat]=y at *;refine sR ?_;simp;refine sC ?_;simp;refine⟨fun hty=>?_,fun hty=>?_⟩
         .refine sR ?_;simp;have hN:edgeE a b m i=13:=by simp only[edgeE,hgm,hga,hgb];rw[if_neg hnn,if_pos hty]
          have hR:=hRe i hia hoke (by rw[hN];decide);refine sT (sH Hb Ht ?_);simp[hR,hN]
         .refine sR ?_;simp[x1,x2,x3,x4,y1,y2];by_cases hfr:m.nodes[a.edges[i].fr.toNat]=y.fr
          .have hb1:(m.nodes[a.edges[i].fr.toNat] != y.fr)=false:=by simp[hfr]
           simp only[hb1];simp[x1,x2,x3,x4,y1,y2];refine sC ?_;simp;refine⟨fun hto=>?_,fun hto=>?_⟩
           .refine sR ?_;simp;have hN:edgeE a b m i=11:=by simp only[edgeE,hgm,hga,hgb,hg1,hg2];rw[if_neg hnn,if_neg (by simp[hty]),if_pos (.inr hto)]
            have hR:=hRe i hia hoke (by rw[hN];decide);refine sT (sH Hb Ht ?_);simp[hR,hN]
           .refine sR ?_;simp[hw];refine sE ?_;refine⟨i+1,⟨hlt,?_⟩,by omega,wkA⟩;have hN:edgeE a b m i=0:=by simp only[edgeE,hgm,hga,hgb,hg1,hg2];rw[if_neg hnn,if_neg (by simp[hty]),if_neg (by simp[hfr,hto])]
            simp only[firstE,hoke,hN,↓reduceIte]
          .have hb1:(m.nodes[a.edges[i].fr.toNat] != y.fr)=true:=by simp[hfr]
           simp only[hb1];simp;refine sC ?_;simp;refine sR ?_;simp;have hN:edgeE a b m i=11:=by simp only[edgeE,hgm,hga,hgb,hg1,hg2];rw[if_neg hnn,if_neg (by simp[hty]),if_pos (.inl hfr)]
           have hR:=hRe i hia hoke (by rw[hN];decide);refine sT (sH Hb Ht ?_);simp[hR,hN]
      .refine sX ?_;simp only[AU,↓reduceIte];have hin:i=a.edges.length:=by omega
       subst hin;refine sR ?_;simp;have hR:validM a b m=0:=by simp[validM,hva,hvb,hl1,hl2',hok,hoke]
       refine sT (sH Hb Ht ?_);simp[hR]
   .have hb1:((m.nodes.length:Int) != (a.nodes.length:Int))=true:=by simp;omega
    simp only[hb1];simp;refine sC ?_;simp;refine sR ?_;simp;have hR:validM a b m=20:=by simp[validM,hva,hvb,hl1]
    refine sT (sH Hb Ht ?_);simp[hR]
  .refine sR ?_;simp;refine sC ?_;simp[hvb];refine sR ?_;simp;refine sT (sH Hb Ht ?_);simp[validM,hva,hvb]
 .refine sR ?_;simp;refine sC ?_;simp[hva];refine sR ?_;simp;refine sT (sH Hb Ht ?_);simp[validM,hva]
def st53a(a b:Gr)(m:Mo)(nb:Nat)(box:Bxs)(tok:Tks)(nt:Nat)(i:Nat):AS :=
 ⟨tl [(3,.ptr (nb+3) 0 0),(4,.ptr (nb+4) 0 0),(5,.ptr (nb+5) 0 0),(9,I i)],
  lb nb box [(3,[[.d (ints a.nodes),.d (AM.edges a.edges)]]),(4,[[.d (ints b.nodes),.d (AM.edges b.edges)]]),(5,[[.d (ints m.nodes),.d (ints m.edges)]])],tok,nt⟩
def st53b(a b:Gr)(m:Mo)(nb:Nat)(box:Bxs)(tok:Tks)(nt:Nat)(i:Nat):AS :=
 ⟨tl [(3,.ptr (nb+3) 0 0),(4,.ptr (nb+4) 0 0),(5,.ptr (nb+5) 0 0),(10,I i)],
  lb nb box [(3,[[.d (ints a.nodes),.d (AM.edges a.edges)]]),(4,[[.d (ints b.nodes),.d (AM.edges b.edges)]]),(5,[[.d (ints m.nodes),.d (ints m.edges)]])],tok,nt⟩
theorem valid53_c(a b:Gr)(m:Mo)(ha:a.Fit)(hb:b.Fit):DC 110 [a.av,b.av,m.av] (I (validM a b m)):=by
 intro tok nt box nb;have han:=ha.n;have hae:=ha.e;have hbn:=hb.n;have hbe:=hb.e;refine sI func110 ntmps110 fun Hb Ht=>?_
 refine sR ?_;simp;refine sR ?_;simp;refine sD (valid05_c a ha _ _) ?_;simp;by_cases hva:vG a=0
 .refine sR ?_;simp[hva];refine sC ?_;simp;refine sR ?_;simp;refine sD (valid05_c b hb _ _) ?_;simp;by_cases hvb:vG b=0
  .refine sR ?_;simp[hvb];refine sC ?_;simp;have hxa:=validG_edges hva;have hxb:=validG_edges hvb;refine sR ?_;simp;by_cases hl1:m.nodes.length=a.nodes.length
   .simp[hl1];refine sC ?_;simp;refine⟨fun hl2=>?_,fun hl2=>?_⟩
    .refine sR ?_;simp;have hR:validM a b m=20:=by
      have:¬m.edges.length=a.edges.length:=by omega
      simp[validM,hva,hvb,this]
     refine sT (sH Hb Ht ?_);simp[hR]
    .refine sR ?_;simp;refine sN ?_;have hl2':m.edges.length=a.edges.length:=by omega
     have hRn:∀i,i<a.nodes.length->firstE (nodeE a b m) i=0->nodeE a b m i≠0->validM a b m=nodeE a b m i:=fun i hi h0 hne=>by
      have:=firstE_stop h0 hne a.nodes.length hi
      simp[validM,hva,hvb,hl1,hl2',this,hne]
     refine sL (st53a a b m nb box tok nt) (fun i=>i<=a.nodes.length/\firstE (nodeE a b m) i=0) (fun i=>a.nodes.length-i) 0 ⟨Nat.zero_le _,rfl⟩ wkA ?_;rintro i S ⟨hi,hok⟩ hS;simp only[st53a] at hS;subst hS;have hw:=sW (i:=i) (by omega);refine sR ?_;simp;refine sC ?_;simp;refine⟨fun hlt=>?_,fun hge=>?_⟩
     .have hia:i<a.nodes.length:=by omega
      have hlt:i<m.nodes.length:=by omega
      have hgm:m.nodes.getD i 0=m.nodes[i]:=by simp[hlt]
      have hga:a.nodes.getD i 0=a.nodes[i]:=by simp[hia]
      refine sR ?_;simp[hlt];by_cases hneg:m.nodes[i]<0
      .simp[hneg,hlt];refine sC ?_;simp;refine sR ?_;simp;have hN:nodeE a b m i=6:=by simp only[nodeE,hgm];rw[if_pos (.inl hneg)]
       have hR:=hRn i hia hok (by rw[hN];decide);refine sT (sH Hb Ht ?_);simp[hR,hN]
      .simp[hneg,hlt];refine sC ?_;simp;refine⟨fun hbig=>?_,fun hsm=>?_⟩
       .refine sR ?_;simp;have hN:nodeE a b m i=6:=by simp only[nodeE,hgm];rw[if_pos (.inr (by omega))]
        have hR:=hRn i hia hok (by rw[hN];decide);refine sT (sH Hb Ht ?_);simp[hR,hN]
       .have hkb:m.nodes[i].toNat<b.nodes.length:=by omega
        have h0:0<=m.nodes[i]:=by omega
        have hgb:b.nodes.getD m.nodes[i].toNat 0=b.nodes[m.nodes[i].toNat]:=by simp[hkb]
        have hnb:¬(b.nodes.length:Int)<=m.nodes[i]:=by omega
        refine sR ?_;simp[hkb,h0,hsm,hia,hlt];refine sC ?_;simp;refine⟨fun hne=>?_,fun heq=>?_⟩
        .refine sR ?_;simp;have hN:nodeE a b m i=13:=by simp only[nodeE,hgm,hga,hgb];rw[if_neg (by omega),if_neg hne]
         have hR:=hRn i hia hok (by rw[hN];decide);refine sT (sH Hb Ht ?_);simp[hR,hN]
        .refine sR ?_;simp[hw];refine sE ?_;refine⟨i+1,⟨hia,?_⟩,by omega,wkA⟩;have hN:nodeE a b m i=0:=by simp only[nodeE,hgm,hga,hgb];rw[if_neg (by omega),if_pos heq]
         simp only[firstE,hok,hN,↓reduceIte]
     .refine sX ?_;simp only[AU,↓reduceIte];have hin:i=a.nodes.length:=by omega
      subst hin;refine sR ?_;simp;refine sN ?_;have hRe:∀i,i<a.edges.length->firstE (edgeE a b m) i=0->edgeE a b m i≠0->validM a b m=edgeE a b m i:=fun i hi h0 hne=>by
       have:=firstE_stop h0 hne a.edges.length hi
       simp[validM,hva,hvb,hl1,hl2',hok,this]
      refine sL (st53b a b m nb box tok nt) (fun i=>i<=a.edges.length/\firstE (edgeE a b m) i=0) (fun i=>a.edges.length-i) 0 ⟨Nat.zero_le _,rfl⟩ wkA ?_;rintro i S ⟨hi,hoke⟩ hS;simp only[st53b] at hS;subst hS;have hw:=sW (i:=i) (by omega);refine sR ?_;simp;refine sC ?_;simp;refine⟨fun hlt=>?_,fun hge=>?_⟩
      .have hia:i<a.edges.length:=by omega
       have hlt:i<m.edges.length:=by omega
       have hgm:m.edges.getD i 0=m.edges[i]:=by simp[hlt]
       have hga:a.edges.getD i default=a.edges[i]:=by simp[hia]
       obtain⟨x1,x2,x3,x4⟩:=hxa _ (List.getElem_mem hia);rw[<-hl1] at x2 x4;have y1:a.edges[i].fr.toNat<m.nodes.length:=by omega
       have y2:a.edges[i].to.toNat<m.nodes.length:=by omega
       have hg1:m.nodes.getD a.edges[i].fr.toNat 0=m.nodes[a.edges[i].fr.toNat]:=by simp[y1]
       have hg2:m.nodes.getD a.edges[i].to.toNat 0=m.nodes[a.edges[i].to.toNat]:=by simp[y2]
       refine sR ?_;simp[hlt];by_cases hneg:m.edges[i]<0
       .simp[hneg,hlt];refine sC ?_;simp;refine sR ?_;simp;have hN:edgeE a b m i=6:=by simp only[edgeE,hgm];rw[if_pos (.inl hneg)]
        have hR:=hRe i hia hoke (by rw[hN];decide);refine sT (sH Hb Ht ?_);simp[hR,hN]
       .simp[hneg,hlt];refine sC ?_;simp;refine⟨fun hbig=>?_,fun hsm=>?_⟩
        .refine sR ?_;simp;have hN:edgeE a b m i=6:=by simp only[edgeE,hgm];rw[if_pos (.inr (by omega))]
         have hR:=hRe i hia hoke (by rw[hN];decide);refine sT (sH Hb Ht ?_);simp[hR,hN]
        .have hkb:m.edges[i].toNat<b.edges.length:=by omega
         have h0:0<=m.edges[i]:=by omega
         have hgb:b.edges.getD m.edges[i].toNat default=b.edges[m.edges[i].toNat]:=by simp[hkb]
         have hnn:¬(m.edges[i]<0∨(b.edges.length:Int)<=m.edges[i]):=by omega
         refine sN ?_;refine AL.region2 follows_Tryz (nr _) (by kernel_rfl) (Side.of (by simp)) ?_;simp[hkb,h0,hsm,hia,hlt];generalize hy:b.edges[m.edges[i].toNat]=y at *;refine sR ?_;simp;refine sC ?_;simp;refine⟨fun hty=>?_,fun hty=>?_⟩
         .refine sR ?_;simp;have hN:edgeE a b m i=13:=by simp only[edgeE,hgm,hga,hgb];rw[if_neg hnn,if_pos hty]
          have hR:=hRe i hia hoke (by rw[hN];decide);refine sT (sH Hb Ht ?_);simp[hR,hN]
         .refine sR ?_;simp[x1,x2,x3,x4,y1,y2];by_cases hfr:m.nodes[a.edges[i].fr.toNat]=y.fr
          .have hb1:(m.nodes[a.edges[i].fr.toNat] != y.fr)=false:=by simp[hfr]
           simp only[hb1];simp[x1,x2,x3,x4,y1,y2];refine sC ?_;simp;refine⟨fun hto=>?_,fun hto=>?_⟩
           .refine sR ?_;simp;have hN:edgeE a b m i=11:=by simp only[edgeE,hgm,hga,hgb,hg1,hg2];rw[if_neg hnn,if_neg (by simp[hty]),if_pos (.inr hto)]
            have hR:=hRe i hia hoke (by rw[hN];decide);refine sT (sH Hb Ht ?_);simp[hR,hN]
           .refine sR ?_;simp[hw];refine sE ?_;refine⟨i+1,⟨hia,?_⟩,by omega,wkA⟩;have hN:edgeE a b m i=0:=by simp only[edgeE,hgm,hga,hgb,hg1,hg2];rw[if_neg hnn,if_neg (by simp[hty]),if_neg (by simp[hfr,hto])]
            simp only[firstE,hoke,hN,↓reduceIte]
          .have hb1:(m.nodes[a.edges[i].fr.toNat] != y.fr)=true:=by simp[hfr]
           simp only[hb1];simp;refine sC ?_;simp;refine sR ?_;simp;have hN:edgeE a b m i=11:=by simp only[edgeE,hgm,hga,hgb,hg1,hg2];rw[if_neg hnn,if_neg (by simp[hty]),if_pos (.inl hfr)]
           have hR:=hRe i hia hoke (by rw[hN];decide);refine sT (sH Hb Ht ?_);simp[hR,hN]
      .refine sX ?_;simp only[AU,↓reduceIte];have hin:i=a.edges.length:=by omega
       subst hin;refine sR ?_;simp;have hR:validM a b m=0:=by simp[validM,hva,hvb,hl1,hl2',hok,hoke]
       refine sT (sH Hb Ht ?_);simp[hR]
   .have hb1:((m.nodes.length:Int) != (a.nodes.length:Int))=true:=by simp;omega
    simp only[hb1];simp;refine sC ?_;simp;refine sR ?_;simp;have hR:validM a b m=20:=by simp[validM,hva,hvb,hl1]
    refine sT (sH Hb Ht ?_);simp[hR]
  .refine sR ?_;simp;refine sC ?_;simp[hvb];refine sR ?_;simp;refine sT (sH Hb Ht ?_);simp[validM,hva,hvb]
 .refine sR ?_;simp;refine sC ?_;simp[hva];refine sR ?_;simp;refine sT (sH Hb Ht ?_);simp[validM,hva]
def covK(l k:List Int)(i:Nat):Bool:=(List.range i).all fun j=>decide ((j:Int)∈l)||decide ((j:Int)∈k)
def fewM(m:Mo)(n:Int):Bool:=decide ((m.nodes.length:Int)+m.edges.length<=n)
theorem few06_c(m:Mo)(n:Int)(h1:m.nodes.length<=281474976710656)(h2:m.edges.length<=281474976710656):DC 109 [m.av,I n] (B (fewM m n)):=by
 intro tok nt box nb;have hw:IntKind.i64.wrap (↑m.nodes.length+↑m.edges.length)=(m.nodes.length:Int)+m.edges.length:=wrap_in (by omega) (by omega)
 refine sI func109 ntmps109 fun Hb Ht=>?_
 refine sR ?_;simp;refine sR ?_;simp[hw];refine sT (sH Hb Ht ?_);simp[fewM]
def jointly(a b x:Gr)(h k:Mo):Bool:=decide (validM a x h=0)&&(decide (validM b x k=0)&&(covK h.nodes k.nodes x.nodes.length&&covK h.edges k.edges x.edges.length))
structure Mo.Big (m:Mo):Prop where
 n:m.nodes.length<=281474976710656
 e:m.edges.length<=281474976710656
def choicesM(ok:Nat->Nat->Bool)(na:Nat)(l:List Int):List Int := -1::((List.range na).filter fun k=>ok l.length k&&!decide ((k:Int)∈l)).map fun (k:Nat)=>(k:Int)
def dM(ok:Nat->Nat->Bool)(na:Nat):Nat->List Int->List (List Int)
 | 0,l=>[l]
 | n+1,l=>(choicesM ok na l).flatMap fun k=>dM ok na n (l++[k])
def okAt(ok:Nat->Nat->Bool)(na:Nat)(x:List Int)(i:Nat):Prop:=x.getD i 0 = -1∨∃k:Nat,x.getD i 0=k/\k<na/\ok i k=true/\(k:Int)∉x.take i
theorem dM_mem(ok:Nat->Nat->Bool)(na:Nat):∀(n:Nat) (l x:List Int),x∈dM ok na n l↔(x.take l.length=l/\x.length=l.length+n/\∀i,l.length<=i->i<x.length->okAt ok na x i)
 | 0,l,x=>by
  simp only[dM,List.mem_singleton,Nat.add_zero];constructor
  .rintro rfl;exact⟨by simp,rfl,fun i h1 h2=>by omega⟩
  .rintro⟨h1,h2,_⟩;rw[<-h1,List.take_of_length_le (by omega)]
 | n+1,l,x=>by
  simp only[dM,List.mem_flatMap];constructor
  .rintro⟨k,hk,hx⟩;rw[dM_mem ok na n (l++[k]) x] at hx;obtain⟨h1,h2,h3⟩:=hx;simp only[List.length_append,List.length_cons,List.length_nil] at h1 h2 h3;have hlt:l.length<x.length:=by omega
   have h4:x.take l.length=l:=by
    have:=congrArg (List.take l.length) h1
    rw[List.take_take,Nat.min_eq_left (by omega)] at this;simpa using this
   have h5:x.getD l.length 0=k:=by
    have:=congrArg (fun y=>y[l.length]?) h1
    simp only[List.getElem?_take] at this;rw[if_pos (by omega)] at this;rw[List.getD_eq_getElem?_getD,this];simp
   refine⟨h4,by omega,fun i hi1 hi2=>?_⟩;by_cases e:i=l.length
   .subst e;unfold okAt;rw[h5,h4];simp only[choicesM,List.mem_cons,List.mem_map,List.mem_filter,List.mem_range,Bool.and_eq_true,Bool.not_eq_true',decide_eq_false_iff_not] at hk;rcases hk with rfl|⟨q,⟨hq1,hq2,hq3⟩,rfl⟩
    .exact .inl rfl
    .exact .inr ⟨q,rfl,hq1,hq2,hq3⟩
   .exact h3 i (by omega) hi2
  .rintro⟨h1,h2,h3⟩;have hlt:l.length<x.length:=by omega
   refine⟨x.getD l.length 0,?_,?_⟩
   .have:=h3 l.length (nr _) hlt
    unfold okAt at this;rw[h1] at this;simp only[choicesM,List.mem_cons,List.mem_map,List.mem_filter,List.mem_range,Bool.and_eq_true,Bool.not_eq_true',decide_eq_false_iff_not];rcases this with h|⟨k,hk1,hk2,hk3,hk4⟩
    .exact .inl h
    .exact .inr ⟨k,⟨hk2,hk3,hk4⟩,hk1.symm⟩
   .rw[dM_mem ok na n _ x];refine⟨?_,by simp;omega,fun i hi1 hi2=>h3 i (by simp at hi1;omega) hi2⟩;simp only[List.length_append,List.length_cons,List.length_nil,Nat.zero_add];rw[List.take_succ_eq_append_getElem hlt,h1];simp[hlt]
def isM(ok:Nat->Nat->Bool)(na nb:Nat)(x:List Int):Prop:=x.length=nb/\∀i,i<nb->okAt ok na x i
theorem dM_isM(ok:Nat->Nat->Bool)(na nb:Nat)(x:List Int):x∈dM ok na nb []↔isM ok na nb x:=by
 rw[dM_mem];simp only[List.length_nil,Nat.zero_add,Nat.zero_le,true_implies,List.take_zero,true_and,isM];constructor
 .rintro⟨h1,h2⟩;exact⟨h1,fun i hi=>h2 i (by omega)⟩
 .rintro⟨h1,h2⟩;exact⟨h1,fun i hi=>h2 i (by omega)⟩
theorem isM_inj{ok:Nat->Nat->Bool}{na nb:Nat}{x:List Int}(h:isM ok na nb x){i j k:Nat}(hi:i<nb)(hj:j<nb)(h1:x.getD i 0=(k:Int))(h2:x.getD j 0=(k:Int)):i=j:=by
 have key:∀i j:Nat,i<j->j<nb->x.getD i 0=(k:Int)->x.getD j 0=(k:Int)->False:=by
  intro i j hij hj h1 h2;rcases h.2 j hj with e|⟨q,e,_,_,hq⟩
  .rw[e] at h2;omega
  .have:(q:Int)=k:=e.symm.trans h2
   rw[this] at hq;apply hq;have hlen:=h.1;rw[List.mem_take_iff_getElem];refine⟨i,by omega,?_⟩;have:x.getD i 0=x[i]'(by omega):=by rw[List.getD_eq_getElem?_getD,List.getElem?_eq_getElem (by omega)];rfl
   rw[<-this];exact h1
 rcases Nat.lt_trichotomy i j with h'|h'|h'
 .exact(key i j h' hj h1 h2).elim
 .exact h'
 .exact(key j i h' hi h2 h1).elim
theorem indexI_spec(x:List Int)(k:Int):(indexI x k = -1/\k∉x)∨∃i:Nat,indexI x k=i/\i<x.length/\x.getD i 0=k:=by
 unfold indexI;by_cases h:k∈x
 .right;rw[if_pos h];have h1:=List.idxOf_lt_length_of_mem h;refine⟨x.idxOf k,rfl,h1,?_⟩;rw[List.getD_eq_getElem?_getD,List.getElem?_eq_getElem h1];simp
 .left;rw[if_neg h];exact⟨rfl,h⟩
theorem nodup_le{α:Type}[DecidableEq α]:∀(l m:List α),l.Nodup->(∀x∈l,x∈m)->l.length<=m.length
 | [],m,_,_=>Nat.zero_le _
 | x::l,m,hn,h=>by
  have hn':=List.nodup_cons.1 hn
  have hx:=h x (by simp);have:=nodup_le l (m.erase x) hn'.2 fun y hy=>(List.mem_erase_of_ne (show y≠x from fun e=>hn'.1 (by rw[<-e];exact hy))).2 (h y (by simp[hy]))
  rw[List.length_erase_of_mem hx] at this;have hp:0<m.length:=List.length_pos_of_mem hx
  simp only[List.length_cons];omega
def okN(a b:Gr)(i k:Nat):Bool:=decide (a.nodes.getD k 0=b.nodes.getD i 0)
def okE(a b:Gr)(x:List Int)(i k:Nat):Bool:=decide (a.edges.getD k default=⟨(b.edges.getD i default).ty,x.getD (b.edges.getD i default).fr.toNat 0,x.getD (b.edges.getD i default).to.toNat 0⟩)
def pairsM(a b:Gr):List (List Int × List Int):=(dM (okN a b) a.nodes.length b.nodes.length []).flatMap fun x=>(dM (okE a b x) a.edges.length b.edges.length []).map fun es=>(x,es)
def isPair(a b:Gr)(p:List Int × List Int):Prop:=isM (okN a b) a.nodes.length b.nodes.length p.1/\isM (okE a b p.1) a.edges.length b.edges.length p.2
theorem pairsM_mem(a b:Gr)(p:List Int × List Int):p∈pairsM a b↔isPair a b p:=by
 simp only[pairsM,List.mem_flatMap,List.mem_map,dM_isM,isPair];constructor
 .rintro⟨x,hx,es,hes,rfl⟩;exact⟨hx,hes⟩
 .rintro⟨h1,h2⟩;exact⟨p.1,h1,p.2,h2,rfl⟩
def EOk(g:Gr):Prop:=∀e∈g.edges,0<=e.fr/\e.fr<g.nodes.length/\0<=e.to/\e.to<g.nodes.length
theorem foldl_lim'{α:Type}(c:Nat->Bool)(f:Nat->List α->List α)(g:Nat->List α)(ks:List Nat)(out:List α)(h:∀k∈ks,∀out,f k out=lim out (g k)):
  ks.foldl (fun out k=>if c k=true then f k out else out) out=lim out ((ks.filter c).flatMap g):=foldl_lim c f g ks out h
theorem ovE_lim(a b:Gr)(nodes:List Int):∀(n:Nat) (es:List Int) (out:List Ov),ovE a b nodes n es out=lim out ((dM (okE a b nodes) a.edges.length n es).map (glue a b nodes))
  | 0,es,out=>by
    unfold ovE;split
    . rename_i h;rw[lim_full _ _ h]
    . rename_i h;simp only[dM,List.map_cons,List.map_nil];rw[lim_one _ _ h]
  | n+1,es,out=>by
    unfold ovE;split
    . rename_i h;rw[lim_full _ _ h]
    . have h1:(fun (out:List Ov) (k:Nat)=>if a.edges.getD k default=wantE b nodes es/\(k:Int)∉es then ovE a b nodes n (es++[(k:Int)]) out else out) =
          fun out k=>if (okE a b nodes es.length k&&!decide ((k:Int)∈es))=true then ovE a b nodes n (es++[(k:Int)]) out else out:=by
        funext out k
        have ic:∀{p q:Prop} [Decidable p] [Decidable q] {x y:List Ov},(p↔q)->(if p then x else y)=if q then x else y:=by
          intro p q _ _ x y h;by_cases hp:p
          . rw[if_pos hp,if_pos (h.1 hp)]
          . rw[if_neg hp,if_neg fun hq=>hp (h.2 hq)]
        refine ic ?_;simp only[okE,wantE,Bool.and_eq_true,decide_eq_true_eq,Bool.not_eq_true',decide_eq_false_iff_not]
      rw[h1,foldl_lim' _ (fun (k:Nat) out=>ovE a b nodes n (es++[(k:Int)]) out) (fun (k:Nat)=>(dM (okE a b nodes) a.edges.length n (es++[(k:Int)])).map (glue a b nodes)) _ _ (fun k _ out=>ovE_lim a b nodes n _ out),ovE_lim a b nodes n,lim_append];congr 1
      simp only[dM,choicesM,List.flatMap_cons,List.map_append,List.map_flatMap,List.flatMap_map]
theorem ovN_lim(a b:Gr):∀(n:Nat) (l:List Int) (out:List Ov),ovN a b n l out=lim out ((dM (okN a b) a.nodes.length n l).flatMap fun x=>(dM (okE a b x) a.edges.length b.edges.length []).map (glue a b x))
 | 0,l,out=>by
  unfold ovN;split
  .rename_i h;rw[lim_full _ _ h]
  .simp only[dM,List.flatMap_cons,List.flatMap_nil,List.append_nil];rw[ovE_lim]
 | n+1,l,out=>by
  unfold ovN;split
  .rename_i h;rw[lim_full _ _ h]
  .have h1:(ovStepN a b (ovN a b n) l)=fun out k=>if (okN a b l.length k&&!decide ((k:Int)∈l))=true then ovN a b n (l++[(k:Int)]) out else out:=by
    funext out k
    unfold ovStepN;have ic:∀{p q:Prop} [Decidable p] [Decidable q] {x y:List Ov},(p↔q)->(if p then x else y)=if q then x else y:=by
     intro p q _ _ x y h;by_cases hp:p
     .rw[if_pos hp,if_pos (h.1 hp)]
     .rw[if_neg hp,if_neg fun hq=>hp (h.2 hq)]
    refine ic ?_;simp only[okN,Bool.and_eq_true,decide_eq_true_eq,Bool.not_eq_true',decide_eq_false_iff_not]
   rw[h1,foldl_lim' _ (fun (k:Nat) out=>ovN a b n (l++[(k:Int)]) out) (fun (k:Nat)=>(dM (okN a b) a.nodes.length n (l++[(k:Int)])).flatMap fun x=>(dM (okE a b x) a.edges.length b.edges.length []).map (glue a b x)) _ _ (fun k _ out=>ovN_lim a b n _ out),ovN_lim a b n,lim_append];congr 1
   simp only[dM,choicesM,List.flatMap_cons,List.flatMap_append,List.flatMap_assoc,List.flatMap_map]
def listO(a b:Gr):List Ov:=(pairsM a b).map fun p=>glue a b p.1 p.2
theorem ovN_list(a b:Gr):ovN a b b.nodes.length [] []=(listO a b).take 2001:=by
 rw[ovN_lim];have:((dM (okN a b) a.nodes.length b.nodes.length []).flatMap fun x=>(dM (okE a b x) a.edges.length b.edges.length []).map (glue a b x))=listO a b:=by
  unfold listO pairsM;rw[List.map_flatMap];congr 1
  funext x
  rw[List.map_map];rfl
 rw[this];simp[lim]
theorem overlapsR_list(a b:Gr)(ha:vG a=0)(hb:vG b=0)(hs:¬(40<a.nodes.length+b.nodes.length∨80<a.edges.length+b.edges.length)):oR a b=if 2000<(pairsM a b).length then ([],3) else (listO a b,0):=by
 have hl:(listO a b).length=(pairsM a b).length:=by simp[listO]
 unfold oR;simp only[ha,hb,hs,ovN_list,ne_eq,not_true_eq_false,↓reduceIte];by_cases hb:2000<(pairsM a b).length
 .have:2000<((listO a b).take 2001).length:=by simp;omega
  rw[if_pos this,if_pos hb]
 .have:(listO a b).take 2001=listO a b:=List.take_of_length_le (by omega)
  rw[this,if_neg (by omega),if_neg hb]
structure Dr where
 nodes:List Int
 edges:List (Int × Int × Int)
abbrev u8(n:Int):D:=.raw (.int .u8 n)
abbrev Dr.av(x:Dr):AV:=.agg [.d (.sl 1 (x.nodes.map fun n=>[u8 n])),.d (.sl 3 (x.edges.map fun e=>[u8 e.1,u8 e.2.1,u8 e.2.2]))]
def distK(l:List Int)(i:Nat):Bool:=(List.range i).all fun j=>(List.range j).all fun k=>decide (l.getD j 0≠l.getD k 0)
def distJ(l:List Int)(i k:Nat):Bool:=(List.range k).all fun k=>decide (l.getD i 0≠l.getD k 0)
theorem distK_succ(l:List Int)(i:Nat):distK l (i+1)=(distK l i&&distJ l i i):=by simp[distK,distJ,List.range_succ]
theorem distJ_succ(l:List Int)(i k:Nat):distJ l i (k+1)=(distJ l i k&&decide (l.getD i 0≠l.getD k 0)):=by simp only[distJ,List.range_succ,List.all_append,List.all_cons,List.all_nil,Bool.and_true]
theorem distK_stop{l:List Int}{n i k:Nat}(hi:i<n)(hk:k<i)(h:l.getD i 0=l.getD k 0):distK l n=false:=by
 rw[Bool.eq_false_iff];intro ha;simp only[distK,List.all_eq_true,List.mem_range,decide_eq_true_eq] at ha;exact ha i hi k hk h
def st55a(l:List Int)(nb:Nat)(box:Bxs)(tok:Tks)(nt:Nat)(i:Nat):AS:=⟨tl [(0,.d (ints l)),(3,I i)],lb nb box [],tok,nt⟩
def st55b(l:List Int)(i:Nat)(nb:Nat)(box:Bxs)(tok:Tks)(nt:Nat)(k:Nat):AS:=⟨tl [(0,.d (ints l)),(3,I i),(4,I k)],lb nb box [],tok,nt⟩
theorem distinct55_c(l:List Int)(hl:l.length<=1000000):DC 72 [.d (ints l)] (B (distK l l.length)):=by
 intro tok nt box nb;refine sI func72 ntmps72 fun Hb Ht=>?_
 refine sR ?_;simp;refine sR ?_;simp;refine sN ?_;refine sL (st55a l nb box tok nt) (fun i=>i<=l.length/\distK l i=true) (fun i=>l.length-i) 0 ⟨Nat.zero_le _,rfl⟩ (wM (nr _) rfl (by simp[ToL]) trivial) ?_;rintro i S ⟨hi,hok⟩ hS;simp only[st55a] at hS;subst hS;have hw:=sW (i:=i) (by omega);refine sR ?_;simp;refine sC ?_;simp;refine⟨fun hlt=>?_,fun hge=>?_⟩
 .refine sR ?_;simp;refine sN ?_;refine sL (st55b l i nb box tok nt) (fun k=>k<=i/\distJ l i k=true) (fun k=>i-k) 0 ⟨Nat.zero_le _,rfl⟩ (wM (nr _) rfl (by simp[ToL]) trivial) ?_;rintro k S ⟨hk,hokk⟩ hS;simp only[st55b] at hS;subst hS;have hwk:=sW (i:=k) (by omega);have gi:l.getD i 0=l[i]:=by simp[hlt]
  refine sR ?_;simp;refine sC ?_;simp;refine⟨fun hki=>?_,fun hki=>?_⟩
  .have hkl:k<l.length:=by omega
   have gk:l.getD k 0=l[k]:=by simp[hkl]
   refine sR ?_;simp[hlt,hkl];refine sC ?_;simp;refine⟨fun heq=>?_,fun hne=>?_⟩
   .refine sR ?_;simp;have hR:=distK_stop hlt hki (by rw[gi,gk];exact heq);refine sT (sH Hb Ht ?_);simp[hR]
   .refine sR ?_;simp[hwk];refine sE ?_;refine⟨k+1,⟨hki,?_⟩,by omega,wM (nr _) rfl (by simp[ToL]) trivial⟩;rw[distJ_succ,hokk,gi,gk];simp[hne]
  .refine sX ?_;simp only[AU,↓reduceIte];have:k=i:=by omega
   subst this;refine sR ?_;simp[hw];refine sE ?_;refine⟨k+1,⟨hlt,?_⟩,by omega,wM (nr _) rfl (by simp[ToL]) trivial⟩;rw[distK_succ,hok,hokk];rfl
 .refine sX ?_;simp only[AU,↓reduceIte];have:i=l.length:=by omega
  subst this;refine sR ?_;simp;refine sT (sH Hb Ht ?_);simp[hok]
def injM(a b:Gr)(m:Mo):Bool:=decide (validM a b m=0)&&(distK m.nodes m.nodes.length&&distK m.edges m.edges.length)
theorem injective26_c(a b:Gr)(m:Mo)(ha:a.Fit)(hb:b.Fit)(hm:m.Fit):DC 111 [a.av,b.av,m.av] (B (injM a b m)):=by
 intro tok nt box nb;refine sI func111 ntmps111 fun Hb Ht=>?_
 refine sR ?_;simp;refine sR ?_;simp;refine sD (valid53_c a b m ha hb _ _) ?_;simp;by_cases h1:validM a b m=0
 .simp[h1];refine sD (distinct55_c m.nodes hm.n _ _) ?_;simp[h1];by_cases h2:distK m.nodes m.nodes.length=true
  .simp[h1,h2];refine sD (distinct55_c m.edges hm.e _ _) ?_;simp[h1,h2];refine sT (sH Hb Ht ?_);simp[injM,h1,h2]
  .have h3:distK m.nodes m.nodes.length=false:=by simpa using h2
   simp only[h3];simp;refine sT (sH Hb Ht ?_);simp[injM,h1,h3]
 .have hb1:(validM a b m==0)=false:=by simp[h1]
  simp only[hb1];try simp
  refine sT (sH Hb Ht ?_);simp[injM,h1]
structure Dr.U8 (x:Dr):Prop where
 n:∀k∈x.nodes,0<=k/\k<256
 e:∀k∈x.edges,(0<=k.1/\k.1<256)/\(0<=k.2.1/\k.2.1<256)/\(0<=k.2.2/\k.2.2<256)
def mN(x:Dr)(i:Nat):List Int:=(x.nodes.take i).map fun n=>n % 3
@[simp] theorem mN_len(x:Dr)(i:Nat):(mN x i).length=min i x.nodes.length:=by simp[mN]
def mE(x:Dr)(n:Int)(i:Nat):List E:=(x.edges.take i).map fun e=>⟨e.1 % 2,e.2.1 % n,e.2.2 % n⟩
@[simp] theorem mE_len(x:Dr)(n:Int)(i:Nat):(mE x n i).length=min i x.edges.length:=by simp[mE]
def madeG(x:Dr):Gr:=⟨mN x 8,if x.nodes.length=0 then [] else mE x (mN x 8).length 10⟩
theorem getD_lt{α:Type}{r:List α}{v d:α}{j:Nat}(h:j<r.length):(r++[v]).getD j d=r.getD j d:=by
 simp[List.getD_eq_getElem?_getD,List.getElem?_append_left h]
theorem getD_at{α:Type}{r:List α}{v d:α}:(r++[v]).getD r.length d=v:=by
 simp[List.getD_eq_getElem?_getD]
theorem getD_pre{α:Type}{r t:List α}{d:α}{j:Nat}(h:j<r.length):(r++t).getD j d=r.getD j d:=by
 simp[List.getD_eq_getElem?_getD,List.getElem?_append_left h]
theorem getD_mem{α:Type}{r:List α}{d:α}{j:Nat}(h:j<r.length):r.getD j d∈r:=by
 simp[List.getD_eq_getElem?_getD,List.getElem?_eq_getElem h]
theorem iota_getD{n j:Nat}(h:j<n):(iota n).getD j 0=j:=by
 simp[iota,List.getD_eq_getElem?_getD,h]
def glueG{α:Type}[Inhabited α](an bn:List α)(x:List Int):Nat->List α × List Int
 | 0=>(an,[])
 | i+1=>if x.getD i 0<0 then ((glueG an bn x i).1++[bn.getD i default],(glueG an bn x i).2++[((glueG an bn x i).1.length:Int)]) else ((glueG an bn x i).1,(glueG an bn x i).2++[x.getD i 0])
theorem glueN_G(an bn l:List Int):∀i,glueN an bn l i=glueG an bn l i
 | 0=>rfl
 | i+1=>by
  simp only[glueN,glueG,glueN_G an bn l i];rfl
def mapE(rn:List Int)(e:E):E:=⟨e.ty,rn.getD e.fr.toNat 0,rn.getD e.to.toNat 0⟩
theorem glueE_G(ae be:List E)(rn l:List Int):∀i,i<=be.length->glueE ae be rn l i=glueG ae (be.map (mapE rn)) l i
 | 0,_=>rfl
 | i+1,h=>by
  have e:(be.map (mapE rn)).getD i default=mapE rn (be.getD i default):=by
   have:i<be.length:=by omega
   simp[List.getD_eq_getElem?_getD,this]
  simp only[glueE,glueG,glueE_G ae be rn l i (by omega),e];rfl
structure GI {α:Type} [Inhabited α] (an bn:List α) (x:List Int) (i:Nat) (rn:List α) (r:List Int):Prop where
 len:r.length=i
 pre:∃t,rn=an++t/\∀y∈t,y∈bn
 rng:∀j,j<i->0<=r.getD j 0/\r.getD j 0<rn.length
 val:∀j,j<i->rn.getD (r.getD j 0).toNat default=bn.getD j default
 neg:∀j,j<i->x.getD j 0<0->(an.length:Int)<=r.getD j 0
 pos:∀j,j<i->¬x.getD j 0<0->r.getD j 0=x.getD j 0
 dist:∀j k,j<k->k<i->r.getD j 0≠r.getD k 0
 cov:∀v:Nat,an.length<=v->v<rn.length->(v:Int)∈r
theorem glue_gi{α:Type}[Inhabited α]{an bn:List α}{x:List Int}{ok:Nat->Nat->Bool}(h:isM ok an.length bn.length x)(hok:∀i k,i<bn.length->k<an.length->ok i k=true->an.getD k default=bn.getD i default):
  ∀i,i<=bn.length->GI an bn x i (glueG an bn x i).1 (glueG an bn x i).2
 | 0,_=>⟨rfl,⟨[],by simp[glueG],by simp⟩,fun j hj=>absurd hj (Nat.not_lt_zero _),fun j hj=>absurd hj (Nat.not_lt_zero _),fun j hj=>absurd hj (Nat.not_lt_zero _),fun j hj=>absurd hj (Nat.not_lt_zero _),fun j k _ hj=>absurd hj (Nat.not_lt_zero _),fun v h1 h2=>by simp only[glueG] at h2;omega⟩
 | i+1,hi=>by
  have g:=glue_gi h hok i (by omega);simp only[glueG];generalize hrn:(glueG an bn x i).1=rn at g ⊢;generalize hr:(glueG an bn x i).2=r at g ⊢;obtain⟨t,ht,htb⟩:=g.pre;have hlen:=g.len;have hal:an.length<=rn.length:=by rw[ht];simp
  have hib:i<bn.length:=by omega
  rcases h.2 i hib with hx|⟨k,hx,hk,hkok,hnot⟩
  .rw[if_pos (by omega)];have old:∀j,j<i->(r++[(rn.length:Int)]).getD j 0=r.getD j 0:=fun j hj=>getD_lt (by omega)
   have new:(r++[(rn.length:Int)]).getD i 0=rn.length:=by rw[<-hlen];exact getD_at
   refine⟨by simp[hlen],⟨t++[bn.getD i default],by rw[ht,List.append_assoc],?_⟩,fun j hj=>?_,fun j hj=>?_,fun j hj=>?_,fun j hj=>?_,fun j k hjk hk=>?_,fun v h1 h2=>?_⟩
   .intro y hy;rcases List.mem_append.1 hy with hy|hy
    .exact htb y hy
    .simp only[List.mem_singleton] at hy;subst hy;exact getD_mem hib
   .simp only[List.length_append,List.length_cons,List.length_nil];by_cases e:j=i
    .subst e;rw[new];omega
    .rw[old j (by omega)];have:=g.rng j (by omega);omega
   .by_cases e:j=i
    .subst e;rw[new,Int.toNat_natCast];exact getD_at
    .rw[old j (by omega),getD_lt (by have:=g.rng j (by omega);omega)];exact g.val j (by omega)
   .by_cases e:j=i
    .subst e;intro _;rw[new];omega
    .rw[old j (by omega)];exact g.neg j (by omega)
   .by_cases e:j=i
    .subst e;intro hn;omega
    .rw[old j (by omega)];exact g.pos j (by omega)
   .by_cases e:k=i
    .subst e;rw[new,old j hjk];have:=g.rng j hjk;omega
    .rw[old j (by omega),old k (by omega)];exact g.dist j k hjk (by omega)
   .simp only[List.length_append,List.length_cons,List.length_nil] at h2;by_cases e:v=rn.length
    .subst e;simp
    .exact List.mem_append.2 (.inl (g.cov v h1 (by omega)))
  .rw[if_neg (by omega)];have old:∀j,j<i->(r++[x.getD i 0]).getD j 0=r.getD j 0:=fun j hj=>getD_lt (by omega)
   have new:(r++[x.getD i 0]).getD i 0=x.getD i 0:=by
    have:(r++[x.getD i 0]).getD r.length 0=x.getD i 0:=getD_at
    rw[hlen] at this;exact this
   refine⟨by simp[hlen],⟨t,ht,htb⟩,fun j hj=>?_,fun j hj=>?_,fun j hj=>?_,fun j hj=>?_,fun j k' hjk hk'=>?_,fun v h1 h2=>?_⟩
   .by_cases e:j=i
    .subst e;have hkr:((k:Nat):Int)<rn.length:=by omega
     rw[new,hx];exact⟨by omega,hkr⟩
    .rw[old j (by omega)];exact g.rng j (by omega)
   .by_cases e:j=i
    .subst e;rw[new,hx,Int.toNat_natCast,ht,getD_pre hk];exact hok j k hib hk hkok
    .rw[old j (by omega)];exact g.val j (by omega)
   .by_cases e:j=i
    .subst e;intro hn;omega
    .rw[old j (by omega)];exact g.neg j (by omega)
   .by_cases e:j=i
    .subst e;intro hn;exact new
    .rw[old j (by omega)];exact g.pos j (by omega)
   .by_cases e:k'=i
    .subst e;rw[new,old j hjk];by_cases hn:x.getD j 0<0
     .have:=g.neg j hjk hn
      omega
     .rw[g.pos j hjk hn];intro e2;have:=isM_inj h (show j<bn.length by omega) hib (by rw[e2];exact hx) hx
      omega
    .rw[old j (by omega),old k' (by omega)];exact g.dist j k' hjk (by omega)
   .exact List.mem_append.2 (.inl (g.cov v h1 h2))
theorem firstE_zero{f:Nat->Int}:∀n,(∀i,i<n->f i=0)->firstE f n=0
 | 0,_=>rfl
 | n+1,h=>by
  simp only[firstE,firstE_zero n fun i hi=>h i (by omega),↓reduceIte];exact h n (by omega)
theorem distK_of{l:List Int}{n:Nat}(h:∀j k,j<k->k<n->l.getD j 0≠l.getD k 0):distK l n=true:=by
 simp only[distK,List.all_eq_true,List.mem_range,decide_eq_true_eq];exact fun j hj k hk e=>h k j hk hj e.symm
theorem validG_types{g:Gr}(h:vG g=0):(g.nodes.length<=40/\g.edges.length<=80)/\(∀n∈g.nodes,withinB n 99=true)/\∀e∈g.edges,fitsB e g.nodes.length=true:=by
 unfold vG at h;split at h
 .cases h
 .rename_i h0;split at h
  .cases h
  .rename_i h1;split at h
   .cases h
   .rename_i h2;simp only[anyB,List.any_eq_true,not_exists,not_and,Bool.not_eq_true',Bool.not_eq_false] at h1 h2;exact⟨by omega,h1,h2⟩
theorem validG_of{g:Gr}(h0:g.nodes.length<=40/\g.edges.length<=80)(h1:∀n∈g.nodes,withinB n 99=true)(h2:∀e∈g.edges,fitsB e g.nodes.length=true):vG g=0:=by
 unfold vG;rw[if_neg (by omega),if_neg,if_neg]
 .simp only[anyB,List.any_eq_true,not_exists,not_and,Bool.not_eq_true',Bool.not_eq_false];exact h2
 .simp only[anyB,List.any_eq_true,not_exists,not_and,Bool.not_eq_true',Bool.not_eq_false];exact h1
theorem fitsB_iff(e:E)(n:Int):fitsB e n=true↔withinB e.ty 99=true/\(0<=e.fr/\e.fr<n)/\(0<=e.to/\e.to<n):=by
 simp only[fitsB,withinB,Bool.and_eq_true,decide_eq_true_eq];omega
structure Glued (a b:Gr) (x es:List Int):Prop where
 n:GI a.nodes b.nodes x b.nodes.length (glue a b x es).g.nodes (glue a b x es).r.nodes
 e:GI a.edges (b.edges.map (mapE (glue a b x es).r.nodes)) es b.edges.length (glue a b x es).g.edges (glue a b x es).r.edges
theorem glued_of{a b:Gr}(ha:EOk a)(hb:EOk b){x es:List Int}(h:isPair a b (x,es)):Glued a b x es:=by
 obtain⟨h1,h2⟩:=h;simp only at h1 h2;have hxl:x.length=b.nodes.length:=h1.1
 have hel:es.length=b.edges.length:=h2.1
 have gn:GI a.nodes b.nodes x b.nodes.length (glue a b x es).g.nodes (glue a b x es).r.nodes:=by
  simp only[glue,glueN_G,hxl];refine glue_gi h1 (fun i k hi hk hok=>?_) _ (nr _);unfold okN at hok;rw[decide_eq_true_eq] at hok;exact hok
 refine⟨gn,?_⟩;have key:isM (okE a b x) a.edges.length (b.edges.map (mapE (glue a b x es).r.nodes)).length es:=by rw[List.length_map];exact h2
 have:=glue_gi (an:=a.edges) (bn:=b.edges.map (mapE (glue a b x es).r.nodes)) (x:=es) (ok:=okE a b x) key (fun i k hi hk hok=>?_) b.edges.length (by simp)
 .have e0:(glue a b x es).r.nodes=(glueN a.nodes b.nodes x x.length).2:=rfl
  have e1:(glue a b x es).g.edges=(glueE a.edges b.edges (glueN a.nodes b.nodes x x.length).2 es es.length).1:=rfl
  have e2:(glue a b x es).r.edges=(glueE a.edges b.edges (glueN a.nodes b.nodes x x.length).2 es es.length).2:=rfl
  rw[e1,e2,<-e0,hel,glueE_G _ _ _ _ _ (nr _)];exact this
 .have hib:i<b.edges.length:=by simpa using hi
  unfold okE at hok;rw[decide_eq_true_eq] at hok;have g1:a.edges.getD k default=a.edges[k]:=by simp[hk]
  have g2:b.edges.getD i default=b.edges[i]:=by simp[hib]
  have g3:(b.edges.map (mapE (glue a b x es).r.nodes)).getD i default=mapE (glue a b x es).r.nodes b.edges[i]:=by simp[hib]
  rw[g1,g2] at hok;rw[g1,g3];obtain⟨a1,a2,a3,a4⟩:=ha _ (List.getElem_mem hk);obtain⟨b1,b2,b3,b4⟩:=hb _ (List.getElem_mem hib);have f1:a.edges[k].fr=x.getD b.edges[i].fr.toNat 0:=congrArg E.fr hok
  have f2:a.edges[k].to=x.getD b.edges[i].to.toNat 0:=congrArg E.to hok
  have p1:=gn.pos b.edges[i].fr.toNat (by omega) (by omega);have p2:=gn.pos b.edges[i].to.toNat (by omega) (by omega);unfold mapE;rw[p1,p2];exact hok
theorem glue_law0{a b:Gr}(hva:vG a=0)(hvb:vG b=0){x es:List Int}(h:isPair a b (x,es))(hs:(glue a b x es).g.nodes.length<=40/\(glue a b x es).g.edges.length<=80):
  vG (glue a b x es).g=0/\validM a (glue a b x es).g (glue a b x es).l=0/\validM b (glue a b x es).g (glue a b x es).r=0:=by
 have ha:=validG_edges hva;have hb:=validG_edges hvb;obtain⟨_,ta,tea⟩:=validG_types hva;obtain⟨_,tb,teb⟩:=validG_types hvb;obtain⟨gn,ge⟩:=glued_of ha hb h;have hl:(glue a b x es).l=idM a:=rfl
 rw[hl];generalize glue a b x es=o at *;obtain⟨tn,htn,htnb⟩:=gn.pre;obtain⟨te,hte,hteb⟩:=ge.pre;have nl:a.nodes.length<=o.g.nodes.length:=by rw[htn];simp
 have el:a.edges.length<=o.g.edges.length:=by rw[hte];simp
 have hv:vG o.g=0:=by
  refine validG_of (by omega) (fun n hn=>?_) fun e he=>?_
  .rw[htn] at hn;rcases List.mem_append.1 hn with hn|hn
   .exact ta n hn
   .exact tb n (htnb n hn)
  .rw[hte] at he;rw[fitsB_iff];rcases List.mem_append.1 he with he|he
   .have:=(fitsB_iff _ _).1 (tea e he)
    exact⟨this.1,by omega,by omega⟩
   .obtain⟨y,hy,rfl⟩:=List.mem_map.1 (hteb e he);have:=(fitsB_iff _ _).1 (teb y hy)
    obtain⟨y1,y2,y3,y4⟩:=hb y hy;have r1:=gn.rng y.fr.toNat (by omega);have r2:=gn.rng y.to.toNat (by omega);exact⟨this.1,r1,r2⟩
 refine⟨hv,?_,?_⟩
 .unfold validM;have z1:firstE (nodeE a o.g (idM a)) a.nodes.length=0:=firstE_zero _ fun i hi=>by
   have e1:(idM a).nodes.getD i 0=i:=iota_getD hi
   unfold nodeE;rw[e1,if_neg (by omega),Int.toNat_natCast,if_pos];rw[htn,getD_pre hi]
  have z2:firstE (edgeE a o.g (idM a)) a.edges.length=0:=firstE_zero _ fun i hi=>by
   have e1:(idM a).edges.getD i 0=i:=iota_getD hi
   obtain⟨a1,a2,a3,a4⟩:=ha _ (getD_mem (d:=default) hi);have e2:(idM a).nodes.getD (a.edges.getD i default).fr.toNat 0=(a.edges.getD i default).fr.toNat:=iota_getD (by omega)
   have e3:(idM a).nodes.getD (a.edges.getD i default).to.toNat 0=(a.edges.getD i default).to.toNat:=iota_getD (by omega)
   unfold edgeE;rw[e1,if_neg (by omega),Int.toNat_natCast];have e4:o.g.edges.getD i default=a.edges.getD i default:=by rw[hte,getD_pre hi]
   simp only[e4,e2,e3,ne_eq,not_true_eq_false,↓reduceIte];rw[if_neg (by omega)]
  rw[if_neg (by simp[hva]),if_neg (by simp[hv]),if_neg (by simp[idM]),if_neg (by simp[z1]),z2]
 .unfold validM;have ln:=gn.len;have le:=ge.len;have z1:firstE (nodeE b o.g o.r) b.nodes.length=0:=firstE_zero _ fun i hi=>by
   have r1:=gn.rng i hi;unfold nodeE;rw[if_neg (by omega),if_pos];exact gn.val i hi
  have z2:firstE (edgeE b o.g o.r) b.edges.length=0:=firstE_zero _ fun i hi=>by
   have r1:=ge.rng i hi;have v1:=ge.val i hi;have g3:(b.edges.map (mapE o.r.nodes)).getD i default=mapE o.r.nodes (b.edges.getD i default):=by simp[hi]
   rw[g3] at v1;unfold edgeE;rw[if_neg (by omega)];simp only[v1,mapE,ne_eq,not_true_eq_false,or_self,↓reduceIte]
  rw[if_neg (by simp[hvb]),if_neg (by simp[hv]),if_neg (by omega),if_neg (by simp[z1]),z2]
theorem glue_law{a b:Gr}(hva:vG a=0)(hvb:vG b=0)(hs:a.nodes.length+b.nodes.length<=40/\a.edges.length+b.edges.length<=80){x es:List Int}(h:isPair a b (x,es)):
  vG (glue a b x es).g=0/\validM a (glue a b x es).g (glue a b x es).l=0/\validM b (glue a b x es).g (glue a b x es).r=0:=by
 have hxl:x.length=b.nodes.length:=h.1.1
 have hel:es.length=b.edges.length:=h.2.1
 have l1:=(glueN_len a.nodes b.nodes x x.length).1;have l2:=(glueE_len a.edges b.edges (glueN a.nodes b.nodes x x.length).2 es es.length).1;have m1:(glue a b x es).g.nodes.length<=a.nodes.length+x.length:=l1
 have m2:(glue a b x es).g.edges.length<=a.edges.length+es.length:=l2
 exact glue_law0 hva hvb h (by omega)
theorem glue_law2{a b:Gr}(hva:vG a=0)(hvb:vG b=0)(hs:a.nodes.length+b.nodes.length<=40/\a.edges.length+b.edges.length<=80){x es:List Int}(h:isPair a b (x,es)):
  injM a (glue a b x es).g (glue a b x es).l=true/\injM b (glue a b x es).g (glue a b x es).r=true/\jointly a b (glue a b x es).g (glue a b x es).l (glue a b x es).r=true:=by
 obtain⟨hv,h1,h2⟩:=glue_law hva hvb hs h;obtain⟨gn,ge⟩:=glued_of (validG_edges hva) (validG_edges hvb) h;have i1:∀n,distK (iota n) n=true:=fun n=>distK_of fun j k hjk hk=>by
  rw[iota_getD hk,iota_getD (by omega)];omega
 have i2:∀l:List Int,∀n m:Nat,(∀v:Nat,n<=v->v<m->(v:Int)∈l)->covK (iota n) l m=true:=fun l n m hc=>by
  simp only[covK,List.all_eq_true,List.mem_range,Bool.or_eq_true,decide_eq_true_eq];intro v hv;by_cases hvn:v<n
  .left;simp only[iota,List.mem_map,List.mem_range];exact⟨v,hvn,rfl⟩
  .right;exact hc v (by omega) hv
 refine⟨?_,?_,?_⟩
 .have e1:(glue a b x es).l=idM a:=rfl
  unfold injM;rw[h1,e1];simp[idM,i1]
 .unfold injM;rw[h2,gn.len,ge.len,distK_of gn.dist,distK_of ge.dist];rfl
 .unfold jointly;rw[h1,h2];have c1:=i2 _ _ _ gn.cov;have c2:=i2 _ _ _ ge.cov;have e1:(glue a b x es).l.nodes=iota a.nodes.length:=rfl
  have e2:(glue a b x es).l.edges=iota a.edges.length:=rfl
  rw[e1,e2,c1,c2];rfl
theorem madeG_len(x:Dr):(madeG x).nodes.length<=8/\(madeG x).edges.length<=10:=by
 refine⟨by simp only[madeG,mN_len];omega,?_⟩;simp only[madeG];split
 .simp
 .simp only[mE_len];omega
theorem madeG_valid{x:Dr}(hx:x.U8):vG (madeG x)=0:=by
 have hl:=madeG_len x;refine validG_of (by omega) (fun n hn=>?_) fun e he=>?_
 .simp only[madeG,mN,List.mem_map] at hn;obtain⟨k,hk,rfl⟩:=hn;have:=hx.n k (List.mem_of_mem_take hk)
  simp only[withinB,Bool.and_eq_true,decide_eq_true_eq];omega
 .simp only[madeG] at he;split at he
  .simp at he
  .rename_i h0;simp only[mE,List.mem_map] at he;obtain⟨k,hk,rfl⟩:=he;have:=hx.e k (List.mem_of_mem_take hk)
   have hp:0<((mN x 8).length:Int):=by rw[mN_len];omega
   rw[fitsB_iff];simp only[withinB,Bool.and_eq_true,decide_eq_true_eq,madeG];have m1:=Int.emod_nonneg k.2.1 (show ((mN x 8).length:Int)≠0 by omega);have m2:=Int.emod_lt_of_pos k.2.1 hp;have m3:=Int.emod_nonneg k.2.2 (show ((mN x 8).length:Int)≠0 by omega);have m4:=Int.emod_lt_of_pos k.2.2 hp;exact⟨by omega,⟨m1,m2⟩,m3,m4⟩
end Go.AM
namespace Go.Proofs
open Go.Shelf
open Go.Proofs.Tryz
def Tryz.lays189_ren:Go.Shelf.Ren:=⟨fun|189=>245|125=>283|257=>282|128=>312|129=>313|294=>304|295=>305|296=>306|297=>307|298=>308|299=>309|216=>243|300=>310|301=>311|328=>329|329=>330|330=>331|331=>332|332=>333|215=>281|343=>341|n=>n,fun|28=>26|3=>3|46=>273|0=>0|51=>300|53=>58|4=>4|183=>319|182=>318|131=>234|5=>5|9=>9|218=>333|222=>337|228=>340|229=>180|n=>n,fun|n=>n⟩
theorem Tryz.lays189:Go.Proofs.Lays.n189 prog Tryz.lays189_ren:={
 mixed:=by kernel_rfl
 f125:=func283.trans (congrArg some (by kernel_rfl))
 f128:=func312.trans (congrArg some (by kernel_rfl))
 f129:=func313.trans (congrArg some (by kernel_rfl))
 f189:=func245.trans (congrArg some (by kernel_rfl))
 f215:=func281.trans (congrArg some (by kernel_rfl))
 f216:=func243.trans (congrArg some (by kernel_rfl))
 f257:=func282.trans (congrArg some (by kernel_rfl))
 f294:=func304.trans (congrArg some (by kernel_rfl))
 f295:=func305.trans (congrArg some (by kernel_rfl))
 f296:=func306.trans (congrArg some (by kernel_rfl))
 f297:=func307.trans (congrArg some (by kernel_rfl))
 f298:=func308.trans (congrArg some (by kernel_rfl))
 f299:=func309.trans (congrArg some (by kernel_rfl))
 f300:=func310.trans (congrArg some (by kernel_rfl))
 f301:=func311.trans (congrArg some (by kernel_rfl))
 f328:=func329.trans (congrArg some (by kernel_rfl))
 f329:=func330.trans (congrArg some (by kernel_rfl))
 f330:=func331.trans (congrArg some (by kernel_rfl))
 f331:=func332.trans (congrArg some (by kernel_rfl))
 f332:=func333.trans (congrArg some (by kernel_rfl))
 f343:=func341.trans (congrArg some (by kernel_rfl))
 t0:=underlying0
 a0:=isAgg0
 z0:=sizeOf0
 v0:=zeroValue0
 t3:=underlying3
 a3:=isAgg3
 z3:=sizeOf3
 v3:=zeroValue3
 t4:=underlying4
 a4:=isAgg4
 z4:=sizeOf4
 v4:=zeroValue4
 t5:=underlying5
 a5:=isAgg5
 z5:=sizeOf5
 v5:=zeroValue5
 t9:=underlying9
 a9:=isAgg9
 z9:=sizeOf9
 v9:=zeroValue9
 t28:=underlying26
 a28:=isAgg26
 z28:=sizeOf26
 v28:=zeroValue26
 t46:=underlying273
 a46:=isAgg273
 z46:=sizeOf273
 v46:=zeroValue273
 t51:=underlying300
 a51:=isAgg300
 z51:=sizeOf300
 v51:=zeroValue300
 t53:=underlying58
 a53:=isAgg58
 z53:=sizeOf58
 v53:=zeroValue58
 t131:=underlying234
 a131:=isAgg234
 z131:=sizeOf234
 v131:=zeroValue234
 t182:=underlying318
 a182:=isAgg318
 z182:=sizeOf318
 v182:=zeroValue318
 t183:=underlying319
 a183:=isAgg319
 z183:=sizeOf319
 v183:=zeroValue319
 t218:=underlying333
 a218:=isAgg333
 z218:=sizeOf333
 v218:=zeroValue333
 t222:=underlying337
 a222:=isAgg337
 z222:=sizeOf337
 v222:=zeroValue337
 t228:=underlying340
 a228:=isAgg340
 z228:=sizeOf340
 v228:=zeroValue340
 t229:=underlying180
 a229:=isAgg180
 z229:=sizeOf180
 v229:=zeroValue180 }
open Go.Sort Go.RowKit in
theorem Tryz.slices_Sort_int(blk off cap:Nat)(zs:List Int)(w:World)(hH:Holds (Value.int .i64) w blk off zs.toArray)(hblk:blk<w.heap.size)(hsz:zs.length<4611686018427387904):
  Calls prog 245 #[.slice (some ⟨blk,off,none⟩) zs.length cap] w fun e w' =>
   e=.returned (.tuple #[])/\∃n os,w'=grow (putRow (Value.int .i64) (Sort.ahead w n) blk off (zs.mergeSort fun x y=>decide (x<=y)).toArray) os:=Any.slices_Sort_int Tryz.lays189 blk off cap zs w hH hblk hsz
def Tryz.laysNm215_ren:Go.Shelf.Ren:=⟨fun|15=>120|n=>n,fun|22=>26|3=>3|4=>4|n=>n,fun|n=>n⟩
theorem Tryz.laysNm215:Go.Proofs.Lays2.n15 prog Tryz.laysNm215_ren:={
 mixed:=by kernel_rfl
 f15:=func120.trans (congrArg some (by kernel_rfl))
 t3:=underlying3
 a3:=isAgg3
 z3:=sizeOf3
 v3:=zeroValue3
 t4:=underlying4
 a4:=isAgg4
 z4:=sizeOf4
 v4:=zeroValue4
 t22:=underlying26
 a22:=isAgg26
 z22:=sizeOf26
 v22:=zeroValue26
 i3:=by kernel_rfl }
open Go.RowKit Go.Lib in
theorem Tryz.slices_Clone_int(b off n c:Nat)(zs:List Int)(w:World)(hz:n<=zs.length)(hbig:n*8<=140737488355328)(hc:∀j,j<zs.length->w.cell? ⟨b,off+j,none⟩=some (.int .i64 (zs.getD j 0))):
  Calls prog 120 #[.slice (some ⟨b,off,none⟩) n c] w fun e w'=>∃v',e=.returned v'/\w'.ownsRow w.heap.size 3 1 v' n ((zs.take n).map (Value.int .i64))/\v'≠.slice none 0 0/\Below w.heap.size w w':=Any.slices_Clone_int Tryz.laysNm215 b off n c zs w hz hbig hc
open Go.RowKit Go.Lib in
theorem Tryz.slices_Clone_int_nil(n c:Nat)(w:World):
  Calls prog 120 #[.slice none n c] w fun e w'=>e=.returned (.slice none 0 0)/\w'=w:=Any.slices_Clone_int_nil Tryz.laysNm215 n c w
open Go.RowKit Go.Lib in
theorem Tryz.slices_Clone_int_zero(a:Addr)(c:Nat)(w:World):
  Calls prog 120 #[.slice (some a) 0 c] w fun e w'=>∃v',e=.returned v'/\w'.ownsRow w.heap.size 3 1 v' 0 []/\v'≠.slice none 0 0/\Below w.heap.size w w':=Any.slices_Clone_int_zero Tryz.laysNm215 a c w
def Tryz.laysNm220_ren:Go.Shelf.Ren:=⟨fun|20=>246|n=>n,fun|22=>26|3=>3|4=>4|0=>0|n=>n,fun|n=>n⟩
theorem Tryz.laysNm220:Go.Proofs.Lays2.n20 prog Tryz.laysNm220_ren:={
 mixed:=by kernel_rfl
 f20:=func246.trans (congrArg some (by kernel_rfl))
 t0:=underlying0
 a0:=isAgg0
 z0:=sizeOf0
 v0:=zeroValue0
 t3:=underlying3
 a3:=isAgg3
 z3:=sizeOf3
 v3:=zeroValue3
 t4:=underlying4
 a4:=isAgg4
 z4:=sizeOf4
 v4:=zeroValue4
 t22:=underlying26
 a22:=isAgg26
 z22:=sizeOf26
 v22:=zeroValue26
 i3:=by kernel_rfl }
open Go.RowKit Go.Lib Go.Sort in
theorem Tryz.slices_Compact_int(blk off cap:Nat)(zs:List Int)(w:World)(hH:Holds (Value.int .i64) w blk off zs.toArray)(hsz:zs.length<=9223372036854775807)(hcap:zs.length<=cap):
  Calls prog 246 #[.slice (some ⟨blk,off,none⟩) zs.length cap] w fun e w'=>e=.returned (.slice (some ⟨blk,off,none⟩) (Lib.compact zs).length cap)/\∃q,w'=putRow (Value.int .i64) (Sort.ahead w q) blk off (Lib.compact zs++List.replicate (zs.length-(Lib.compact zs).length) 0).toArray:=Any.slices_Compact_int Tryz.laysNm220 blk off cap zs w hH hsz hcap
open Go.RowKit Go.Lib Go.Sort in
theorem Tryz.slices_Compact_int_empty(a:Option Addr)(cap:Nat)(w:World):
  Calls prog 246 #[.slice a 0 cap] w fun e w'=>e=.returned (.slice a 0 cap)/\w'=w:=Any.slices_Compact_int_empty Tryz.laysNm220 a cap w
open Go.RowKit Go.Sort in
theorem Tryz.slices_Sort_int_none(p:Option Addr)(cap:Nat)(w:World):
  Calls prog 245 #[.slice p 0 cap] w fun e w'=>e=.returned (.tuple #[])/\w'=w:=Any.slices_Sort_int_none Tryz.lays189 p cap w
end Go.Proofs
namespace Go.Proofs.YtebmobphgaiaiaaGreat.images
open Go Go.Proofs Go.RowKit Go.Shelf Go.Sort
open Go.Proofs.Tryz
theorem below_grow{B:Nat}{w0 w:World}{os:Array Obj}(h:Below B w0 w)(hB:B<=w.heap.size):Below B w0 (grow w os) :=
 ⟨h.os,h.tape,h.output,by simp[grow];have:=h.size;omega,fun k hk=>by
  rw[<-h.block k hk];exact heap_grow_old _ _ (by omega)⟩
set_option maxHeartbeats 2000000 in
set_option maxRecDepth 100000 in
theorem any(b off n c:Nat)(zs:List Int)(w:World)(hz:zs.length=n)(hbig:n*8<=140737488355328)(hc:∀j,j<zs.length->w.cell? ⟨b,off+j,none⟩=some (.int .i64 (zs.getD j 0))):
    Calls prog 189 #[.slice (some ⟨b,off,none⟩) n c] w fun e w'=>e=.returned (.int .i64 (Lib.compact (zs.mergeSort fun x y=>decide (x<=y))).length)/\Below w.heap.size w w':=by
  have hclone:=Tryz.slices_Clone_int b off n c zs w (by omega) hbig hc;rw[List.take_of_length_le (by omega)] at hclone;clear hc
  go_enter func189,ntmps189
  go_wp2_with (first
    | (go_at_call 120;refine hclone.mono ?_;rintro e w1 ⟨v1,rfl,hown,hnn,hbel⟩
       obtain⟨g,cap,rfl,hbg,hgl,hncap,hcm,hlen,hH⟩:=Lib.holds_of_ownsRow hown hnn;have hsort:=Tryz.slices_Sort_int g 0 cap zs w1 hH hgl (by omega);rw[hlen] at hsort;have X:Aside (Below w.heap.size w w1/\w.heap.size<=g/\g<w1.heap.size/\n<=cap/\cap<=maxLen/\Holds (Value.int .i64) w1 g 0 zs.toArray):=⟨hbel,hbg,hgl,hncap,hcm,hH⟩
       clear hown hbel hH hnn)
    | (go_at_call 245;refine hsort.mono ?_;rintro e w2 ⟨rfl,nn,os,rfl⟩
       have hl2:(zs.mergeSort fun x y=>decide (x<=y)).length=n:=by rw[List.length_mergeSort];exact hz
       have hH2:Holds (Value.int .i64) (grow (putRow (Value.int .i64) (Sort.ahead w1 nn) g 0 (zs.mergeSort fun x y=>decide (x<=y)).toArray) os) g 0 (zs.mergeSort fun x y=>decide (x<=y)).toArray :=
         holds_grow _ _ os g 0 _ (by simpa[putRow,mapBlock,Sort.ahead] using X.out.2.2.1) (holds_putRow _ _ g 0 _ _ (holds_ahead _ w1 nn g 0 _ X.out.2.2.2.2.2) (by simp))
       have hcomp:=Tryz.slices_Compact_int g 0 cap (zs.mergeSort fun x y=>decide (x<=y)) _ hH2 (by omega) (by have:=X.out.2.2.2.1;omega);rw[hl2] at hcomp;clear hH2 hsort)
    | (go_at_call 246;refine hcomp.mono ?_;rintro e w3 ⟨rfl,q,rfl⟩))
  go_ret
  exact⟨rfl,Lib.below_putRow (below_grow (Lib.below_putRow X.out.1 X.out.2.1) (by have:=X.out.1.size;simp[putRow,mapBlock,Sort.ahead];omega)) X.out.2.1⟩
set_option maxHeartbeats 2000000 in
set_option maxRecDepth 100000 in
theorem zero(a:Addr)(c:Nat)(w:World):Calls prog 189 #[.slice (some a) 0 c] w fun e w'=>e=.returned (.int .i64 0)/\Below w.heap.size w w':=by
  have hclone:=Tryz.slices_Clone_int_zero a c w
  go_enter func189,ntmps189
  go_wp2_with (first
    | (go_at_call 120;refine hclone.mono ?_;rintro e w1 ⟨v1,rfl,hown,hnn,hbel⟩
       obtain⟨g,cap,rfl,_,_,_,_,_,_⟩:=Lib.holds_of_ownsRow (enc:=Value.int .i64) (zs:=[]) hown hnn;have X:Aside (Below w.heap.size w w1):=hbel
       clear hown hbel hnn)
    | (go_at_call 245;refine(Tryz.slices_Sort_int_none _ _ _).mono ?_;rintro e w2 ⟨rfl,rfl⟩)
    | (go_at_call 246;refine(Tryz.slices_Compact_int_empty _ _ _).mono ?_;rintro e w3 ⟨rfl,rfl⟩))
  go_ret
  exact⟨rfl,X.out⟩
set_option maxHeartbeats 2000000 in
set_option maxRecDepth 100000 in
theorem none(n c:Nat)(w:World):Calls prog 189 #[.slice none n c] w fun e w'=>e=.returned (.int .i64 0)/\Below w.heap.size w w':=by
 go_enter func189,ntmps189
 go_wp2_with (first
  | (go_at_call 120;refine(Tryz.slices_Clone_int_nil n c _).mono ?_;rintro e w1 ⟨rfl,rfl⟩)
  | (go_at_call 245;refine(Tryz.slices_Sort_int_none _ _ _).mono ?_;rintro e w2 ⟨rfl,rfl⟩)
  | (go_at_call 246;refine(Tryz.slices_Compact_int_empty _ _ _).mono ?_;rintro e w3 ⟨rfl,rfl⟩))
 go_ret
 exact⟨rfl,Below.refl _ _⟩
end Go.Proofs.YtebmobphgaiaiaaGreat.images
namespace Go.AM
open Go Go.Proofs Go.RowKit
open Go.Proofs.Tryz
theorem le_below{G:Gh}{w w':World}{m:AMem}(hm:RelM G m w)(h:Below w.heap.size w w'):Le G w G w' where
 os:=h.os
 tape:=h.tape
 output:=h.output
 size:=h.size
 whole b hb hk:=⟨hk,h.block b hb⟩
 part b f c hk:=⟨⟨f,nr _,hk⟩,fun a ha _=>by
  have hb:a.block<w.heap.size:=by
   rcases Nat.lt_or_ge a.block w.heap.size with hb|hb
   .exact hb
   .have:=hm.fresh a.block hb
    rw[ha,hk] at this;cases this
  exact World.cell?_of_block (w:=w) (h.block _ hb)⟩
 bx _ _ h:=h
 ty b c0 T f0 hb:=⟨c0,f0,(h.block b (Array.getElem?_eq_some_iff.1 hb).1).trans hb⟩
 nt:=nr _
 tk t _:=.inr ⟨rfl,fun g hg=>⟨rfl,fun _=>h.block g (hm.tlt t g hg)⟩⟩
theorem lt_of_obj{w:World}{b:Nat}{o:Obj}(h:w.heap[b]?=some o):b<w.heap.size:=by
 rcases Nat.lt_or_ge b w.heap.size with hb|hb
 .exact hb
 .rw[Array.getElem?_eq_none hb] at h;cases h
theorem relM_below{G:Gh}{w w':World}{m:AMem}(hm:RelM G m w)(h:Below w.heap.size w w'):RelM G m w':=by
 have hle:=le_below hm h;constructor
 case box =>
  intro k rows b sz h1 h2;obtain⟨g1,cs,e,g2,g3,g4,g5⟩:=hm.box k rows b sz h1 h2;exact⟨g1,cs,e,by rw[h.block b (lt_of_obj g2)];exact g2,g3,g4.mono hle,g5⟩
 case nobox=>exact hm.nobox
 case inj=>exact hm.inj
 case nb=>exact hm.nb
 case nt=>exact hm.nt
 case toks=>exact hm.toks
 case tokb =>
  intro t g hg;obtain⟨f,cur,e,g1,g2⟩:=hm.tokb t g hg;exact⟨f,cur,e,g1,by rw[h.block g (lt_of_obj g2)];exact g2⟩
 case tinj=>exact hm.tinj
 case tnt=>exact hm.tnt
 case glob=>exact hm.glob.mono hle.cells
 case fresh=>intro b hb;exact hm.fresh b (Nat.le_trans h.size hb)
theorem DCall.of_below{P:Program}{f:FuncId}{args:List AV}{tok:Nat->Bool}{nt:Nat}{v:Value}(hE:Enters P f)(h1:v.oneCell'=true)(h:∀G w vals,RVs G w args vals->Calls P f vals.toArray w fun e w'=>e=.returned v/\Below w.heap.size w w'):DCall P f args tok nt (.d (.raw v)) tok nt:=by
 intro box nb;refine⟨hE,fun G w vals hm hr=>(h G w vals hr).mono ?_⟩;rintro e w' ⟨rfl,hb⟩;exact⟨v,_,_,G,rfl,⟨rfl,rfl⟩,rfl,relM_below hm hb,.d (.raw h1),le_below hm hb,fun k hk=>⟨hk,rfl⟩⟩
theorem rvd_ints{c:Addr->Option Value}{ps:Addr->Prop}{l:List Int}{v:Value}(h:RVd c ps (ints l) v):
  ∃A cap,v=.slice A l.length cap/\l.length<=cap/\cap<=maxLen/\(l≠[]->∃a,A=some a)/\∀a,A=some a->∀i,i<l.length->c (a.add i)=some (.int .i64 (l.getD i 0)):=by
 unfold ints at h;generalize hes:(l.map fun n=>[D.raw (.int .i64 n)])=es at h;cases h with
 | @sl _ _ A cap u hcap hmax hsz hA hc hr =>
  have hl:es.length=l.length:=by rw[<-hes];simp
  refine⟨A,cap,by rw[hl],by omega,hmax,fun hne=>hA (by intro e;rw[e] at hl;exact hne (List.length_eq_zero_iff.1 hl.symm)),fun a ha i hi=>?_⟩;have g:=(hc a ha i 0 (by omega) (by decide)).2;have r:=hr i 0 (by omega) (by rw[hsz _ (List.getElem_mem _)];decide);have e1:es[i][0]'(by rw[hsz _ (List.getElem_mem _)];decide)=D.raw (.int .i64 l[i]):=by
   subst hes;simp
  rw[e1] at r;have e2:u i 0=.int .i64 l[i]:=by
   generalize hu:u i 0=x at r;cases r;rfl
  rw[Nat.mul_one,Nat.add_zero,e2] at g;rw[g];simp[hi]
def imagesN(l:List Int):Nat:=(Lib.compact (l.mergeSort fun x y=>decide (x<=y))).length
theorem imagesN_nil:imagesN []=0:=by
 simp[imagesN,List.mergeSort,Lib.compact];rfl
theorem images88_c(l:List Int)(hl:l.length<=1000000)(tok:Tks)(nt:Nat):DCall prog 189 [.d (ints l)] tok nt (I (imagesN l)) tok nt:=by
 refine DCall.of_below (Enters.mk func189 rfl (by kernel_rfl)) rfl fun G w vals hr=>?_
 obtain⟨hlen,hrv⟩:=hr
 match vals,hlen with
 | [v],_ =>
  have h0:=hrv 0 (by simp) (by simp);simp only[List.getElem_cons_zero] at h0;cases h0 with
  | d h0 =>
   obtain⟨A,cap,rfl,hcap,hmax,hA,hc⟩:=rvd_ints h0;cases A with
   | none =>
    have:l=[]:=by
     by_cases e:l=[]
     .exact e
     .obtain⟨a,ha⟩:=hA e;cases ha
    subst this;exact(YtebmobphgaiaiaaGreat.images.none _ cap w).mono fun e w' h=>by rw[imagesN_nil];exact h
   | some a =>
    by_cases e:l=[]
    .subst e;exact(YtebmobphgaiaiaaGreat.images.zero a cap w).mono fun e w' h=>by rw[imagesN_nil];exact h
    .have hp:0<l.length:=List.length_pos_iff.2 e
     have hc':=hc a rfl
     have hs:a.spot=none:=by
      cases hsp:a.spot with
      | none=>rfl
      | some q =>
       exfalso
       have:=hc' 0 hp
       simp only[World.cell?,Addr.add,hsp,Option.isSome_some,↓reduceIte] at this;split at this<;>simp at this
     obtain⟨b,off,sp⟩:=a;simp only at hs;subst hs;refine(YtebmobphgaiaiaaGreat.images.any b off l.length cap l w rfl (by omega) fun j hj=>?_).mono fun e w' h=>h
     have h1:=hc' j hj;unfold Addr.add at h1;split at h1
     .rename_i e;subst e;exact h1
     .exact h1
theorem upTo_facts(d:Array Int)(hs:∀i j,i<=j->j<d.size->d[i]!<=d[j]!):∀m,m<=d.size->(Lib.compactUpTo d m).Pairwise (· < ·)/\∀x,x∈Lib.compactUpTo d m↔∃j,j<m/\d[j]! =x
 | 0,_=>⟨List.Pairwise.nil,fun x=>⟨fun h=>by simp[Lib.compactUpTo] at h,fun ⟨j,hj,_⟩=>absurd hj (Nat.not_lt_zero _)⟩⟩
 | m+1,hm=>by
  obtain⟨h1,h2⟩:=upTo_facts d hs m (by omega);rw[Lib.compactUpTo_succ];by_cases hk:Lib.keeps d m=true
  .rw[if_pos hk];refine⟨List.pairwise_append.2 ⟨h1,List.pairwise_singleton _ _,fun x hx y hy=>?_⟩,fun x=>?_⟩
   .rw[List.mem_singleton] at hy;subst hy;obtain⟨j,hj,rfl⟩:=(h2 x).1 hx;simp only[Lib.keeps,decide_eq_true_eq] at hk;have a1:=hs j (m-1) (by omega) (by omega);have a2:=hs (m-1) m (by omega) (by omega);have a3:d[m]!≠d[m-1]!:=by rcases hk with hk|hk;omega;exact hk
    omega
   .rw[List.mem_append,List.mem_singleton,h2];constructor
    .rintro(⟨j,hj,e⟩|e)
     .exact⟨j,by omega,e⟩
     .exact⟨m,by omega,e.symm⟩
    .rintro⟨j,hj,e⟩;by_cases ej:j=m
     .subst ej;exact .inr e.symm
     .exact .inl ⟨j,by omega,e⟩
  .rw[if_neg hk,List.append_nil];refine⟨h1,fun x=>?_⟩;rw[h2];constructor
   .rintro⟨j,hj,e⟩;exact⟨j,by omega,e⟩
   .rintro⟨j,hj,e⟩;by_cases ej:j=m
    .subst ej;simp only[Lib.keeps,decide_eq_true_eq,not_or,Decidable.not_not] at hk;exact⟨j-1,by omega,by rw[<-hk.2];exact e⟩
    .exact⟨j,by omega,e⟩
def sortI(l:List Int):List Int:=l.mergeSort fun x y=>decide (x<=y)
theorem sortI_perm(l:List Int):(sortI l).Perm l:=List.mergeSort_perm l _
theorem sortI_sorted(l:List Int):(sortI l).Pairwise (· <= ·):=by
 have:=List.pairwise_mergeSort (le:=fun x y:Int=>decide (x<=y)) (fun a b c h1 h2=>by simp only[decide_eq_true_eq] at *;omega) (fun a b=>by simp only[Bool.or_eq_true,decide_eq_true_eq];omega) l
 exact this.imp fun h=>by simpa using h
theorem sortI_arr(l:List Int)(i j:Nat)(hij:i<=j)(hj:j<(sortI l).toArray.size):(sortI l).toArray[i]!<=(sortI l).toArray[j]!:=by
 simp only[List.size_toArray] at hj;rw[getElem!_pos _ i (by simp;omega),getElem!_pos _ j (by simpa using hj)];by_cases e:i=j
 .subst e;omega
 .exact List.pairwise_iff_getElem.1 (sortI_sorted l) i j (by omega) hj (by omega)
def imagesI(l:List Int):List Int:=Lib.compact (sortI l)
theorem imagesI_sorted(l:List Int):(imagesI l).Pairwise (· < ·):=(upTo_facts (sortI l).toArray (sortI_arr l) (sortI l).length (by simp)).1
theorem imagesN_len(l:List Int):imagesN l=(imagesI l).length:=rfl
theorem imagesN_iff(l:List Int):imagesN l=l.length↔l.Nodup:=by
 have hl:(sortI l).length=l.length:=(sortI_perm l).length_eq
 rw[imagesN_len,<-(sortI_perm l).nodup_iff,<-hl];constructor
 .intro h;have h2:∀j,j<(sortI l).length->Lib.keeps (sortI l).toArray j=true:=by
   unfold imagesI Lib.compact Lib.compactUpTo at h;rw[List.length_map] at h;have h3:(List.range (sortI l).length).filter (Lib.keeps (sortI l).toArray)=List.range (sortI l).length:=List.filter_sublist.eq_of_length (by rw[h,List.length_range])
   intro j hj;exact(List.filter_eq_self.1 h3) j (List.mem_range.2 hj)
  have h4:imagesI l=sortI l:=Lib.compact_all _ h2
  have h5:=imagesI_sorted l;rw[h4] at h5;exact h5.imp fun h=>by omega
 .intro h;have h4:imagesI l=sortI l:=Lib.compact_all _ fun j hj=>by
   by_cases e:j=0
   .simp[Lib.keeps,e]
   .apply Lib.keeps_pos;rw[getElem!_pos _ j (by simpa using hj),getElem!_pos _ (j-1) (by simp;omega)];intro e2;exact List.pairwise_iff_getElem.1 h (j-1) j (by omega) hj (by omega) e2.symm
  rw[h4]
theorem distK_nodup(l:List Int):distK l l.length=true↔l.Nodup:=by
 simp only[distK,List.all_eq_true,List.mem_range,decide_eq_true_eq];rw[List.Nodup,List.pairwise_iff_getElem];constructor
 .intro h i j hi hj hij e;apply h j hj i hij;rw[List.getD_eq_getElem?_getD,List.getD_eq_getElem?_getD,List.getElem?_eq_getElem hj,List.getElem?_eq_getElem hi];exact e.symm
 .intro h j hj k hkj e;rw[List.getD_eq_getElem?_getD,List.getD_eq_getElem?_getD,List.getElem?_eq_getElem hj,List.getElem?_eq_getElem (show k<l.length by omega)] at e;exact h k j (by omega) hj hkj e.symm
theorem images_dist(l:List Int):decide (imagesN l=l.length)=distK l l.length:=by
 rw[Bool.eq_iff_iff,decide_eq_true_eq,imagesN_iff,distK_nodup]
theorem images_beq(l:List Int):((imagesN l:Int)==(l.length:Int))=distK l l.length:=by
 rw[<-images_dist,beqD];simp;omega
theorem injective56_c(a b:Gr)(m:Mo)(ha:a.Fit)(hb:b.Fit)(hm:m.Fit):DC 116 [a.av,b.av,m.av] (B (injM a b m)):=by
 intro tok nt box nb;have i1:=images_beq m.nodes;have i2:=images_beq m.edges;refine sI func116 ntmps116 fun Hb Ht=>?_
 refine sR ?_;simp;refine sR ?_;simp;refine sD (valid51_c a b m ha hb _ _) ?_;simp;by_cases h1:validM a b m=0
 .simp[h1];refine sD (images88_c m.nodes hm.n _ _) ?_;simp[h1];simp only[i1];by_cases h2:distK m.nodes m.nodes.length=true
  .simp[h2];refine sD (images88_c m.edges hm.e _ _) ?_;simp[h1,h2,i2];refine sT (sH Hb Ht ?_);simp[injM,h1,h2]
  .have h3:distK m.nodes m.nodes.length=false:=by simpa using h2
   simp only[h3];simp;refine sT (sH Hb Ht ?_);simp[injM,h1,h3]
 .have hb1:(validM a b m==0)=false:=by simp[h1]
  simp only[hb1];try simp
  refine sT (sH Hb Ht ?_);simp[injM,h1]
def placesK(l h:List Int)(i:Nat):List Int:=(l.take i).map (indexI h)
@[simp] theorem placesK_len(l h:List Int)(i:Nat):(placesK l h i).length=min i l.length:=by simp[placesK]
def byK(l by':List Int)(i:Nat):List Int:=(l.take i).map fun x=>by'.getD x.toNat 0
theorem byK_zero(l h:List Int):byK l h 0=[]:=by simp[byK]
@[simp] theorem byK_len(l h:List Int)(i:Nat):(byK l h i).length=min i l.length:=by simp[byK]
theorem byK_succ(l h:List Int){i:Nat}(hi:i<l.length):byK l h (i+1)=byK l h i++[h.getD l[i].toNat 0]:=by simp only[byK,List.take_add_one,List.getElem?_eq_getElem hi,Option.toList,List.map_append,List.map_cons,List.map_nil]
def thenM(m n:Mo):Mo:=⟨byK m.nodes n.nodes m.nodes.length,byK m.edges n.edges m.edges.length⟩
theorem firstE_all{f:Nat->Int}:∀n,firstE f n=0->∀i,i<n->f i=0
 | 0,_,i,hi=>absurd hi (Nat.not_lt_zero _)
 | n+1,h,i,hi=>by
  simp only[firstE] at h;split at h
  .rename_i h0;by_cases e:i=n
   .subst e;exact h
   .exact firstE_all n h0 i (by omega)
  .contradiction
structure VM (a b:Gr) (m:Mo):Prop where
 va:vG a=0
 vb:vG b=0
 ln:m.nodes.length=a.nodes.length
 le:m.edges.length=a.edges.length
 n:∀x∈m.nodes,0<=x/\x<b.nodes.length
 e:∀x∈m.edges,0<=x/\x<b.edges.length
 nt:∀i,i<a.nodes.length->b.nodes.getD (m.nodes.getD i 0).toNat 0=a.nodes.getD i 0
 et:∀i,i<a.edges.length->b.edges.getD (m.edges.getD i 0).toNat default=⟨(a.edges.getD i default).ty,m.nodes.getD (a.edges.getD i default).fr.toNat 0,m.nodes.getD (a.edges.getD i default).to.toNat 0⟩
theorem validM_VM{a b:Gr}{m:Mo}(h:validM a b m=0):VM a b m:=by
 unfold validM at h;split at h
 .omega
 .rename_i h1;split at h
  .omega
  .rename_i h2;split at h
   .cases h
   .rename_i h3;have hl1:m.nodes.length=a.nodes.length:=by omega
    have hl2:m.edges.length=a.edges.length:=by omega
    split at h
    .contradiction
    .rename_i h4;have h4':firstE (nodeE a b m) a.nodes.length=0:=Decidable.not_not.1 h4
     have n1:=firstE_all _ h4';have n2:=firstE_all _ h;refine⟨by omega,by omega,hl1,hl2,fun x hx=>?_,fun x hx=>?_,fun i hi=>?_,fun i hi=>?_⟩
     .obtain⟨i,hi,rfl⟩:=List.getElem_of_mem hx;have:=n1 i (by omega)
      have e:m.nodes.getD i 0=m.nodes[i]:=by simp[hi]
      unfold nodeE at this;rw[e] at this;split at this
      .cases this
      .omega
     .obtain⟨i,hi,rfl⟩:=List.getElem_of_mem hx;have:=n2 i (by omega)
      have e:m.edges.getD i 0=m.edges[i]:=by simp[hi]
      unfold edgeE at this;rw[e] at this;split at this
      .cases this
      .omega
     .have:=n1 i hi
      unfold nodeE at this;split at this
      .cases this
      .split at this
       .assumption
       .cases this
     .have:=n2 i hi
      unfold edgeE at this;split at this
      .cases this
      .simp only at this;split at this
       .cases this
       .rename_i t1;split at this
        .cases this
        .rename_i t2;have t1':=Decidable.not_not.1 t1
         simp only[ne_eq,not_or,Decidable.not_not] at t2;rw[t1',t2.1,t2.2]
theorem getD_inj{h:List Int}(hn:h.Nodup){i j:Nat}(hi:i<h.length)(hj:j<h.length)(e:h.getD i 0=h.getD j 0):i=j:=by
 rw[List.getD_eq_getElem?_getD,List.getD_eq_getElem?_getD,List.getElem?_eq_getElem hi,List.getElem?_eq_getElem hj] at e;rcases Nat.lt_trichotomy i j with h1|h1|h1
 .exact absurd e (List.pairwise_iff_getElem.1 hn i j hi hj h1)
 .exact h1
 .exact absurd e.symm (List.pairwise_iff_getElem.1 hn j i hj hi h1)
theorem injM_iff(a b:Gr)(m:Mo):injM a b m=true↔validM a b m=0/\m.nodes.Nodup/\m.edges.Nodup:=by
 simp only[injM,Bool.and_eq_true,decide_eq_true_eq,distK_nodup]
theorem validM_of{a b:Gr}{m:Mo}(h:VM a b m):validM a b m=0:=by
 have z1:firstE (nodeE a b m) a.nodes.length=0:=firstE_zero _ fun i hi=>by
  have:=h.n _ (getD_mem (d:=0) (show i<m.nodes.length by rw[h.ln];exact hi))
  unfold nodeE;rw[if_neg (by omega),if_pos (h.nt i hi)]
 have z2:firstE (edgeE a b m) a.edges.length=0:=firstE_zero _ fun i hi=>by
  have:=h.e _ (getD_mem (d:=0) (show i<m.edges.length by rw[h.le];exact hi))
  unfold edgeE;rw[if_neg (by omega)];simp only[h.et i hi,ne_eq,not_true_eq_false,or_self,↓reduceIte]
 unfold validM;rw[if_neg (by simp[h.va]),if_neg (by simp[h.vb]),if_neg (by have:=h.ln;have:=h.le;omega),if_neg (by simp[z1]),z2]
theorem byK_ext{l by' t:List Int}(hl:l.length=t.length)(h:∀i,i<l.length->by'.getD (l.getD i 0).toNat 0=t.getD i 0):byK l by' l.length=t:=by
 apply List.ext_getElem
 .simp[hl]
 .intro i h1 h2;have hi:i<l.length:=by omega
  have:=h i hi
  simp only[List.getD_eq_getElem?_getD,List.getElem?_eq_getElem hi,List.getElem?_eq_getElem h2,Option.getD_some] at this;simp only[byK,List.take_length,List.getElem_map,List.getD_eq_getElem?_getD];exact this
theorem mem_getD{l:List Int}{v:Int}(h:v∈l):∃j,j<l.length/\l.getD j 0=v:=by
 obtain⟨j,hj,e⟩:=List.getElem_of_mem h;exact⟨j,hj,by rw[List.getD_eq_getElem?_getD,List.getElem?_eq_getElem hj];exact e⟩
def chN(ns:List Int)(bit:Nat->Bool):Nat->List Int × List Int
 | 0=>([],[])
 | i+1=>if bit i=true then ((chN ns bit i).1++[ns.getD i 0],(chN ns bit i).2++[(i:Int)]) else chN ns bit i
def atK(ns:List Int)(bit:Nat->Bool):Nat->List Int
 | 0=>[]
 | i+1=>if bit i=true then atK ns bit i++[((chN ns bit i).1.length:Int)] else atK ns bit i++[-1]
def atR(ns:List Int)(bit:Nat->Bool)(i:Nat):List Int:=atK ns bit i++List.replicate (ns.length-i) 0
theorem atK_len(ns:List Int)(bit:Nat->Bool):∀i,(atK ns bit i).length=i
 | 0=>rfl
 | i+1=>by
  simp only[atK];split<;>simp[atK_len ns bit i]
@[simp] theorem atR_len(ns:List Int)(bit:Nat->Bool){i:Nat}(h:i<=ns.length):(atR ns bit i).length=ns.length:=by simp[atR,atK_len];omega
def st64(xs:List Ov)(f:FuncId)(caps:List AV)(nb:Nat)(box:Bxs)(tok:Tks)(nt:Nat)(i:Nat):AS:=⟨tl [(0,.d (ovs xs)),(1,.fn (.func f) caps),(7,I xs.length),(8,I i)],lb nb box [],tok,nt⟩
theorem indexFuncO_c(xs:List Ov)(f:FuncId)(caps:List AV)(p:Ov->Bool)(hx:xs.length<=1000000)(box:Bxs)(nb:Nat)(tok:Tks)(nt:Nat)(hc:∀c∈caps,OkIn (fun k=>box k≠none) (fun _=>True) c)(hf:∀x∈xs,∀box' nb',Ext box box'->ACalls prog f (x.av::caps) ⟨box',nb',tok,nt⟩ fun v m=>v=B (p x)/\m=⟨box',nb',tok,nt⟩):
  ACalls prog 93 [.d (ovs xs),.fn (.func f) caps] ⟨box,nb,tok,nt⟩ fun v m=>v=I (findI p xs)/\m=⟨box,nb,tok,nt⟩:=by
 refine sI func93 ntmps93 fun Hb Ht=>?_
 refine sR ?_;simp;refine sR ?_;simp;refine sN ?_;refine sL (st64 xs f caps nb box tok nt) (fun i=>i<=xs.length/\∀x∈xs.take i,p x=false) (fun i=>xs.length-i) 0 ⟨Nat.zero_le _,by simp⟩ (wM (nr _) rfl (by simp[ToL];exact .same (okFn hc Hb [] (by simp) rfl _)) trivial) ?_;rintro i S ⟨hi,htk⟩ hS;simp only[st64] at hS;subst hS;have hw:=sW (i:=i) (by omega);refine sR ?_;simp;refine sC ?_;simp;refine⟨fun hlt=>?_,fun hge=>?_⟩
 .refine sR ?_;simp;refine sR ?_;simp[hlt];refine Stop.of_b (hf xs[i] (List.getElem_mem _) _ _ ((Ext.refl box).lb Hb [])) ?_;simp;refine sC ?_;simp;refine⟨fun he=>?_,fun hne=>?_⟩
  .refine sR ?_;simp;obtain⟨h1,h2⟩:=any_take hlt htk he;refine sT (sH Hb Ht ?_);simp[findI,h1,h2]
  .refine sR ?_;simp[hw];refine sE ?_;refine⟨i+1,⟨hlt,?_⟩,by omega,wM (nr _) rfl (by simp[ToL];exact .same (okFn hc Hb [] (by simp) rfl _)) trivial⟩;rw[List.take_succ_eq_append_getElem hlt];intro x hx;rcases List.mem_append.1 hx with hx|hx
   .exact htk x hx
   .simp at hx;rw[hx];exact hne
 .refine sX ?_;simp only[AU,↓reduceIte];refine sR ?_;simp;have hn:xs.any p=false:=by
   rw[List.take_of_length_le hge] at htk;simpa using htk
  refine sT (sH Hb Ht ?_);simp[findI,hn]
end Go.AM
namespace Go.Proofs.YtebmobphgaiaiaaGreat.values
open Go Go.Proofs Go.RowKit Go.Shelf
open Go.Proofs.Tryz
attribute [local go_sem] Oper.semAt_some
def upto{α:Type}(f:Nat->α)(k:Nat):List α:=(List.range k).map f
theorem upto_length{α:Type}(f:Nat->α)(k:Nat):(upto f k).length=k:=by simp[upto]
theorem upto_all(zs:List Int):upto (fun j=>zs[j]?.getD 0) zs.length=zs:=by
 apply List.ext_getElem
 .simp[upto]
 .intro i h1 h2;simp[upto,h2]
theorem info3:(prog.info? 3).map (fun i=>(i.zero,i.size,i.bytes))=some (some (.int .i64 0),1,8):=by kernel_rfl
end Go.Proofs.YtebmobphgaiaiaaGreat.values
namespace Go.Proofs.YtebmobphgaiaiaaGreat.values
open Go Go.Proofs Go.RowKit Go.Shelf Go.Sort
open Go.Proofs.Tryz
end Go.Proofs.YtebmobphgaiaiaaGreat.values
namespace Go.AM
open Go Go.Proofs Go.RowKit
open Go.Proofs.Tryz
theorem rvd_owns{G:Gh}{w w':World}{m:AMem}(hm:RelM G m w){v:Value}{xs:List Int}(h:w'.ownsRow w.heap.size 3 1 v xs.length (xs.map (Value.int .i64))):RVd w'.cell? G.ps (ints xs) v:=by
 rcases h.2 with ⟨rfl,h0⟩|⟨g,cap,cur,rfl,hb,hg,h1,h2,h3,h4⟩
 .obtain rfl:xs=[]:=List.length_eq_zero_iff.1 h0;exact .sl (es:=[]) (fun _ _=>default) (nr _) (by decide) (by simp) (by simp) (by simp) (by simp)
 .have hl:xs.length=(xs.map fun n=>[D.raw (.int .i64 n)]).length:=by simp
  have hat:∀i,i<xs.length->cur[i]?=some (.int .i64 (xs.getD i 0)):=fun i hi=>by
   have e:(cur.toList.take (xs.length*1))[i]?=(xs.map (Value.int .i64))[i]?:=by rw[h4]
   rw[List.getElem?_take,if_pos (by omega),Array.getElem?_toList,List.getElem?_map,List.getElem?_eq_getElem hi] at e;rw[e];simp[hi]
  unfold ints
  conv=>rhs;rw[hl]
  refine .sl (fun i _=>.int .i64 (xs.getD i 0)) (by simpa using h1) h2 (fun e he=>?_) (fun _=>⟨_,rfl⟩) (fun a ha i j hi hj=>?_) (fun i j hi hj=>?_)
  .obtain⟨y,_,rfl⟩:=List.mem_map.1 he;rfl
  .cases ha;have hi':i<xs.length:=by simpa using hi
   have hj0:j=0:=by omega
   subst hj0;refine⟨?_,?_⟩
   .unfold Gh.ps;have hbl:(Addr.add ⟨g,0,none⟩ (i*1+0)).block=g:=by unfold Addr.add;split<;>rfl
    rw[hbl,hm.fresh g hb];trivial
   .have ha:Addr.add ⟨g,0,none⟩ (i*1+0)=⟨g,i,none⟩:=by
     unfold Addr.add;split
     .rename_i h0;congr 1;omega
     .simp
    rw[ha];simp only[World.cell?,hg,Option.isSome_none,Bool.false_eq_true,if_false];exact hat i hi'
  .simp only[List.length_map] at hi;simp only[List.getElem_map,List.length_cons,List.length_nil] at hj ⊢;have hj0:j=0:=by omega
   subst hj0;have e:xs.getD i 0=xs[i]:=by simp[hi]
   simp only[List.getElem_cons_zero,e];exact .raw rfl
end Go.AM
namespace Go.Proofs.YtebmobphgaiaiaaGreat.sorted34
open Go Go.Proofs Go.RowKit Go.Shelf Go.Sort
open Go.Proofs.Tryz
set_option maxHeartbeats 2000000 in
set_option maxRecDepth 100000 in
theorem any(b off n c:Nat)(zs:List Int)(w:World)(hz:zs.length=n)(hbig:n*8<=140737488355328)(hc:∀j,j<zs.length->w.cell? ⟨b,off+j,none⟩=some (.int .i64 (zs.getD j 0))):
    Calls prog 265 #[.slice (some ⟨b,off,none⟩) n c] w fun e w'=>∃v,e=.returned v/\w'.ownsRow w.heap.size 3 1 v zs.length ((zs.mergeSort fun x y=>decide (x<=y)).map (Value.int .i64))/\Below w.heap.size w w':=by
  have hclone:=Tryz.slices_Clone_int b off n c zs w (by omega) hbig hc;rw[List.take_of_length_le (by omega)] at hclone;clear hc
  go_enter func265,ntmps265
  go_wp2_with (first
    | (go_at_call 120;refine hclone.mono ?_;rintro e w1 ⟨v1,rfl,hown,hnn,hbel⟩
       have hown':=hown
       obtain⟨g,cap,rfl,hbg,hgl,hncap,hcm,hlen2,hH⟩:=Lib.holds_of_ownsRow hown hnn;have hsort:=Tryz.slices_Sort_int g 0 cap zs w1 hH hgl (by omega);rw[hlen2] at hsort;have X:Aside (w1.ownsRow w.heap.size 3 1 (.slice (some ⟨g,0,none⟩) n cap) n (zs.map (Value.int .i64))/\Below w.heap.size w w1/\w.heap.size<=g/\g<w1.heap.size/\n<=cap/\cap<=maxLen):=⟨hown',hbel,hbg,hgl,hncap,hcm⟩
       clear hown hown' hbel hH hnn)
    | (go_at_call 245;refine hsort.mono ?_;rintro e w2 ⟨rfl,nn,os,rfl⟩))
  go_ret
  obtain⟨x1,x2,x3,x4,x5,x6⟩:=X.out;rcases x1.2 with ⟨e0,_⟩|⟨g',cap',cur,hv,hbase,hb,h1,h2,h3,h4⟩
  . cases e0
  cases hv;subst hz;exact⟨_,rfl,ownsRow_sortedI (by simp) hbase hb h1 h2 h3,x2.grown (grownBy_sortedI _) x2.size (fun j hj=>by cases hj;exact hbase)⟩
set_option maxHeartbeats 2000000 in
set_option maxRecDepth 100000 in
theorem zero(a:Addr)(c:Nat)(w:World):Calls prog 265 #[.slice (some a) 0 c] w fun e w'=>∃v,e=.returned v/\w'.ownsRow w.heap.size 3 1 v 0 []/\Below w.heap.size w w':=by
  have hclone:=Tryz.slices_Clone_int_zero a c w
  go_enter func265,ntmps265
  go_wp2_with (first
    | (go_at_call 120;refine hclone.mono ?_;rintro e w1 ⟨v1,rfl,hown,hnn,hbel⟩
       have hown':=hown
       obtain⟨g,cap,rfl,_,_,_,_,_,_⟩:=Lib.holds_of_ownsRow (enc:=Value.int .i64) (zs:=[]) hown hnn;have X:Aside (w1.ownsRow w.heap.size 3 1 (.slice (some ⟨g,0,none⟩) 0 cap) 0 []/\Below w.heap.size w w1):=⟨hown',hbel⟩
       clear hown hown' hbel hnn)
    | (go_at_call 245;refine(Tryz.slices_Sort_int_none _ _ _).mono ?_;rintro e w2 ⟨rfl,rfl⟩))
  go_ret
  exact⟨_,rfl,X.out.1,X.out.2⟩
set_option maxHeartbeats 2000000 in
set_option maxRecDepth 100000 in
theorem none(n c:Nat)(w:World):Calls prog 265 #[.slice none n c] w fun e w'=>e=.returned (.slice none 0 0)/\Below w.heap.size w w':=by
 go_enter func265,ntmps265
 go_wp2_with (first
  | (go_at_call 120;refine(Tryz.slices_Clone_int_nil n c _).mono ?_;rintro e w1 ⟨rfl,rfl⟩)
  | (go_at_call 245;refine(Tryz.slices_Sort_int_none _ _ _).mono ?_;rintro e w2 ⟨rfl,rfl⟩))
 go_ret
 exact⟨rfl,Below.refl _ _⟩
end Go.Proofs.YtebmobphgaiaiaaGreat.sorted34
namespace Go.AM
open Go Go.Proofs Go.RowKit
open Go.Proofs.Tryz
theorem sorted34_c(l:List Int)(hl:l.length<=1000000):DC 265 [.d (ints l)] (.d (ints (sortI l))):=by
 intro tok nt box nb;refine⟨Enters.mk func265 rfl (by kernel_rfl),fun G w vals hm hr=>?_⟩;obtain⟨hlen,hrv⟩:=hr
 match vals,hlen with
 | [v],_ =>
  have h0:=hrv 0 (by simp) (by simp);simp only[List.getElem_cons_zero] at h0;cases h0 with
  | d h0 =>
   obtain⟨A,cap,rfl,hcap,hmax,hA,hc⟩:=rvd_ints h0;by_cases e:l=[]
   .subst e;have e0:sortI []=[]:=by simp[sortI]
    cases A with
    | none =>
     refine(YtebmobphgaiaiaaGreat.sorted34.none _ cap w).mono ?_;rintro e w' ⟨rfl,hb⟩;exact⟨_,_,_,G,rfl,⟨rfl,rfl⟩,rfl,relM_below hm hb,.d (by rw[e0];exact .sl (es:=[]) (fun _ _=>default) (nr _) (by decide) (by simp) (by simp) (by simp) (by simp)),le_below hm hb,fun k hk=>⟨hk,rfl⟩⟩
    | some a =>
     refine(YtebmobphgaiaiaaGreat.sorted34.zero a cap w).mono ?_;rintro e w' ⟨v,rfl,ho,hb⟩;exact⟨_,_,_,G,rfl,⟨rfl,rfl⟩,rfl,relM_below hm hb,.d (by rw[e0];exact rvd_owns (xs:=[]) hm ho),le_below hm hb,fun k hk=>⟨hk,rfl⟩⟩
   .obtain⟨a,rfl⟩:=hA e;have hp:0<l.length:=List.length_pos_iff.2 e
    have hc':=hc a rfl
    have hs:a.spot=none:=by
     cases hsp:a.spot with
     | none=>rfl
     | some q =>
      exfalso
      have:=hc' 0 hp
      simp only[World.cell?,Addr.add,hsp,Option.isSome_some,↓reduceIte] at this;split at this<;>simp at this
    obtain⟨b,off,sp⟩:=a;simp only at hs;subst hs;refine(YtebmobphgaiaiaaGreat.sorted34.any b off l.length cap l w rfl (by omega) fun j hj=>?_).mono ?_
    .have h1:=hc' j hj;unfold Addr.add at h1;split at h1
     .rename_i e;subst e;exact h1
     .exact h1
    .rintro e w' ⟨v,rfl,hown,hb⟩;have hl2:l.length=(sortI l).length:=by simp[sortI]
     rw[hl2] at hown;exact⟨v,_,_,G,rfl,⟨rfl,rfl⟩,rfl,relM_below hm hb,.d (rvd_owns hm hown),le_below hm hb,fun k hk=>⟨hk,rfl⟩⟩
abbrev Ub(n:Int):AV:=.d (.raw (.int .u8 n))
abbrev Sb(s:ByteArray):AV:=.d (.raw (.string s))
def letB(c:Int):Bool:=decide (97<=c/\c<=122∨65<=c/\c<=90)
def digB(c:Int):Bool:=decide (48<=c/\c<=57)
def parB(c:Int):Bool:=letB c||digB c||c==95
def byteAt(s:ByteArray)(i:Nat):Int:=(s.data.toList.getD i 0).toNat
theorem letter_c(c:Int):DC 314 [Ub c] (B (letB c)):=by
 intro tok nt box nb;by_cases h1:97<=c
 .by_cases h2:c<=122
  .refine sI func314 ntmps314 fun Hb Ht=>?_
   repeat first|simp[h1,h2]|refine sR ?_
   refine sT (sH Hb Ht ?_);simp[letB,h1,h2]
  .have h3:¬c<=90:=by omega
   have h4:65<=c:=by omega
   refine sI func314 ntmps314 fun Hb Ht=>?_
   repeat first|simp[h1,h2,h3,h4]|refine sR ?_
   refine sT (sH Hb Ht ?_);simp[letB,h1,h2,h3,h4]
 .by_cases h3:65<=c
  .by_cases h4:c<=90
   .refine sI func314 ntmps314 fun Hb Ht=>?_
    repeat first|simp[h1,h3,h4]|refine sR ?_
    refine sT (sH Hb Ht ?_);simp[letB,h1,h3,h4]
   .refine sI func314 ntmps314 fun Hb Ht=>?_
    repeat first|simp[h1,h3,h4]|refine sR ?_
    refine sT (sH Hb Ht ?_);simp[letB,h1,h3,h4]
  .refine sI func314 ntmps314 fun Hb Ht=>?_
   repeat first|simp[h1,h3]|refine sR ?_
   refine sT (sH Hb Ht ?_);simp[letB,h1,h3]
theorem digit_c(c:Int):DC 317 [Ub c] (B (digB c)):=by
 intro tok nt box nb;by_cases h1:48<=c
 .by_cases h2:c<=57
  .refine sI func317 ntmps317 fun Hb Ht=>?_
   repeat first|simp[h1,h2]|refine sR ?_
   refine sT (sH Hb Ht ?_);simp[digB,h1,h2]
  .refine sI func317 ntmps317 fun Hb Ht=>?_
   repeat first|simp[h1,h2]|refine sR ?_
   refine sT (sH Hb Ht ?_);simp[digB,h1,h2]
 .refine sI func317 ntmps317 fun Hb Ht=>?_
  repeat first|simp[h1]|refine sR ?_
  refine sT (sH Hb Ht ?_);simp[digB,h1]
theorem part_c1(c:Int):DC 316 [Ub c] (B (parB c)):=by
 intro tok nt box nb;have h1:=letter_c c;have h2:=digit_c c;cases e1:letB c
 .cases e2:digB c
  .rw[e1] at h1;rw[e2] at h2;refine sI func316 ntmps316 fun Hb Ht=>?_
   repeat first|simp|refine sR ?_
   refine sD (h1 _ _) ?_;repeat first|simp|refine sR ?_
   refine sD (h2 _ _) ?_;repeat first|simp|refine sR ?_
   refine sT (sH Hb Ht ?_);simp[parB,e1,e2]
  .rw[e1] at h1;rw[e2] at h2;refine sI func316 ntmps316 fun Hb Ht=>?_
   repeat first|simp|refine sR ?_
   refine sD (h1 _ _) ?_;repeat first|simp|refine sR ?_
   refine sD (h2 _ _) ?_;repeat first|simp|refine sR ?_
   refine sT (sH Hb Ht ?_);simp[parB,e1,e2]
 .rw[e1] at h1;refine sI func316 ntmps316 fun Hb Ht=>?_
  repeat first|simp|refine sR ?_
  refine sD (h1 _ _) ?_;repeat first|simp|refine sR ?_
  refine sT (sH Hb Ht ?_);simp[parB,e1]
def runN(p:Int->Bool)(s:ByteArray)(at':Nat):Nat:=((s.data.toList.drop at').takeWhile fun b=>p (b.toNat:Int)).length
theorem takeW_len{α:Type}(q:α->Bool)(d:α):∀(l:List α) (i:Nat),i<=l.length->(∀j,j<i->q (l.getD j d)=true)->(i=l.length∨q (l.getD i d)=false)->(l.takeWhile q).length=i
 | [],i,hi,_,_=>by simp at hi;subst hi;rfl
 | x::l,0,_,_,h=>by
  have h2:q x=false:=by simpa using h
  simp[List.takeWhile_cons,h2]
 | x::l,i+1,hi,h1,h2=>by
  have hx:q x=true:=by simpa using h1 0 (by omega)
  have ih:=takeW_len q d l i (by simpa using hi) (fun j hj=>by simpa using h1 (j+1) (by omega)) (by simpa using h2);simp[List.takeWhile_cons,hx,ih]
theorem size_toList(s:ByteArray):s.data.toList.length=s.size:=by rw[Array.length_toList];rfl
theorem byteAt_lt{s:ByteArray}{i:Nat}(h:i<s.size):(s.data[i].toNat:Int)=byteAt s i:=by
 have h2:i<s.data.toList.length:=by rw[size_toList];exact h
 rw[byteAt,List.getD_eq_getElem?_getD,List.getElem?_eq_getElem h2,Option.getD_some,Array.getElem_toList]
theorem runN_eq{p:Int->Bool}{s:ByteArray}{a i:Nat}(hi:a+i<=s.size)(h1:∀j,j<i->p (byteAt s (a+j))=true)(h2:a+i=s.size∨p (byteAt s (a+i))=false):runN p s a=i:=by
 have hl:=size_toList s;have g:∀j,(s.data.toList.drop a).getD j 0=s.data.toList.getD (a+j) 0:=fun j=>by simp[List.getD_eq_getElem?_getD,List.getElem?_drop]
 refine takeW_len _ 0 _ i (by rw[List.length_drop];omega) (fun j hj=>?_) ?_
 .rw[g];exact h1 j hj
 .rcases h2 with h2|h2
  .left;rw[List.length_drop];omega
  .right;rw[g];exact h2
def stRu(s:ByteArray)(f:FuncId)(nb:Nat)(box:Bxs)(tok:Tks)(nt:Nat)(i:Nat):AS:=⟨tl [(0,Sb s),(1,.fn (.func f) []),(5,I i)],lb nb box [],tok,nt⟩
theorem run_c(s:ByteArray)(f:FuncId)(p:Int->Bool)(hs:s.size<=200000000000000)(tok:Tks)(nt:Nat)(hf:∀c,DCall prog f [Ub c] tok nt (B (p c)) tok nt):DCall prog 315 [Sb s,.fn (.func f) []] tok nt (I (runN p s 0)) tok nt:=by
 intro box nb;refine sI func315 ntmps315 fun Hb Ht=>?_
 repeat first|simp|refine sR ?_
 refine sN ?_;have hc:∀c∈([]:List AV),OkIn (fun k=>box k≠none) (fun _=>True) c:=by simp
 refine sL (stRu s f nb box tok nt) (fun i=>i<=s.size/\∀j,j<i->p (byteAt s j)=true) (fun i=>s.size-i) 0 ⟨Nat.zero_le _,by omega⟩ (wM (nr _) rfl (by simp[ToL,lk];exact .same (okFn hc Hb [] (by simp) rfl _)) trivial) ?_;rintro i S' ⟨hi,hok⟩ hS;simp only[stRu] at hS;subst hS;have hw:=sW (i:=i) (by omega);by_cases hlt:i<s.size
 .have hbb:=byteAt_lt hlt;have hr:=runN_eq (p:=p) (s:=s) (a:=0) (i:=i) (by omega) (fun j hj=>by rw[Nat.zero_add];exact hok j hj);rw[Nat.zero_add,<-hbb] at hr;have hok2:p (s.data[i].toNat)=true->∀j,j<i+1->p (byteAt s j)=true:=fun h j hj=>by
   by_cases e:j=i
   .rw[e,<-hbb];exact h
   .exact hok j (by omega)
  repeat first|simp[hlt]|refine sR ?_
  refine sD (hf _) ?_;repeat first|simp|refine sR ?_
  generalize (s.data[i].toNat:Int)=c at *;cases e:p c
  .have hr:=hr (.inr e);refine sC ?_;simp;refine sX ?_;simp only[AU,↓reduceIte];repeat first|simp|refine sR ?_
   refine sT (sH Hb Ht ?_);simp[hr]
  .refine sC ?_;simp;repeat first|simp[hw]|refine sR ?_
   refine sE ?_;exact⟨i+1,⟨hlt,hok2 e⟩,by omega,wM (nr _) rfl (by simp[ToL,lk];exact .same (okFn hc Hb [] (by simp) rfl _)) trivial⟩
 .have hie:i=s.size:=by omega
  have hr:=runN_eq (p:=p) (s:=s) (a:=0) (i:=i) (by omega) (fun j hj=>by rw[Nat.zero_add];exact hok j hj) (.inl (by omega));repeat first|simp[hlt]|refine sR ?_|refine sC ?_
  refine sX ?_;simp only[AU,↓reduceIte];repeat first|simp|refine sR ?_
  refine sT (sH Hb Ht ?_);simp[hr]
end Go.AM
namespace Go.Proofs
open Go.Shelf
open Go.Proofs.Tryz
def Tryz.lays137_ren:Go.Shelf.Ren:=⟨fun|137=>320|217=>335|266=>342|n=>n,fun|9=>9|5=>5|3=>3|n=>n,fun|n=>n⟩
theorem Tryz.lays137:Go.Proofs.Lays.n137 prog Tryz.lays137_ren:={
 mixed:=by kernel_rfl
 f137:=func320.trans (congrArg some (by kernel_rfl))
 f217:=func335.trans (congrArg some (by kernel_rfl))
 f266:=func342.trans (congrArg some (by kernel_rfl))
 t3:=underlying3
 a3:=isAgg3
 z3:=sizeOf3
 v3:=zeroValue3
 t5:=underlying5
 a5:=isAgg5
 z5:=sizeOf5
 v5:=zeroValue5
 t9:=underlying9
 a9:=isAgg9
 z9:=sizeOf9
 v9:=zeroValue9 }
open Go.RowKit in
theorem Tryz.strings_IndexByte(s:ByteArray)(c:Int)(w:World):
  Calls prog 320 #[.string s,.int .u8 c] w fun e w'=>e=.returned (.int .i64 (Lib.indexByte s.data.toList c.toNat.toUInt8))/\w'=w:=Any.strings_IndexByte Tryz.lays137 s c w
def Tryz.lays112_ren:Go.Shelf.Ren:=⟨fun|112=>302|n=>n,fun|28=>26|3=>3|4=>4|0=>0|n=>n,fun|n=>n⟩
theorem Tryz.lays112:Go.Proofs.Lays.n112 prog Tryz.lays112_ren:={
 mixed:=by kernel_rfl
 f112:=func302.trans (congrArg some (by kernel_rfl))
 t0:=underlying0
 a0:=isAgg0
 z0:=sizeOf0
 v0:=zeroValue0
 t3:=underlying3
 a3:=isAgg3
 z3:=sizeOf3
 v3:=zeroValue3
 t4:=underlying4
 a4:=isAgg4
 z4:=sizeOf4
 v4:=zeroValue4
 t28:=underlying26
 a28:=isAgg26
 z28:=sizeOf26
 v28:=zeroValue26 }
open Go.RowKit Go.Lib Go.Sort in
theorem Tryz.slices_Reverse_int(blk off cap:Nat)(zs:List Int)(w:World)(hH:Holds (Value.int .i64) w blk off zs.toArray)(hsz:zs.length<=9223372036854775807):
  Calls prog 302 #[.slice (some ⟨blk,off,none⟩) zs.length cap] w fun e w'=>e=.returned (.tuple #[])/\∃n,w'=putRow (Value.int .i64) (Sort.ahead w n) blk off zs.reverse.toArray:=Any.slices_Reverse_int Tryz.lays112 blk off cap zs w hH hsz
open Go.RowKit Go.Lib Go.Sort in
theorem Tryz.slices_Reverse_int_empty(a:Option Addr)(cap:Nat)(w:World):
  Calls prog 302 #[.slice a 0 cap] w fun e w'=>e=.returned (.tuple #[])/\w'=w:=Any.slices_Reverse_int_empty Tryz.lays112 a cap w
end Go.Proofs
namespace Go.AM
open Go Go.Proofs Go.Shelf
open Go.Proofs.Tryz
theorem seq_iff{a b:ByteArray}:a.toList=b.toList↔a=b:=⟨fun h=>by rw[ByteArray.toList_eq,ByteArray.toList_eq] at h;exact Go.WideShapes.bytes_inj h,fun h=>by rw[h]⟩
theorem seq_dec(a b:ByteArray):(a.toList==b.toList)=decide (a=b):=by rw[Bool.eq_iff_iff,beq_iff_eq,decide_eq_true_eq,seq_iff]
abbrev strs(l:List ByteArray):D:=.sl 1 (l.map fun s=>[.raw (.string s)])
def memS(xs:List ByteArray)(v:ByteArray):Bool:=xs.any fun x=>decide (v=x)
theorem memS_iff{xs:List ByteArray}{v:ByteArray}:memS xs v=true↔v∈xs:=by simp[memS]
def indexB(xs:List ByteArray)(v:ByteArray):Int:=if memS xs v=true then (xs.findIdx (fun x=>decide (v=x)):Int) else -1
theorem indexB_nonneg(xs:List ByteArray)(v:ByteArray):(0<=indexB xs v)↔memS xs v=true:=by
 unfold indexB;split<;>simp[*]
def stIs(xs:List ByteArray)(v:ByteArray)(nb:Nat)(box:Bxs)(tok:Tks)(nt:Nat)(i:Nat):AS:=⟨tl [(0,.d (strs xs)),(1,Sb v),(7,I xs.length),(8,I i)],lb nb box [],tok,nt⟩
theorem strs_at{l:List ByteArray}{i:Nat}(h:i<l.length):(l.map fun s=>[D.raw (.string s)])[i]?=some [D.raw (.string l[i])]:=by simp[h]
theorem indexS_c(xs:List ByteArray)(v:ByteArray)(hx:xs.length<=1000000):DC 328 [.d (strs xs),Sb v] (I (indexB xs v)):=by
 intro tok nt box nb;refine sI func328 ntmps328 fun Hb Ht=>?_
 repeat first|simp|refine sR ?_
 refine sN ?_;refine sL (stIs xs v nb box tok nt) (fun i=>i<=xs.length/\v∉xs.take i) (fun i=>xs.length-i) 0 ⟨Nat.zero_le _,by simp⟩ (wM (nr _) rfl (by simp[ToL,lk]) trivial) ?_;rintro i S' ⟨hi,htk⟩ hS;simp only[stIs] at hS;subst hS;have hw:=sW (i:=i) (by omega);repeat first|simp|refine sR ?_|refine sC ?_
 refine⟨fun hlt=>?_,fun hge=>?_⟩
 .have hsp:xs=xs.take i++xs[i]::xs.drop (i+1):=by simp
  by_cases he:v=xs[i]
  .have b:(v.toList==xs[i].toList)=true:=by rw[seq_dec];simpa using he
   have hmem:memS xs v=true:=memS_iff.2 (by rw[he];exact List.getElem_mem _)
   have hid:xs.findIdx (fun x=>decide (v=x))=i:=by
    rw[List.findIdx_eq hlt];refine⟨by simpa using he,fun j hj=>?_⟩;have:¬v=xs[j]:=fun e=>htk (by rw[e,List.mem_take_iff_getElem];exact⟨j,by omega,rfl⟩)
    simpa using this
   repeat first|simp[hlt,b]|refine sR ?_
   refine sC ?_;repeat first|simp|refine sR ?_
   refine sT (sH Hb Ht ?_);simp[indexB,hmem,hid]
  .have b:(v.toList==xs[i].toList)=false:=by rw[seq_dec];simpa using he
   repeat first|simp[hlt,b]|refine sR ?_
   refine sC ?_;simp;repeat first|simp[hw]|refine sR ?_
   refine sE ?_;refine⟨i+1,⟨hlt,?_⟩,by omega,wM (nr _) rfl (by simp[ToL,lk]) trivial⟩;rw[List.take_succ_eq_append_getElem hlt];simp only[List.mem_append,List.mem_singleton,not_or];exact⟨htk,he⟩
 .refine sX ?_;simp only[AU,↓reduceIte];repeat first|simp|refine sR ?_
  have hn:memS xs v=false:=by
   rw[List.take_of_length_le hge] at htk;rw[<-Bool.not_eq_true,memS_iff];exact htk
  refine sT (sH Hb Ht ?_);simp[indexB,hn]
theorem containsS_c(xs:List ByteArray)(v:ByteArray)(hx:xs.length<=1000000):DC 301 [.d (strs xs),Sb v] (B (memS xs v)):=by
 intro tok nt box nb;refine sI func301 ntmps301 fun Hb Ht=>?_
 repeat first|simp|refine sR ?_
 refine sD (indexS_c xs v hx _ _) ?_;repeat first|simp|refine sR ?_
 refine sT (sH Hb Ht ?_);simp[indexB_nonneg]
theorem indexByte_c(s:ByteArray)(c:Int):DC 320 [Sb s,Ub c] (I (Lib.indexByte s.data.toList c.toNat.toUInt8)):=by
 intro tok nt box nb;refine⟨Enters.mk func320 rfl (by kernel_rfl),fun G w vals hm hr=>?_⟩;obtain⟨hlen,hrv⟩:=hr
 match vals,hlen with
 | [v,u],_ =>
  have h0:=hrv 0 (by simp) (by simp);have h1:=hrv 1 (by simp) (by simp);simp only[List.getElem_cons_zero,List.getElem_cons_succ] at h0 h1;cases h0 with
  | d h0 =>
  cases h0 with
  | raw h0 =>
  cases h1 with
  | d h1 =>
  cases h1 with
  | raw h1 =>
   refine(Tryz.strings_IndexByte s c w).mono ?_;rintro e w' ⟨rfl,rfl⟩;exact⟨_,_,_,G,rfl,⟨rfl,rfl⟩,rfl,hm,.d (.raw rfl),Le.refl _ _,fun k hk=>⟨hk,rfl⟩⟩
def quoB(c:Int):Bool:=decide (32<=c/\c<=126)&&c != 34
theorem quoted1_c(c:Int):DC 334 [Ub c] (B (quoB c)):=by
 intro tok nt box nb;by_cases h1:32<=c
 .by_cases h2:c<=126
  .refine sI func334 ntmps334 fun Hb Ht=>?_
   repeat first|simp[h1,h2]|refine sR ?_
   refine sT (sH Hb Ht ?_);simp[quoB,h1,h2]
  .refine sI func334 ntmps334 fun Hb Ht=>?_
   repeat first|simp[h1,h2]|refine sR ?_
   refine sT (sH Hb Ht ?_);simp[quoB,h1,h2]
 .refine sI func334 ntmps334 fun Hb Ht=>?_
  repeat first|simp[h1]|refine sR ?_
  refine sT (sH Hb Ht ?_);simp[quoB,h1]
theorem runN_le(p:Int->Bool)(s:ByteArray)(a:Nat):runN p s a<=s.size-a:=by
 have h:=(List.takeWhile_sublist (l:=s.data.toList.drop a) fun b=>p (b.toNat:Int)).length_le;rw[List.length_drop,size_toList] at h;exact h
theorem ext1_size{s:ByteArray}:(s.extract 1 s.size).size=s.size-1:=by simp[ByteArray.size_extract]
def quoR(s:ByteArray):Int × Int :=
 if 1+runN quoB (s.extract 1 s.size) 0=s.size then (0,2) else if byteAt s (1+runN quoB (s.extract 1 s.size) 0)≠34 then (0,2)
 else if 60<runN quoB (s.extract 1 s.size) 0 then (0,3) else ((runN quoB (s.extract 1 s.size) 0:Int)+2,0)
theorem quoted_c(s:ByteArray)(h1:1<=s.size)(hs:s.size<=200000000000000):DC 318 [Sb s] (.tup [I (quoR s).1,I (quoR s).2]):=by
 intro tok nt box nb;have hr:=run_c (s.extract 1 s.size) 334 quoB (by rw[ext1_size];omega) tok nt fun c=>quoted1_c c tok nt
 have hle:=runN_le quoB (s.extract 1 s.size) 0;rw[ext1_size] at hle;have hq:quoR s=if 1+runN quoB (s.extract 1 s.size) 0=s.size then (0,2) else if byteAt s (1+runN quoB (s.extract 1 s.size) 0)≠34 then (0,2) else if 60<runN quoB (s.extract 1 s.size) 0 then (0,3) else ((runN quoB (s.extract 1 s.size) 0:Int)+2,0):=rfl
 generalize runN quoB (s.extract 1 s.size) 0=n at *;have h1':(1:Int)<=s.size:=by omega
 have w1:IntKind.i64.wrap (1+(n:Int))=((1+n:Nat):Int):=by rw[wrap_in (by omega) (by omega)];omega
 have w2:IntKind.i64.wrap ((n:Int)+2)=(n:Int)+2:=wrap_in (by omega) (by omega)
 refine sI func318 ntmps318 fun Hb Ht=>?_
 repeat first|simp[h1,h1']|refine sR ?_
 refine sD (hr) ?_;simp;by_cases e1:1+n=s.size
 .have b1:((1:Int)+n==s.size)=true:=by rw[beq_iff_eq];omega
  rw[if_pos e1] at hq;rw[hq];repeat first|simp[w1,b1]|refine sR ?_
  refine sC ?_;repeat first|simp|refine sR ?_
  refine sT (sH Hb Ht ?_);simp
 .have b1:((1:Int)+n==s.size)=false:=by rw[beq_eq_false_iff_ne];omega
  have hlt:1+n<s.size:=by omega
  have hb:=byteAt_lt hlt;have l1:(0:Int)<=1+n:=by omega
  have l2:(1:Int)+n<s.size:=by omega
  have t1:((1:Int)+n).toNat=1+n:=by omega
  rw[if_neg e1] at hq;repeat first|simp[w1,b1,l1,l2,t1,hlt]|refine sR ?_
  rw[hb];by_cases e2:byteAt s (1+n)=34
  .have b2:(byteAt s (1+n) != 34)=false:=by simp[e2]
   rw[if_neg (by simp[e2])] at hq;simp only[b2];refine sC ?_;simp;repeat first|simp[w2]|refine sR ?_
   by_cases e3:60<n
   .have e4:(60:Int)<n:=by omega
    rw[if_pos e3] at hq;rw[hq];refine sC ?_;simp[e4];repeat first|simp|refine sR ?_
    refine sT (sH Hb Ht ?_);simp
   .have e4:¬(60:Int)<n:=by omega
    rw[if_neg e3] at hq;rw[hq];refine sC ?_;simp[e4];repeat first|simp[w2]|refine sR ?_
    refine sT (sH Hb Ht ?_);simp
  .have b2:(byteAt s (1+n) != 34)=true:=by simp[e2]
   rw[if_pos e2] at hq;rw[hq];simp only[b2];refine sC ?_;repeat first|simp|refine sR ?_
   refine sT (sH Hb Ht ?_);simp
def pairL:List ByteArray:=[⟨#[45,62]⟩,⟨#[60,61]⟩,⟨#[62,61]⟩,⟨#[61,61]⟩,⟨#[33,61]⟩]
def pairB(s:ByteArray):Bool:=decide (2<=s.size)&&memS pairL (s.extract 0 2)
theorem pair_c(s:ByteArray)(hs:s.size<=200000000000000):DC 319 [Sb s] (B (pairB s)):=by
 intro tok nt box nb;by_cases h2:2<=s.size
 .have h2':(2:Int)<=s.size:=by omega
  refine sI func319 ntmps319 fun Hb Ht=>?_
  have hc:=containsS_c pairL (s.extract 0 2) (by decide);repeat first|simp[h2,h2']|refine sR ?_
  refine⟨rfl,?_⟩;refine Stop.data ?_;refine sD (hc _ _) ?_;repeat first|simp|refine sR ?_
  refine sT (sH Hb Ht ?_);simp[pairB,h2]
 .have h2':¬(2:Int)<=s.size:=by omega
  refine sI func319 ntmps319 fun Hb Ht=>?_
  repeat first|simp[h2,h2']|refine sR ?_
  refine sT (sH Hb Ht ?_);simp[pairB,h2]
def nextR(s:ByteArray):Int × Int × Int :=
 if letB (byteAt s 0)=true then (if 20<runN parB s 0 then (0,0,3) else (1,runN parB s 0,0))
 else if digB (byteAt s 0)=true then (if 9<runN digB s 0 then (0,0,3) else (2,runN digB s 0,0))
 else if byteAt s 0=34 then (3,(quoR s).1,(quoR s).2) else if pairB s=true then (4,2,0)
 else if 0<=Lib.indexByte [123,125,40,41,91,93,44,59,58,61,43,45,42,60,62,33,38,124,46,63] (UInt8.ofNat (byteAt s 0).toNat) then (4,1,0) else (0,0,2)
theorem next_c(s:ByteArray)(h1:1<=s.size)(hs:s.size<=200000000000000):DC 284 [Sb s] (.tup [I (nextR s).1,I (nextR s).2.1,I (nextR s).2.2]):=by
 intro tok nt box nb;have hl:=letter_c (byteAt s 0);have hd:=digit_c (byteAt s 0);have r1:=run_c s 316 parB hs tok nt fun c=>part_c1 c tok nt
 have r2:=run_c s 317 digB hs tok nt fun c=>digit_c c tok nt
 have hq:=quoted_c s h1 hs;have hp:=pair_c s hs;have hx:=fun q=>indexByte_c q (byteAt s 0)
 have h0:0<s.size:=h1
 have h0':(0:Int)<s.size:=by omega
 have hb:=byteAt_lt h0;obtain⟨N,hN⟩:∃N,nextR s=N:=⟨_,rfl⟩
 rw[hN];unfold nextR at hN;have n1:runN parB s 0<=s.size:=runN_le _ _ _
 have n2:runN digB s 0<=s.size:=runN_le _ _ _
 generalize runN parB s 0=a1 at *;generalize runN digB s 0=a2 at *;refine sI func284 ntmps284 fun Hb Ht=>?_
 repeat first|simp[h0,h0']|refine sR ?_
 rw[hb];refine sD (hl _ _) ?_;repeat first|simp|refine sR ?_
 cases e1:letB (byteAt s 0)
 .rw[if_neg (by simp[e1])] at hN;refine sC ?_;repeat first|simp|refine sR ?_
  refine sD (hd _ _) ?_;repeat first|simp|refine sR ?_
  cases e2:digB (byteAt s 0)
  .rw[if_neg (by simp[e2])] at hN;refine sC ?_;repeat first|simp|refine sR ?_
   by_cases e3:byteAt s 0=34
   .rw[if_pos e3] at hN;have b3:(byteAt s 0==34)=true:=by simp[e3]
    simp only[b3];refine sC ?_;repeat first|simp|refine sR ?_
    refine sD (hq _ _) ?_;repeat first|simp|refine sR ?_
    refine sT (sH Hb Ht ?_);simp[<-hN]
   .rw[if_neg e3] at hN;have b3:(byteAt s 0==34)=false:=by simp[e3]
    simp only[b3];refine sC ?_;repeat first|simp|refine sR ?_
    refine sD (hp _ _) ?_;repeat first|simp|refine sR ?_
    cases e4:pairB s
    .rw[if_neg (by simp[e4])] at hN;refine sC ?_;repeat first|simp|refine sR ?_
     refine sD (hx _ _ _) ?_;repeat first|simp|refine sR ?_
     by_cases e5:0<=Lib.indexByte [123,125,40,41,91,93,44,59,58,61,43,45,42,60,62,33,38,124,46,63] (UInt8.ofNat (byteAt s 0).toNat)
     .rw[if_pos e5] at hN;refine sC ?_;simp[e5];repeat first|simp|refine sR ?_
      refine sT (sH Hb Ht ?_);simp[<-hN]
     .rw[if_neg e5] at hN;refine sC ?_;simp[e5];repeat first|simp|refine sR ?_
      refine sT (sH Hb Ht ?_);simp[<-hN]
    .rw[if_pos e4] at hN;refine sC ?_;repeat first|simp|refine sR ?_
     refine sT (sH Hb Ht ?_);simp[<-hN]
  .rw[if_pos e2] at hN;refine sC ?_;repeat first|simp|refine sR ?_
   refine sD (r2) ?_;repeat first|simp|refine sR ?_
   by_cases e3:9<a2
   .have e4:(9:Int)<a2:=by omega
    rw[if_pos e3] at hN;refine sC ?_;simp[e4];repeat first|simp|refine sR ?_
    refine sT (sH Hb Ht ?_);simp[<-hN]
   .have e4:¬(9:Int)<a2:=by omega
    rw[if_neg e3] at hN;refine sC ?_;simp[e4];repeat first|simp|refine sR ?_
    refine sT (sH Hb Ht ?_);simp[<-hN]
 .rw[if_pos e1] at hN;refine sC ?_;repeat first|simp|refine sR ?_
  refine sD (r1) ?_;repeat first|simp|refine sR ?_
  by_cases e3:20<a1
  .have e4:(20:Int)<a1:=by omega
   rw[if_pos e3] at hN;refine sC ?_;simp[e4];repeat first|simp|refine sR ?_
   refine sT (sH Hb Ht ?_);simp[<-hN]
  .have e4:¬(20:Int)<a1:=by omega
   rw[if_neg e3] at hN;refine sC ?_;simp[e4];repeat first|simp|refine sR ?_
   refine sT (sH Hb Ht ?_);simp[<-hN]
def nameB(s:ByteArray):Bool:=decide (1<=s.size/\s.size<=20)&&letB (byteAt s 0)&&decide (runN parB s 0=s.size)
theorem nameB_next{s:ByteArray}(h1:1<=s.size):((decide ((nextR s).2.2=0)&&decide ((nextR s).1=1))&&decide ((nextR s).2.1=(s.size:Int)))=nameB s:=by
 unfold nameB nextR;by_cases e1:letB (byteAt s 0)=true
 .rw[if_pos e1];by_cases e2:20<runN parB s 0
  .rw[if_pos e2];have:¬((1<=s.size/\s.size<=20)/\runN parB s 0=s.size):=by omega
   rw[Bool.eq_iff_iff];simp[e1];omega
  .rw[if_neg e2];rw[Bool.eq_iff_iff];simp[e1];omega
 .rw[if_neg e1];have e1':letB (byteAt s 0)=false:=by simpa using e1
  rw[e1'];simp only[Bool.and_false,Bool.false_and];split
  .split<;>simp
  .split
   .simp
   .split
    .simp
    .split<;>simp
theorem empty_dec{s:ByteArray}:(s.toList==(⟨#[]⟩:ByteArray).toList)=decide (s.size=0):=by
 rw[seq_dec,Bool.eq_iff_iff,decide_eq_true_eq,decide_eq_true_eq];constructor
 .rintro rfl;rfl
 .intro h;obtain⟨⟨l⟩⟩:=s;cases l with
  | nil=>rfl
  | cons x r=>simp[ByteArray.size] at h
theorem wholeN_c(s:ByteArray)(hs:s.size<=200000000000000):DC 250 [.agg [I 1,Sb s,I 0]] (.tup [Sb s,B (nameB s)]):=by
 intro tok nt box nb;by_cases h0:s.size=0
 .have b0:(s.toList==(⟨#[]⟩:ByteArray).toList)=true:=by rw[empty_dec];simp[h0]
  have hse:s=⟨#[]⟩:=by rw[seq_dec] at b0;simpa using b0
  have hn:nameB s=false:=by simp[nameB,h0]
  rw[hn];refine sI func250 ntmps250 fun Hb Ht=>?_
  repeat (first|simp|refine sR ?_)
  refine sC ?_
  repeat (first|simp|refine sR ?_)
  have b1:s.toList=[]:=by simpa using b0
  repeat first|simp[b1]|refine sR ?_|refine sC ?_
  refine sT (sH Hb Ht ?_);simp[hse]
 .have b0:(s.toList==(⟨#[]⟩:ByteArray).toList)=false:=by rw[empty_dec];simp[h0]
  have hx:=next_c s (by omega) hs;have hnb:=nameB_next (s:=s) (by omega);generalize nextR s=N at *;refine sI func250 ntmps250 fun Hb Ht=>?_
  repeat (first|simp|refine sR ?_)
  refine sC ?_
  repeat (first|simp|refine sR ?_)
  have b1:¬s.toList=[]:=by simpa using b0
  repeat first|simp[b1]|refine sR ?_|refine sC ?_
  refine sD (hx _ _) ?_;simp;by_cases f1:N.2.2=0
  .have g1:(N.2.2==0)=true:=by simp[f1]
   by_cases f2:N.1=1
   .have g2:(N.1==1)=true:=by simp[f2]
    repeat first|simp[g1,g2]|refine sR ?_
    by_cases f3:N.2.1=(s.size:Int)
    .have g3:(N.2.1==(s.size:Int))=true:=by simp[f3]
     rw[<-hnb];refine sT (sH Hb Ht ?_);simp[f1,f2,f3,g3]
    .have g3:(N.2.1==(s.size:Int))=false:=by simp[f3]
     rw[<-hnb];refine sT (sH Hb Ht ?_);simp[f1,f2,f3,g3]
   .have g2:(N.1==1)=false:=by simp[f2]
    rw[<-hnb];repeat first|simp[g1,g2]|refine sR ?_
    refine sT (sH Hb Ht ?_);simp[f1,f2]
  .have g1:(N.2.2==0)=false:=by simp[f1]
   rw[<-hnb];repeat first|simp[g1]|refine sR ?_
   refine sT (sH Hb Ht ?_);simp[f1]
theorem isName_c(s:ByteArray)(hs:s.size<=200000000000000):DC 194 [Sb s] (B (nameB s)):=by
 intro tok nt box nb;have h:=wholeN_c s hs;refine sI func194 ntmps194 fun Hb Ht=>?_
 repeat first|simp|refine sR ?_
 refine sD (h _ _) ?_;repeat first|simp|refine sR ?_
 refine sT (sH Hb Ht ?_);simp
theorem letter01_c(c:Int):DC 288 [Ub c] (B (letB c)):=by
 intro tok nt box nb;by_cases h1:97<=c
 .by_cases h2:c<=122
  .refine sI func288 ntmps288 fun Hb Ht=>?_
   repeat first|simp[h1,h2]|refine sR ?_
   refine sT (sH Hb Ht ?_);simp[letB,h1,h2]
  .have h3:¬c<=90:=by omega
   have h4:65<=c:=by omega
   refine sI func288 ntmps288 fun Hb Ht=>?_
   repeat first|simp[h1,h2,h3,h4]|refine sR ?_
   refine sT (sH Hb Ht ?_);simp[letB,h1,h2,h3,h4]
 .by_cases h3:65<=c
  .by_cases h4:c<=90
   .refine sI func288 ntmps288 fun Hb Ht=>?_
    repeat first|simp[h1,h3,h4]|refine sR ?_
    refine sT (sH Hb Ht ?_);simp[letB,h1,h3,h4]
   .refine sI func288 ntmps288 fun Hb Ht=>?_
    repeat first|simp[h1,h3,h4]|refine sR ?_
    refine sT (sH Hb Ht ?_);simp[letB,h1,h3,h4]
  .refine sI func288 ntmps288 fun Hb Ht=>?_
   repeat first|simp[h1,h3]|refine sR ?_
   refine sT (sH Hb Ht ?_);simp[letB,h1,h3]
theorem digit01_c(c:Int):DC 289 [Ub c] (B (digB c)):=by
 intro tok nt box nb;by_cases h1:48<=c
 .by_cases h2:c<=57
  .refine sI func289 ntmps289 fun Hb Ht=>?_
   repeat first|simp[h1,h2]|refine sR ?_
   refine sT (sH Hb Ht ?_);simp[digB,h1,h2]
  .refine sI func289 ntmps289 fun Hb Ht=>?_
   repeat first|simp[h1,h2]|refine sR ?_
   refine sT (sH Hb Ht ?_);simp[digB,h1,h2]
 .refine sI func289 ntmps289 fun Hb Ht=>?_
  repeat first|simp[h1]|refine sR ?_
  refine sT (sH Hb Ht ?_);simp[digB,h1]
def stR01(s:ByteArray)(d:Bool)(nb:Nat)(box:Bxs)(tok:Tks)(nt:Nat)(i:Nat):AS:=⟨tl [(0,Sb s),(1,I 0),(2,B d),(7,I i)],lb nb box [],tok,nt⟩
def pd(d:Bool)(c:Int):Bool:=digB c||(!d&&(letB c||c==95))
theorem pd_false:pd false=parB:=by
 funext c
 simp only[pd,parB,Bool.not_false,Bool.true_and];cases letB c<;>cases digB c<;>simp
set_option maxRecDepth 100000 in
theorem run01_c(s:ByteArray)(d:Bool)(hs:s.size<=200000000000000):DC 290 [Sb s,I 0,B d] (I (runN (pd d) s 0)):=by
 intro tok nt box nb;have hl:=letter01_c;have hd:=digit01_c;refine sI func290 ntmps290 fun Hb Ht=>?_
 repeat first|simp|refine sR ?_
 refine sN ?_;refine sL (stR01 s d nb box tok nt) (fun i=>i<=s.size/\∀j,j<i->pd d (byteAt s j)=true) (fun i=>s.size-i) 0 ⟨Nat.zero_le _,by omega⟩ (wM (nr _) rfl (by simp[ToL,lk]) trivial) ?_;rintro i S' ⟨hi,hok⟩ hS;simp only[stR01] at hS;subst hS;have hw:=sW (i:=i) (by omega);have hwi:IntKind.i64.wrap (i:Int)=i:=wrap_in (by omega) (by omega)
 by_cases hlt:i<s.size
 .have hbb:=byteAt_lt hlt;have hr:=runN_eq (p:=pd d) (s:=s) (a:=0) (i:=i) (by omega) (fun j hj=>by rw[Nat.zero_add];exact hok j hj);rw[Nat.zero_add,<-hbb] at hr;have hok2:pd d (s.data[i].toNat)=true->∀j,j<i+1->pd d (byteAt s j)=true:=fun h j hj=>by
   by_cases e:j=i
   .rw[e,<-hbb];exact h
   .exact hok j (by omega)
  have hd:=hd (s.data[i].toNat);have hl:=hl (s.data[i].toNat);have fin1:pd d (s.data[i].toNat)=false->runN (pd d) s 0=i:=fun h=>hr (.inr h)
  cases ed:digB (s.data[i].toNat)
  .rw[ed] at hd;cases d
   .cases el:letB (s.data[i].toNat)
    .rw[el] at hl;cases eu:((s.data[i].toNat:Int)==95)
     .have hr:=fin1 (by simp[pd,ed,el,eu]);repeat first|simp[hlt,hwi]|refine sR ?_
      refine sD (hd _ _) ?_;simp;repeat first|simp[hlt,hwi]|refine sR ?_
      refine sD (hl _ _) ?_;simp;repeat first|simp[hlt,hwi,eu]|refine sR ?_|refine sC ?_
      refine sX ?_;simp only[AU,↓reduceIte];repeat first|simp|refine sR ?_
      refine sT (sH Hb Ht ?_);simp[hr]
     .have hv:=hok2 (by simp[pd,ed,el,eu]);repeat first|simp[hlt,hwi]|refine sR ?_
      refine sD (hd _ _) ?_;simp;repeat first|simp[hlt,hwi]|refine sR ?_
      refine sD (hl _ _) ?_;simp;repeat first|simp[hlt,hwi,eu]|refine sR ?_
      refine sC ?_;simp;repeat first|simp[hw]|refine sR ?_
      refine sE ?_;exact⟨i+1,⟨hlt,hv⟩,by omega,wM (nr _) rfl (by simp[ToL,lk]) trivial⟩
    .rw[el] at hl;have hv:=hok2 (by simp[pd,ed,el]);repeat first|simp[hlt,hwi]|refine sR ?_
     refine sD (hd _ _) ?_;simp;repeat first|simp[hlt,hwi]|refine sR ?_
     refine sD (hl _ _) ?_;simp;repeat first|simp[hlt,hwi]|refine sR ?_
     refine sC ?_;simp;repeat first|simp[hw]|refine sR ?_
     refine sE ?_;exact⟨i+1,⟨hlt,hv⟩,by omega,wM (nr _) rfl (by simp[ToL,lk]) trivial⟩
   .have hr:=fin1 (by simp[pd,ed]);repeat first|simp[hlt,hwi]|refine sR ?_
    refine sD (hd _ _) ?_;simp;repeat first|simp[hlt,hwi]|refine sR ?_|refine sC ?_
    refine sX ?_;simp only[AU,↓reduceIte];repeat first|simp|refine sR ?_
    refine sT (sH Hb Ht ?_);simp[hr]
  .rw[ed] at hd;have hv:=hok2 (by simp[pd,ed]);repeat first|simp[hlt,hwi]|refine sR ?_
   refine sD (hd _ _) ?_;simp;repeat first|simp[hlt,hwi]|refine sR ?_
   refine sC ?_;simp;repeat first|simp[hw]|refine sR ?_
   refine sE ?_;exact⟨i+1,⟨hlt,hv⟩,by omega,wM (nr _) rfl (by simp[ToL,lk]) trivial⟩
 .have hie:i=s.size:=by omega
  have hr:=runN_eq (p:=pd d) (s:=s) (a:=0) (i:=i) (by omega) (fun j hj=>by rw[Nat.zero_add];exact hok j hj) (.inl (by omega));repeat first|simp[hlt,hwi]|refine sR ?_|refine sC ?_
  refine sX ?_;simp only[AU,↓reduceIte];repeat first|simp|refine sR ?_
  refine sT (sH Hb Ht ?_);simp[hr]
end Go.AM
