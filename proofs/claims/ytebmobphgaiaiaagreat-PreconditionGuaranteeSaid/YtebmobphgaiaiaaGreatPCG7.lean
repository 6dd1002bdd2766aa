/-
 Parts of the proof, as merged from many texts: a machine over data, what the functions compute, plain laws.
-/
import Derived.Test.YtebmobphgaiaiaaGreatPCG6
import Derived.Test.YtebmobphgaiaiaaGreatChecked
import Derived.RangeFuncBox
import Derived.RangeFuncLeaves
import Derived.Shelf.Abstract
import Derived.WalkKit
import Derived.OwnWalkIn
import Derived.TacticsInMore
import Derived.LoopNIn
import Derived.LoopIn
import Derived.Maps.AppendAt
import Derived.Sort.OwnSortedInts
import Derived.Lib.OwnBridge
import Derived.Sort.EveryDepth
import Derived.Shelf.Small.Strs
import Derived.Shelf.Strings.Search1
import Derived.Shelf.Slices.Reverse
import Derived.Ground.Names2Prog
import Derived.Test.YtebmobphgaiaiaaGreatProg
import Derived.Laws.Strings
import Derived.WideShapes
set_option linter.unusedSimpArgs false
set_option linter.unusedVariables false
namespace Go.AM
open Go Go.Proofs Go.RowKit
open Tryz
theorem le_below{G:Gh}{w w':World}{m:AMem}(hm:RelM G m w)(h:Below w.heap.size w w'):Le G w G w' where
 os:=h.os
 tape:=h.tape
 output:=h.output
 size:=h.size
 whole b hb hk:=⟨hk,h.block b hb⟩
 part b f c hk:=⟨⟨f,nr _,hk⟩,fun a ha _=>by
  have hb:a.block<w.heap.size:=by
   rcases Nat.lt_or_ge a.block w.heap.size with hb|hb
   .exact hb
   .have:=hm.fresh a.block hb
    rw[ha,hk] at this;cases this
  exact World.cell?_of_block (w:=w) (h.block _ hb)⟩
 bx _ _ h:=h
 ty b c0 T f0 hb:=⟨c0,f0,(h.block b (Array.getElem?_eq_some_iff.1 hb).1).trans hb⟩
 nt:=nr _
 tk t _:=.inr ⟨rfl,fun g hg=>⟨rfl,fun _=>h.block g (hm.tlt t g hg)⟩⟩
theorem lt_of_obj{w:World}{b:Nat}{o:Obj}(h:w.heap[b]?=some o):b<w.heap.size:=by
 rcases Nat.lt_or_ge b w.heap.size with hb|hb
 .exact hb
 .rw[Array.getElem?_eq_none hb] at h;cases h
theorem relM_below{G:Gh}{w w':World}{m:AMem}(hm:RelM G m w)(h:Below w.heap.size w w'):RelM G m w':=by
 have hle:=le_below hm h;constructor
 case box =>
  intro k rows b sz h1 h2;obtain⟨g1,cs,e,g2,g3,g4,g5⟩:=hm.box k rows b sz h1 h2;exact⟨g1,cs,e,by rw[h.block b (lt_of_obj g2)];exact g2,g3,g4.mono hle,g5⟩
 case nobox=>exact hm.nobox
 case inj=>exact hm.inj
 case nb=>exact hm.nb
 case nt=>exact hm.nt
 case toks=>exact hm.toks
 case tokb =>
  intro t g hg;obtain⟨f,cur,e,g1,g2⟩:=hm.tokb t g hg;exact⟨f,cur,e,g1,by rw[h.block g (lt_of_obj g2)];exact g2⟩
 case tinj=>exact hm.tinj
 case tnt=>exact hm.tnt
 case fresh=>intro b hb;exact hm.fresh b (Nat.le_trans h.size hb)
theorem DCall.of_below{P:Program}{f:FuncId}{args:List AV}{tok:Nat->Bool}{nt:Nat}{v:Value}(hE:Enters P f)(h1:v.oneCell'=true)(h:∀G w vals,RVs G w args vals->Calls P f vals.toArray w fun e w'=>e=.returned v/\Below w.heap.size w w'):DCall P f args tok nt (.d (.raw v)) tok nt:=by
 intro box nb;refine⟨hE,fun G w vals hm hr=>(h G w vals hr).mono ?_⟩;rintro e w' ⟨rfl,hb⟩;exact⟨v,_,_,G,rfl,⟨rfl,rfl⟩,rfl,relM_below hm hb,.d (.raw h1),le_below hm hb,fun k hk=>⟨hk,rfl⟩⟩
theorem rvd_ints{c:Addr->Option Value}{ps:Addr->Prop}{l:List Int}{v:Value}(h:RVd c ps (ints l) v):
  ∃A cap,v=.slice A l.length cap/\l.length<=cap/\cap<=maxLen/\(l≠[]->∃a,A=some a)/\∀a,A=some a->∀i,i<l.length->c (a.add i)=some (.int .i64 (l.getD i 0)):=by
 unfold ints at h;generalize hes:(l.map fun n=>[D.raw (.int .i64 n)])=es at h;cases h with
 | @sl _ _ A cap u hcap hmax hsz hA hc hr =>
  have hl:es.length=l.length:=by rw[<-hes];simp
  refine⟨A,cap,by rw[hl],by omega,hmax,fun hne=>hA (by intro e;rw[e] at hl;exact hne (List.length_eq_zero_iff.1 hl.symm)),fun a ha i hi=>?_⟩;have g:=(hc a ha i 0 (by omega) (by decide)).2;have r:=hr i 0 (by omega) (by rw[hsz _ (List.getElem_mem _)];decide);have e1:es[i][0]'(by rw[hsz _ (List.getElem_mem _)];decide)=D.raw (.int .i64 l[i]):=by
   subst hes;simp
  rw[e1] at r;have e2:u i 0=.int .i64 l[i]:=by
   generalize hu:u i 0=x at r;cases r;rfl
  rw[Nat.mul_one,Nat.add_zero,e2] at g;rw[g];simp[hi]
def imagesN(l:List Int):Nat:=(Lib.compact (l.mergeSort fun x y=>decide (x<=y))).length
theorem imagesN_nil:imagesN []=0:=by
 simp[imagesN,List.mergeSort,Lib.compact];rfl
theorem images88_c(l:List Int)(hl:l.length<=1000000)(tok:Tks)(nt:Nat):DCall prog 189 [.d (ints l)] tok nt (I (imagesN l)) tok nt:=by
 refine DCall.of_below (Enters.mk func189 rfl (by kernel_rfl)) rfl fun G w vals hr=>?_
 obtain⟨hlen,hrv⟩:=hr
 match vals,hlen with
 | [v],_ =>
  have h0:=hrv 0 (by simp) (by simp);simp only[List.getElem_cons_zero] at h0;cases h0 with
  | d h0 =>
   obtain⟨A,cap,rfl,hcap,hmax,hA,hc⟩:=rvd_ints h0;cases A with
   | none =>
    have:l=[]:=by
     by_cases e:l=[]
     .exact e
     .obtain⟨a,ha⟩:=hA e;cases ha
    subst this;exact(YtebmobphgaiaiaaGreat.images.none _ cap w).mono fun e w' h=>by rw[imagesN_nil];exact h
   | some a =>
    by_cases e:l=[]
    .subst e;exact(YtebmobphgaiaiaaGreat.images.zero a cap w).mono fun e w' h=>by rw[imagesN_nil];exact h
    .have hp:0<l.length:=List.length_pos_iff.2 e
     have hc':=hc a rfl
     have hs:a.spot=none:=by
      cases hsp:a.spot with
      | none=>rfl
      | some q =>
       exfalso
       have:=hc' 0 hp
       simp only[World.cell?,Addr.add,hsp,Option.isSome_some,↓reduceIte] at this;split at this<;>simp at this
     obtain⟨b,off,sp⟩:=a;simp only at hs;subst hs;refine(YtebmobphgaiaiaaGreat.images.any b off l.length cap l w rfl (by omega) fun j hj=>?_).mono fun e w' h=>h
     have h1:=hc' j hj;unfold Addr.add at h1;split at h1
     .rename_i e;subst e;exact h1
     .exact h1
theorem upTo_facts(d:Array Int)(hs:∀i j,i<=j->j<d.size->d[i]!<=d[j]!):∀m,m<=d.size->(Lib.compactUpTo d m).Pairwise (· < ·)/\∀x,x∈Lib.compactUpTo d m↔∃j,j<m/\d[j]! =x
 | 0,_=>⟨List.Pairwise.nil,fun x=>⟨fun h=>by simp[Lib.compactUpTo] at h,fun ⟨j,hj,_⟩=>absurd hj (Nat.not_lt_zero _)⟩⟩
 | m+1,hm=>by
  obtain⟨h1,h2⟩:=upTo_facts d hs m (by omega);rw[Lib.compactUpTo_succ];by_cases hk:Lib.keeps d m=true
  .rw[if_pos hk];refine⟨List.pairwise_append.2 ⟨h1,List.pairwise_singleton _ _,fun x hx y hy=>?_⟩,fun x=>?_⟩
   .rw[List.mem_singleton] at hy;subst hy;obtain⟨j,hj,rfl⟩:=(h2 x).1 hx;simp only[Lib.keeps,decide_eq_true_eq] at hk;have a1:=hs j (m-1) (by omega) (by omega);have a2:=hs (m-1) m (by omega) (by omega);have a3:d[m]!≠d[m-1]!:=by rcases hk with hk|hk;omega;exact hk
    omega
   .rw[List.mem_append,List.mem_singleton,h2];constructor
    .rintro(⟨j,hj,e⟩|e)
     .exact⟨j,by omega,e⟩
     .exact⟨m,by omega,e.symm⟩
    .rintro⟨j,hj,e⟩;by_cases ej:j=m
     .subst ej;exact .inr e.symm
     .exact .inl ⟨j,by omega,e⟩
  .rw[if_neg hk,List.append_nil];refine⟨h1,fun x=>?_⟩;rw[h2];constructor
   .rintro⟨j,hj,e⟩;exact⟨j,by omega,e⟩
   .rintro⟨j,hj,e⟩;by_cases ej:j=m
    .subst ej;simp only[Lib.keeps,decide_eq_true_eq,not_or,Decidable.not_not] at hk;exact⟨j-1,by omega,by rw[<-hk.2];exact e⟩
    .exact⟨j,by omega,e⟩
def sortI(l:List Int):List Int:=l.mergeSort fun x y=>decide (x<=y)
theorem sortI_perm(l:List Int):(sortI l).Perm l:=List.mergeSort_perm l _
theorem sortI_sorted(l:List Int):(sortI l).Pairwise (· <= ·):=by
 have:=List.pairwise_mergeSort (le:=fun x y:Int=>decide (x<=y)) (fun a b c h1 h2=>by simp only[decide_eq_true_eq] at *;omega) (fun a b=>by simp only[Bool.or_eq_true,decide_eq_true_eq];omega) l
 exact this.imp fun h=>by simpa using h
theorem sortI_arr(l:List Int)(i j:Nat)(hij:i<=j)(hj:j<(sortI l).toArray.size):(sortI l).toArray[i]!<=(sortI l).toArray[j]!:=by
 simp only[List.size_toArray] at hj;rw[getElem!_pos _ i (by simp;omega),getElem!_pos _ j (by simpa using hj)];by_cases e:i=j
 .subst e;omega
 .exact List.pairwise_iff_getElem.1 (sortI_sorted l) i j (by omega) hj (by omega)
def imagesI(l:List Int):List Int:=Lib.compact (sortI l)
theorem imagesI_sorted(l:List Int):(imagesI l).Pairwise (· < ·):=(upTo_facts (sortI l).toArray (sortI_arr l) (sortI l).length (by simp)).1
theorem imagesN_len(l:List Int):imagesN l=(imagesI l).length:=rfl
theorem imagesN_iff(l:List Int):imagesN l=l.length↔l.Nodup:=by
 have hl:(sortI l).length=l.length:=(sortI_perm l).length_eq
 rw[imagesN_len,<-(sortI_perm l).nodup_iff,<-hl];constructor
 .intro h;have h2:∀j,j<(sortI l).length->Lib.keeps (sortI l).toArray j=true:=by
   unfold imagesI Lib.compact Lib.compactUpTo at h;rw[List.length_map] at h;have h3:(List.range (sortI l).length).filter (Lib.keeps (sortI l).toArray)=List.range (sortI l).length:=List.filter_sublist.eq_of_length (by rw[h,List.length_range])
   intro j hj;exact(List.filter_eq_self.1 h3) j (List.mem_range.2 hj)
  have h4:imagesI l=sortI l:=Lib.compact_all _ h2
  have h5:=imagesI_sorted l;rw[h4] at h5;exact h5.imp fun h=>by omega
 .intro h;have h4:imagesI l=sortI l:=Lib.compact_all _ fun j hj=>by
   by_cases e:j=0
   .simp[Lib.keeps,e]
   .apply Lib.keeps_pos;rw[getElem!_pos _ j (by simpa using hj),getElem!_pos _ (j-1) (by simp;omega)];intro e2;exact List.pairwise_iff_getElem.1 h (j-1) j (by omega) hj (by omega) e2.symm
  rw[h4]
theorem distK_nodup(l:List Int):distK l l.length=true↔l.Nodup:=by
 simp only[distK,List.all_eq_true,List.mem_range,decide_eq_true_eq];rw[List.Nodup,List.pairwise_iff_getElem];constructor
 .intro h i j hi hj hij e;apply h j hj i hij;rw[List.getD_eq_getElem?_getD,List.getD_eq_getElem?_getD,List.getElem?_eq_getElem hj,List.getElem?_eq_getElem hi];exact e.symm
 .intro h j hj k hkj e;rw[List.getD_eq_getElem?_getD,List.getD_eq_getElem?_getD,List.getElem?_eq_getElem hj,List.getElem?_eq_getElem (show k<l.length by omega)] at e;exact h k j (by omega) hj hkj e.symm
theorem images_dist(l:List Int):decide (imagesN l=l.length)=distK l l.length:=by
 rw[Bool.eq_iff_iff,decide_eq_true_eq,imagesN_iff,distK_nodup]
theorem images_beq(l:List Int):((imagesN l:Int)==(l.length:Int))=distK l l.length:=by
 rw[<-images_dist,beqD];simp;omega
theorem injective56_c(a b:Gr)(m:Mo)(ha:a.Fit)(hb:b.Fit)(hm:m.Fit):DC 116 [a.av,b.av,m.av] (B (injM a b m)):=by
 intro tok nt box nb;have i1:=images_beq m.nodes;have i2:=images_beq m.edges;refine sI func116 ntmps116 fun Hb Ht=>?_
 refine sR ?_;simp;refine sR ?_;simp;refine sD (valid51_c a b m ha hb _ _) ?_;simp;by_cases h1:validM a b m=0
 .simp[h1];refine sD (images88_c m.nodes hm.n _ _) ?_;simp[h1];simp only[i1];by_cases h2:distK m.nodes m.nodes.length=true
  .simp[h2];refine sD (images88_c m.edges hm.e _ _) ?_;simp[h1,h2,i2];refine sT (sH Hb Ht ?_);simp[injM,h1,h2]
  .have h3:distK m.nodes m.nodes.length=false:=by simpa using h2
   simp only[h3];simp;refine sT (sH Hb Ht ?_);simp[injM,h1,h3]
 .have hb1:(validM a b m==0)=false:=by simp[h1]
  simp only[hb1];try simp
  refine sT (sH Hb Ht ?_);simp[injM,h1]
def placesK(l h:List Int)(i:Nat):List Int:=(l.take i).map (indexI h)
@[simp] theorem placesK_len(l h:List Int)(i:Nat):(placesK l h i).length=min i l.length:=by simp[placesK]
def byK(l by':List Int)(i:Nat):List Int:=(l.take i).map fun x=>by'.getD x.toNat 0
theorem byK_zero(l h:List Int):byK l h 0=[]:=by simp[byK]
@[simp] theorem byK_len(l h:List Int)(i:Nat):(byK l h i).length=min i l.length:=by simp[byK]
theorem byK_succ(l h:List Int){i:Nat}(hi:i<l.length):byK l h (i+1)=byK l h i++[h.getD l[i].toNat 0]:=by simp only[byK,List.take_add_one,List.getElem?_eq_getElem hi,Option.toList,List.map_append,List.map_cons,List.map_nil]
def st68(l h:List Int)(nb:Nat)(box:Bxs)(a:Acc):AS:=⟨tl [(0,.d (ints l)),(1,.d (ints h)),(5,.osl 1 (rI (byK l h a.i)) a.own),(6,I a.i)],lb nb box [],a.tok,a.nt⟩
theorem through68_c(l h:List Int)(hl:l.length<=1000000)(hr:∀x∈l,0<=x/\x<h.length):DC 157 [.d (ints l),.d (ints h)] (.d (ints (byK l h l.length))):=by
 intro tok nt box nb;refine sI func157 ntmps157 fun Hb Ht=>?_
 refine sR ?_;simp;refine sR ?_;simp;refine sR ?_;simp;refine sN ?_;refine sL (st68 l h nb box) (fun a=>a.i<=l.length/\TK tok nt a.tok a.nt [a.own]) (fun a=>l.length-a.i) ⟨0,.full,tok,nt⟩ ⟨Nat.zero_le _,(TK.start Ht).full⟩ (wM (nr _) rfl (by simp[ToL,byK_zero]) trivial) ?_;rintro⟨i,own,tok',nt'⟩ S ⟨hi,htk⟩ hS;simp only[st68] at hS hi htk;subst hS;have hw:=sW (i:=i) (by omega);refine sR ?_;simp;refine sC ?_;simp;refine⟨fun hlt=>?_,fun hge=>?_⟩
 .obtain⟨x0,x1⟩:=hr _ (List.getElem_mem hlt);have x2:l[i].toNat<h.length:=by omega
  refine sR ?_;simp[hlt,x0,x1,x2];refine⟨⟨by omega,htk.live⟩,?_⟩;refine sR ?_;simp[hw];refine sE ?_;refine⟨⟨i+1,_,_,_⟩,⟨hlt,htk.app⟩,by simp;omega,wM htk.app.le rfl (by simp[ToL,byK_succ l h hlt,x2]) trivial⟩
 .refine sX ?_;simp only[AU,↓reduceIte];refine sR ?_;simp;have:i=l.length:=by omega
  subst this;refine sT (sG Hb Ht htk.old htk.le ?_);simp
def thenM(m n:Mo):Mo:=⟨byK m.nodes n.nodes m.nodes.length,byK m.edges n.edges m.edges.length⟩
theorem then63_c(m n:Mo)(hm:m.Fit)(hn:∀x∈m.nodes,0<=x/\x<n.nodes.length)(he:∀x∈m.edges,0<=x/\x<n.edges.length):DC 140 [m.av,n.av] (thenM m n).av:=by
 intro tok nt box nb;refine sI func140 ntmps140 fun Hb Ht=>?_
 refine sR ?_;simp;refine sR ?_;simp;refine sD (through68_c m.nodes n.nodes hm.n hn _ _) ?_;simp;refine sD (through68_c m.edges n.edges hm.e he _ _) ?_;simp;refine sT (sH Hb Ht ?_);simp[thenM]
theorem firstE_all{f:Nat->Int}:∀n,firstE f n=0->∀i,i<n->f i=0
 | 0,_,i,hi=>absurd hi (Nat.not_lt_zero _)
 | n+1,h,i,hi=>by
  simp only[firstE] at h;split at h
  .rename_i h0;by_cases e:i=n
   .subst e;exact h
   .exact firstE_all n h0 i (by omega)
  .contradiction
structure VM (a b:Gr) (m:Mo):Prop where
 va:vG a=0
 vb:vG b=0
 ln:m.nodes.length=a.nodes.length
 le:m.edges.length=a.edges.length
 n:∀x∈m.nodes,0<=x/\x<b.nodes.length
 e:∀x∈m.edges,0<=x/\x<b.edges.length
 nt:∀i,i<a.nodes.length->b.nodes.getD (m.nodes.getD i 0).toNat 0=a.nodes.getD i 0
 et:∀i,i<a.edges.length->b.edges.getD (m.edges.getD i 0).toNat default=⟨(a.edges.getD i default).ty,m.nodes.getD (a.edges.getD i default).fr.toNat 0,m.nodes.getD (a.edges.getD i default).to.toNat 0⟩
theorem validM_VM{a b:Gr}{m:Mo}(h:validM a b m=0):VM a b m:=by
 unfold validM at h;split at h
 .omega
 .rename_i h1;split at h
  .omega
  .rename_i h2;split at h
   .cases h
   .rename_i h3;have hl1:m.nodes.length=a.nodes.length:=by omega
    have hl2:m.edges.length=a.edges.length:=by omega
    split at h
    .contradiction
    .rename_i h4;have h4':firstE (nodeE a b m) a.nodes.length=0:=Decidable.not_not.1 h4
     have n1:=firstE_all _ h4';have n2:=firstE_all _ h;refine⟨by omega,by omega,hl1,hl2,fun x hx=>?_,fun x hx=>?_,fun i hi=>?_,fun i hi=>?_⟩
     .obtain⟨i,hi,rfl⟩:=List.getElem_of_mem hx;have:=n1 i (by omega)
      have e:m.nodes.getD i 0=m.nodes[i]:=by simp[hi]
      unfold nodeE at this;rw[e] at this;split at this
      .cases this
      .omega
     .obtain⟨i,hi,rfl⟩:=List.getElem_of_mem hx;have:=n2 i (by omega)
      have e:m.edges.getD i 0=m.edges[i]:=by simp[hi]
      unfold edgeE at this;rw[e] at this;split at this
      .cases this
      .omega
     .have:=n1 i hi
      unfold nodeE at this;split at this
      .cases this
      .split at this
       .assumption
       .cases this
     .have:=n2 i hi
      unfold edgeE at this;split at this
      .cases this
      .simp only at this;split at this
       .cases this
       .rename_i t1;split at this
        .cases this
        .rename_i t2;have t1':=Decidable.not_not.1 t1
         simp only[ne_eq,not_or,Decidable.not_not] at t2;rw[t1',t2.1,t2.2]
theorem getD_inj{h:List Int}(hn:h.Nodup){i j:Nat}(hi:i<h.length)(hj:j<h.length)(e:h.getD i 0=h.getD j 0):i=j:=by
 rw[List.getD_eq_getElem?_getD,List.getD_eq_getElem?_getD,List.getElem?_eq_getElem hi,List.getElem?_eq_getElem hj] at e;rcases Nat.lt_trichotomy i j with h1|h1|h1
 .exact absurd e (List.pairwise_iff_getElem.1 hn i j hi hj h1)
 .exact h1
 .exact absurd e.symm (List.pairwise_iff_getElem.1 hn j i hj hi h1)
theorem injM_iff(a b:Gr)(m:Mo):injM a b m=true↔validM a b m=0/\m.nodes.Nodup/\m.edges.Nodup:=by
 simp only[injM,Bool.and_eq_true,decide_eq_true_eq,distK_nodup]
theorem validM_of{a b:Gr}{m:Mo}(h:VM a b m):validM a b m=0:=by
 have z1:firstE (nodeE a b m) a.nodes.length=0:=firstE_zero _ fun i hi=>by
  have:=h.n _ (getD_mem (d:=0) (show i<m.nodes.length by rw[h.ln];exact hi))
  unfold nodeE;rw[if_neg (by omega),if_pos (h.nt i hi)]
 have z2:firstE (edgeE a b m) a.edges.length=0:=firstE_zero _ fun i hi=>by
  have:=h.e _ (getD_mem (d:=0) (show i<m.edges.length by rw[h.le];exact hi))
  unfold edgeE;rw[if_neg (by omega)];simp only[h.et i hi,ne_eq,not_true_eq_false,or_self,↓reduceIte]
 unfold validM;rw[if_neg (by simp[h.va]),if_neg (by simp[h.vb]),if_neg (by have:=h.ln;have:=h.le;omega),if_neg (by simp[z1]),z2]
theorem byK_ext{l by' t:List Int}(hl:l.length=t.length)(h:∀i,i<l.length->by'.getD (l.getD i 0).toNat 0=t.getD i 0):byK l by' l.length=t:=by
 apply List.ext_getElem
 .simp[hl]
 .intro i h1 h2;have hi:i<l.length:=by omega
  have:=h i hi
  simp only[List.getD_eq_getElem?_getD,List.getElem?_eq_getElem hi,List.getElem?_eq_getElem h2,Option.getD_some] at this;simp only[byK,List.take_length,List.getElem_map,List.getD_eq_getElem?_getD];exact this
theorem mem_getD{l:List Int}{v:Int}(h:v∈l):∃j,j<l.length/\l.getD j 0=v:=by
 obtain⟨j,hj,e⟩:=List.getElem_of_mem h;exact⟨j,hj,by rw[List.getD_eq_getElem?_getD,List.getElem?_eq_getElem hj];exact e⟩
def chN(ns:List Int)(bit:Nat->Bool):Nat->List Int × List Int
 | 0=>([],[])
 | i+1=>if bit i=true then ((chN ns bit i).1++[ns.getD i 0],(chN ns bit i).2++[(i:Int)]) else chN ns bit i
def atK(ns:List Int)(bit:Nat->Bool):Nat->List Int
 | 0=>[]
 | i+1=>if bit i=true then atK ns bit i++[((chN ns bit i).1.length:Int)] else atK ns bit i++[-1]
def atR(ns:List Int)(bit:Nat->Bool)(i:Nat):List Int:=atK ns bit i++List.replicate (ns.length-i) 0
theorem atK_len(ns:List Int)(bit:Nat->Bool):∀i,(atK ns bit i).length=i
 | 0=>rfl
 | i+1=>by
  simp only[atK];split<;>simp[atK_len ns bit i]
@[simp] theorem atR_len(ns:List Int)(bit:Nat->Bool){i:Nat}(h:i<=ns.length):(atR ns bit i).length=ns.length:=by simp[atR,atK_len];omega
def st64(xs:List Ov)(f:FuncId)(caps:List AV)(nb:Nat)(box:Bxs)(tok:Tks)(nt:Nat)(i:Nat):AS:=⟨tl [(0,.d (ovs xs)),(1,.fn (.func f) caps),(7,I xs.length),(8,I i)],lb nb box [],tok,nt⟩
theorem indexFuncO_c(xs:List Ov)(f:FuncId)(caps:List AV)(p:Ov->Bool)(hx:xs.length<=1000000)(box:Bxs)(nb:Nat)(tok:Tks)(nt:Nat)(hc:∀c∈caps,OkIn (fun k=>box k≠none) (fun _=>True) c)(hf:∀x∈xs,∀box' nb',Ext box box'->ACalls prog f (x.av::caps) ⟨box',nb',tok,nt⟩ fun v m=>v=B (p x)/\m=⟨box',nb',tok,nt⟩):
  ACalls prog 93 [.d (ovs xs),.fn (.func f) caps] ⟨box,nb,tok,nt⟩ fun v m=>v=I (findI p xs)/\m=⟨box,nb,tok,nt⟩:=by
 refine sI func93 ntmps93 fun Hb Ht=>?_
 refine sR ?_;simp;refine sR ?_;simp;refine sN ?_;refine sL (st64 xs f caps nb box tok nt) (fun i=>i<=xs.length/\∀x∈xs.take i,p x=false) (fun i=>xs.length-i) 0 ⟨Nat.zero_le _,by simp⟩ (wM (nr _) rfl (by simp[ToL];exact .same (okFn hc Hb [] (by simp) rfl _)) trivial) ?_;rintro i S ⟨hi,htk⟩ hS;simp only[st64] at hS;subst hS;have hw:=sW (i:=i) (by omega);refine sR ?_;simp;refine sC ?_;simp;refine⟨fun hlt=>?_,fun hge=>?_⟩
 .refine sR ?_;simp;refine sR ?_;simp[hlt];refine Stop.of_b (hf xs[i] (List.getElem_mem _) _ _ ((Ext.refl box).lb Hb [])) ?_;simp;refine sC ?_;simp;refine⟨fun he=>?_,fun hne=>?_⟩
  .refine sR ?_;simp;obtain⟨h1,h2⟩:=any_take hlt htk he;refine sT (sH Hb Ht ?_);simp[findI,h1,h2]
  .refine sR ?_;simp[hw];refine sE ?_;refine⟨i+1,⟨hlt,?_⟩,by omega,wM (nr _) rfl (by simp[ToL];exact .same (okFn hc Hb [] (by simp) rfl _)) trivial⟩;rw[List.take_succ_eq_append_getElem hlt];intro x hx;rcases List.mem_append.1 hx with hx|hx
   .exact htk x hx
   .simp at hx;rw[hx];exact hne
 .refine sX ?_;simp only[AU,↓reduceIte];refine sR ?_;simp;have hn:xs.any p=false:=by
   rw[List.take_of_length_le hge] at htk;simpa using htk
  refine sT (sH Hb Ht ?_);simp[findI,hn]
end Go.AM
namespace Go.Proofs.YtebmobphgaiaiaaGreat.values
open Go Go.Proofs Go.RowKit Go.Shelf
open Tryz
attribute [local go_sem] Oper.semAt_some
def upto{α:Type}(f:Nat->α)(k:Nat):List α:=(List.range k).map f
theorem upto_length{α:Type}(f:Nat->α)(k:Nat):(upto f k).length=k:=by simp[upto]
theorem upto_all(zs:List Int):upto (fun j=>zs[j]?.getD 0) zs.length=zs:=by
 apply List.ext_getElem
 .simp[upto]
 .intro i h1 h2;simp[upto,h2]
theorem info3:(prog.info? 3).map (fun i=>(i.zero,i.size,i.bytes))=some (some (.int .i64 0),1,8):=by kernel_rfl
end Go.Proofs.YtebmobphgaiaiaaGreat.values
namespace Go.Proofs.YtebmobphgaiaiaaGreat.values
open Go Go.Proofs Go.RowKit Go.Shelf Go.Sort
open Tryz
end Go.Proofs.YtebmobphgaiaiaaGreat.values
namespace Go.AM
open Go Go.Proofs Go.RowKit
open Tryz
theorem rvd_owns{G:Gh}{w w':World}{m:AMem}(hm:RelM G m w){v:Value}{xs:List Int}(h:w'.ownsRow w.heap.size 3 1 v xs.length (xs.map (Value.int .i64))):RVd w'.cell? G.ps (ints xs) v:=by
 rcases h.2 with ⟨rfl,h0⟩|⟨g,cap,cur,rfl,hb,hg,h1,h2,h3,h4⟩
 .obtain rfl:xs=[]:=List.length_eq_zero_iff.1 h0;exact .sl (es:=[]) (fun _ _=>default) (nr _) (by decide) (by simp) (by simp) (by simp) (by simp)
 .have hl:xs.length=(xs.map fun n=>[D.raw (.int .i64 n)]).length:=by simp
  have hat:∀i,i<xs.length->cur[i]?=some (.int .i64 (xs.getD i 0)):=fun i hi=>by
   have e:(cur.toList.take (xs.length*1))[i]?=(xs.map (Value.int .i64))[i]?:=by rw[h4]
   rw[List.getElem?_take,if_pos (by omega),Array.getElem?_toList,List.getElem?_map,List.getElem?_eq_getElem hi] at e;rw[e];simp[hi]
  unfold ints
  conv=>rhs;rw[hl]
  refine .sl (fun i _=>.int .i64 (xs.getD i 0)) (by simpa using h1) h2 (fun e he=>?_) (fun _=>⟨_,rfl⟩) (fun a ha i j hi hj=>?_) (fun i j hi hj=>?_)
  .obtain⟨y,_,rfl⟩:=List.mem_map.1 he;rfl
  .cases ha;have hi':i<xs.length:=by simpa using hi
   have hj0:j=0:=by omega
   subst hj0;refine⟨?_,?_⟩
   .unfold Gh.ps;have hbl:(Addr.add ⟨g,0,none⟩ (i*1+0)).block=g:=by unfold Addr.add;split<;>rfl
    rw[hbl,hm.fresh g hb];trivial
   .have ha:Addr.add ⟨g,0,none⟩ (i*1+0)=⟨g,i,none⟩:=by
     unfold Addr.add;split
     .rename_i h0;congr 1;omega
     .simp
    rw[ha];simp only[World.cell?,hg,Option.isSome_none,Bool.false_eq_true,if_false];exact hat i hi'
  .simp only[List.length_map] at hi;simp only[List.getElem_map,List.length_cons,List.length_nil] at hj ⊢;have hj0:j=0:=by omega
   subst hj0;have e:xs.getD i 0=xs[i]:=by simp[hi]
   simp only[List.getElem_cons_zero,e];exact .raw rfl
end Go.AM
namespace Go.Proofs.YtebmobphgaiaiaaGreat.sorted34
open Go Go.Proofs Go.RowKit Go.Shelf Go.Sort
open Tryz
set_option maxHeartbeats 2000000 in
set_option maxRecDepth 100000 in
theorem any(b off n c:Nat)(zs:List Int)(w:World)(hz:zs.length=n)(hbig:n*8<=140737488355328)(hc:∀j,j<zs.length->w.cell? ⟨b,off+j,none⟩=some (.int .i64 (zs.getD j 0))):
    Calls prog 265 #[.slice (some ⟨b,off,none⟩) n c] w fun e w'=>∃v,e=.returned v/\w'.ownsRow w.heap.size 3 1 v zs.length ((zs.mergeSort fun x y=>decide (x<=y)).map (Value.int .i64))/\Below w.heap.size w w':=by
  have hclone:=Tryz.slices_Clone_int b off n c zs w (by omega) hbig hc;rw[List.take_of_length_le (by omega)] at hclone;clear hc
  go_enter func265,ntmps265
  go_wp2_with (first
    | (go_at_call 120;refine hclone.mono ?_;rintro e w1 ⟨v1,rfl,hown,hnn,hbel⟩
       have hown':=hown
       obtain⟨g,cap,rfl,hbg,hgl,hncap,hcm,hlen2,hH⟩:=Lib.holds_of_ownsRow hown hnn;have hsort:=Tryz.slices_Sort_int g 0 cap zs w1 hH hgl (by omega);rw[hlen2] at hsort;have X:Aside (w1.ownsRow w.heap.size 3 1 (.slice (some ⟨g,0,none⟩) n cap) n (zs.map (Value.int .i64))/\Below w.heap.size w w1/\w.heap.size<=g/\g<w1.heap.size/\n<=cap/\cap<=maxLen):=⟨hown',hbel,hbg,hgl,hncap,hcm⟩
       clear hown hown' hbel hH hnn)
    | (go_at_call 245;refine hsort.mono ?_;rintro e w2 ⟨rfl,nn,os,rfl⟩))
  go_ret
  obtain⟨x1,x2,x3,x4,x5,x6⟩:=X.out;rcases x1.2 with ⟨e0,_⟩|⟨g',cap',cur,hv,hbase,hb,h1,h2,h3,h4⟩
  . cases e0
  cases hv;subst hz;exact⟨_,rfl,ownsRow_sortedI (by simp) hbase hb h1 h2 h3,x2.grown (grownBy_sortedI _) x2.size (fun j hj=>by cases hj;exact hbase)⟩
set_option maxHeartbeats 2000000 in
set_option maxRecDepth 100000 in
theorem zero(a:Addr)(c:Nat)(w:World):Calls prog 265 #[.slice (some a) 0 c] w fun e w'=>∃v,e=.returned v/\w'.ownsRow w.heap.size 3 1 v 0 []/\Below w.heap.size w w':=by
  have hclone:=Tryz.slices_Clone_int_zero a c w
  go_enter func265,ntmps265
  go_wp2_with (first
    | (go_at_call 120;refine hclone.mono ?_;rintro e w1 ⟨v1,rfl,hown,hnn,hbel⟩
       have hown':=hown
       obtain⟨g,cap,rfl,_,_,_,_,_,_⟩:=Lib.holds_of_ownsRow (enc:=Value.int .i64) (zs:=[]) hown hnn;have X:Aside (w1.ownsRow w.heap.size 3 1 (.slice (some ⟨g,0,none⟩) 0 cap) 0 []/\Below w.heap.size w w1):=⟨hown',hbel⟩
       clear hown hown' hbel hnn)
    | (go_at_call 245;refine(Tryz.slices_Sort_int_none _ _ _).mono ?_;rintro e w2 ⟨rfl,rfl⟩))
  go_ret
  exact⟨_,rfl,X.out.1,X.out.2⟩
set_option maxHeartbeats 2000000 in
set_option maxRecDepth 100000 in
theorem none(n c:Nat)(w:World):Calls prog 265 #[.slice none n c] w fun e w'=>e=.returned (.slice none 0 0)/\Below w.heap.size w w':=by
 go_enter func265,ntmps265
 go_wp2_with (first
  | (go_at_call 120;refine(Tryz.slices_Clone_int_nil n c _).mono ?_;rintro e w1 ⟨rfl,rfl⟩)
  | (go_at_call 245;refine(Tryz.slices_Sort_int_none _ _ _).mono ?_;rintro e w2 ⟨rfl,rfl⟩))
 go_ret
 exact⟨rfl,Below.refl _ _⟩
end Go.Proofs.YtebmobphgaiaiaaGreat.sorted34
namespace Go.AM
open Go Go.Proofs Go.RowKit
open Tryz
theorem sorted34_c(l:List Int)(hl:l.length<=1000000):DC 265 [.d (ints l)] (.d (ints (sortI l))):=by
 intro tok nt box nb;refine⟨Enters.mk func265 rfl (by kernel_rfl),fun G w vals hm hr=>?_⟩;obtain⟨hlen,hrv⟩:=hr
 match vals,hlen with
 | [v],_ =>
  have h0:=hrv 0 (by simp) (by simp);simp only[List.getElem_cons_zero] at h0;cases h0 with
  | d h0 =>
   obtain⟨A,cap,rfl,hcap,hmax,hA,hc⟩:=rvd_ints h0;by_cases e:l=[]
   .subst e;have e0:sortI []=[]:=by simp[sortI]
    cases A with
    | none =>
     refine(YtebmobphgaiaiaaGreat.sorted34.none _ cap w).mono ?_;rintro e w' ⟨rfl,hb⟩;exact⟨_,_,_,G,rfl,⟨rfl,rfl⟩,rfl,relM_below hm hb,.d (by rw[e0];exact .sl (es:=[]) (fun _ _=>default) (nr _) (by decide) (by simp) (by simp) (by simp) (by simp)),le_below hm hb,fun k hk=>⟨hk,rfl⟩⟩
    | some a =>
     refine(YtebmobphgaiaiaaGreat.sorted34.zero a cap w).mono ?_;rintro e w' ⟨v,rfl,ho,hb⟩;exact⟨_,_,_,G,rfl,⟨rfl,rfl⟩,rfl,relM_below hm hb,.d (by rw[e0];exact rvd_owns (xs:=[]) hm ho),le_below hm hb,fun k hk=>⟨hk,rfl⟩⟩
   .obtain⟨a,rfl⟩:=hA e;have hp:0<l.length:=List.length_pos_iff.2 e
    have hc':=hc a rfl
    have hs:a.spot=none:=by
     cases hsp:a.spot with
     | none=>rfl
     | some q =>
      exfalso
      have:=hc' 0 hp
      simp only[World.cell?,Addr.add,hsp,Option.isSome_some,↓reduceIte] at this;split at this<;>simp at this
    obtain⟨b,off,sp⟩:=a;simp only at hs;subst hs;refine(YtebmobphgaiaiaaGreat.sorted34.any b off l.length cap l w rfl (by omega) fun j hj=>?_).mono ?_
    .have h1:=hc' j hj;unfold Addr.add at h1;split at h1
     .rename_i e;subst e;exact h1
     .exact h1
    .rintro e w' ⟨v,rfl,hown,hb⟩;have hl2:l.length=(sortI l).length:=by simp[sortI]
     rw[hl2] at hown;exact⟨v,_,_,G,rfl,⟨rfl,rfl⟩,rfl,relM_below hm hb,.d (rvd_owns hm hown),le_below hm hb,fun k hk=>⟨hk,rfl⟩⟩
abbrev Ub(n:Int):AV:=.d (.raw (.int .u8 n))
abbrev Sb(s:ByteArray):AV:=.d (.raw (.string s))
def letB(c:Int):Bool:=decide (97<=c/\c<=122∨65<=c/\c<=90)
def digB(c:Int):Bool:=decide (48<=c/\c<=57)
def parB(c:Int):Bool:=letB c||digB c||c==95
def byteAt(s:ByteArray)(i:Nat):Int:=(s.data.toList.getD i 0).toNat
theorem letter_c(c:Int):DC 314 [Ub c] (B (letB c)):=by
 intro tok nt box nb;by_cases h1:97<=c
 .by_cases h2:c<=122
  .refine sI func314 ntmps314 fun Hb Ht=>?_
   repeat first|simp[h1,h2]|refine sR ?_
   refine sT (sH Hb Ht ?_);simp[letB,h1,h2]
  .have h3:¬c<=90:=by omega
   have h4:65<=c:=by omega
   refine sI func314 ntmps314 fun Hb Ht=>?_
   repeat first|simp[h1,h2,h3,h4]|refine sR ?_
   refine sT (sH Hb Ht ?_);simp[letB,h1,h2,h3,h4]
 .by_cases h3:65<=c
  .by_cases h4:c<=90
   .refine sI func314 ntmps314 fun Hb Ht=>?_
    repeat first|simp[h1,h3,h4]|refine sR ?_
    refine sT (sH Hb Ht ?_);simp[letB,h1,h3,h4]
   .refine sI func314 ntmps314 fun Hb Ht=>?_
    repeat first|simp[h1,h3,h4]|refine sR ?_
    refine sT (sH Hb Ht ?_);simp[letB,h1,h3,h4]
  .refine sI func314 ntmps314 fun Hb Ht=>?_
   repeat first|simp[h1,h3]|refine sR ?_
   refine sT (sH Hb Ht ?_);simp[letB,h1,h3]
theorem digit_c(c:Int):DC 317 [Ub c] (B (digB c)):=by
 intro tok nt box nb;by_cases h1:48<=c
 .by_cases h2:c<=57
  .refine sI func317 ntmps317 fun Hb Ht=>?_
   repeat first|simp[h1,h2]|refine sR ?_
   refine sT (sH Hb Ht ?_);simp[digB,h1,h2]
  .refine sI func317 ntmps317 fun Hb Ht=>?_
   repeat first|simp[h1,h2]|refine sR ?_
   refine sT (sH Hb Ht ?_);simp[digB,h1,h2]
 .refine sI func317 ntmps317 fun Hb Ht=>?_
  repeat first|simp[h1]|refine sR ?_
  refine sT (sH Hb Ht ?_);simp[digB,h1]
theorem part_c1(c:Int):DC 316 [Ub c] (B (parB c)):=by
 intro tok nt box nb;have h1:=letter_c c;have h2:=digit_c c;cases e1:letB c
 .cases e2:digB c
  .rw[e1] at h1;rw[e2] at h2;refine sI func316 ntmps316 fun Hb Ht=>?_
   repeat first|simp|refine sR ?_
   refine sD (h1 _ _) ?_;repeat first|simp|refine sR ?_
   refine sD (h2 _ _) ?_;repeat first|simp|refine sR ?_
   refine sT (sH Hb Ht ?_);simp[parB,e1,e2]
  .rw[e1] at h1;rw[e2] at h2;refine sI func316 ntmps316 fun Hb Ht=>?_
   repeat first|simp|refine sR ?_
   refine sD (h1 _ _) ?_;repeat first|simp|refine sR ?_
   refine sD (h2 _ _) ?_;repeat first|simp|refine sR ?_
   refine sT (sH Hb Ht ?_);simp[parB,e1,e2]
 .rw[e1] at h1;refine sI func316 ntmps316 fun Hb Ht=>?_
  repeat first|simp|refine sR ?_
  refine sD (h1 _ _) ?_;repeat first|simp|refine sR ?_
  refine sT (sH Hb Ht ?_);simp[parB,e1]
def runN(p:Int->Bool)(s:ByteArray)(at':Nat):Nat:=((s.data.toList.drop at').takeWhile fun b=>p (b.toNat:Int)).length
theorem takeW_len{α:Type}(q:α->Bool)(d:α):∀(l:List α) (i:Nat),i<=l.length->(∀j,j<i->q (l.getD j d)=true)->(i=l.length∨q (l.getD i d)=false)->(l.takeWhile q).length=i
 | [],i,hi,_,_=>by simp at hi;subst hi;rfl
 | x::l,0,_,_,h=>by
  have h2:q x=false:=by simpa using h
  simp[List.takeWhile_cons,h2]
 | x::l,i+1,hi,h1,h2=>by
  have hx:q x=true:=by simpa using h1 0 (by omega)
  have ih:=takeW_len q d l i (by simpa using hi) (fun j hj=>by simpa using h1 (j+1) (by omega)) (by simpa using h2);simp[List.takeWhile_cons,hx,ih]
theorem size_toList(s:ByteArray):s.data.toList.length=s.size:=by rw[Array.length_toList];rfl
theorem byteAt_lt{s:ByteArray}{i:Nat}(h:i<s.size):(s.data[i].toNat:Int)=byteAt s i:=by
 have h2:i<s.data.toList.length:=by rw[size_toList];exact h
 rw[byteAt,List.getD_eq_getElem?_getD,List.getElem?_eq_getElem h2,Option.getD_some,Array.getElem_toList]
theorem runN_eq{p:Int->Bool}{s:ByteArray}{a i:Nat}(hi:a+i<=s.size)(h1:∀j,j<i->p (byteAt s (a+j))=true)(h2:a+i=s.size∨p (byteAt s (a+i))=false):runN p s a=i:=by
 have hl:=size_toList s;have g:∀j,(s.data.toList.drop a).getD j 0=s.data.toList.getD (a+j) 0:=fun j=>by simp[List.getD_eq_getElem?_getD,List.getElem?_drop]
 refine takeW_len _ 0 _ i (by rw[List.length_drop];omega) (fun j hj=>?_) ?_
 .rw[g];exact h1 j hj
 .rcases h2 with h2|h2
  .left;rw[List.length_drop];omega
  .right;rw[g];exact h2
def stRu(s:ByteArray)(f:FuncId)(nb:Nat)(box:Bxs)(tok:Tks)(nt:Nat)(i:Nat):AS:=⟨tl [(0,Sb s),(1,.fn (.func f) []),(5,I i)],lb nb box [],tok,nt⟩
theorem run_c(s:ByteArray)(f:FuncId)(p:Int->Bool)(hs:s.size<=200000000000000)(tok:Tks)(nt:Nat)(hf:∀c,DCall prog f [Ub c] tok nt (B (p c)) tok nt):DCall prog 315 [Sb s,.fn (.func f) []] tok nt (I (runN p s 0)) tok nt:=by
 intro box nb;refine sI func315 ntmps315 fun Hb Ht=>?_
 repeat first|simp|refine sR ?_
 refine sN ?_;have hc:∀c∈([]:List AV),OkIn (fun k=>box k≠none) (fun _=>True) c:=by simp
 refine sL (stRu s f nb box tok nt) (fun i=>i<=s.size/\∀j,j<i->p (byteAt s j)=true) (fun i=>s.size-i) 0 ⟨Nat.zero_le _,by omega⟩ (wM (nr _) rfl (by simp[ToL,lk];exact .same (okFn hc Hb [] (by simp) rfl _)) trivial) ?_;rintro i S' ⟨hi,hok⟩ hS;simp only[stRu] at hS;subst hS;have hw:=sW (i:=i) (by omega);by_cases hlt:i<s.size
 .have hbb:=byteAt_lt hlt;have hr:=runN_eq (p:=p) (s:=s) (a:=0) (i:=i) (by omega) (fun j hj=>by rw[Nat.zero_add];exact hok j hj);rw[Nat.zero_add,<-hbb] at hr;have hok2:p (s.data[i].toNat)=true->∀j,j<i+1->p (byteAt s j)=true:=fun h j hj=>by
   by_cases e:j=i
   .rw[e,<-hbb];exact h
   .exact hok j (by omega)
  repeat first|simp[hlt]|refine sR ?_
  refine sD (hf _) ?_;repeat first|simp|refine sR ?_
  generalize (s.data[i].toNat:Int)=c at *;cases e:p c
  .have hr:=hr (.inr e);refine sC ?_;simp;refine sX ?_;simp only[AU,↓reduceIte];repeat first|simp|refine sR ?_
   refine sT (sH Hb Ht ?_);simp[hr]
  .refine sC ?_;simp;repeat first|simp[hw]|refine sR ?_
   refine sE ?_;exact⟨i+1,⟨hlt,hok2 e⟩,by omega,wM (nr _) rfl (by simp[ToL,lk];exact .same (okFn hc Hb [] (by simp) rfl _)) trivial⟩
 .have hie:i=s.size:=by omega
  have hr:=runN_eq (p:=p) (s:=s) (a:=0) (i:=i) (by omega) (fun j hj=>by rw[Nat.zero_add];exact hok j hj) (.inl (by omega));repeat first|simp[hlt]|refine sR ?_|refine sC ?_
  refine sX ?_;simp only[AU,↓reduceIte];repeat first|simp|refine sR ?_
  refine sT (sH Hb Ht ?_);simp[hr]
end Go.AM
namespace Go.Proofs
open Go.Shelf
open Tryz
def Tryz.lays137_ren:Go.Shelf.Ren:=⟨fun|137=>320|217=>335|266=>342|n=>n,fun|9=>9|5=>5|3=>3|n=>n,fun|n=>n⟩
theorem Tryz.lays137:Go.Proofs.Lays.n137 prog Tryz.lays137_ren:={
 mixed:=by kernel_rfl
 f137:=func320.trans (congrArg some (by kernel_rfl))
 f217:=func335.trans (congrArg some (by kernel_rfl))
 f266:=func342.trans (congrArg some (by kernel_rfl))
 t3:=underlying3
 a3:=isAgg3
 z3:=sizeOf3
 v3:=zeroValue3
 t5:=underlying5
 a5:=isAgg5
 z5:=sizeOf5
 v5:=zeroValue5
 t9:=underlying9
 a9:=isAgg9
 z9:=sizeOf9
 v9:=zeroValue9 }
open Go.RowKit in
theorem Tryz.strings_IndexByte(s:ByteArray)(c:Int)(w:World):
  Calls prog 320 #[.string s,.int .u8 c] w fun e w'=>e=.returned (.int .i64 (Lib.indexByte s.data.toList c.toNat.toUInt8))/\w'=w:=Any.strings_IndexByte Tryz.lays137 s c w
def Tryz.lays112_ren:Go.Shelf.Ren:=⟨fun|112=>302|n=>n,fun|28=>26|3=>3|4=>4|0=>0|n=>n,fun|n=>n⟩
theorem Tryz.lays112:Go.Proofs.Lays.n112 prog Tryz.lays112_ren:={
 mixed:=by kernel_rfl
 f112:=func302.trans (congrArg some (by kernel_rfl))
 t0:=underlying0
 a0:=isAgg0
 z0:=sizeOf0
 v0:=zeroValue0
 t3:=underlying3
 a3:=isAgg3
 z3:=sizeOf3
 v3:=zeroValue3
 t4:=underlying4
 a4:=isAgg4
 z4:=sizeOf4
 v4:=zeroValue4
 t28:=underlying26
 a28:=isAgg26
 z28:=sizeOf26
 v28:=zeroValue26 }
open Go.RowKit Go.Lib Go.Sort in
theorem Tryz.slices_Reverse_int(blk off cap:Nat)(zs:List Int)(w:World)(hH:Holds (Value.int .i64) w blk off zs.toArray)(hsz:zs.length<=9223372036854775807):
  Calls prog 302 #[.slice (some ⟨blk,off,none⟩) zs.length cap] w fun e w'=>e=.returned (.tuple #[])/\∃n,w'=putRow (Value.int .i64) (Sort.ahead w n) blk off zs.reverse.toArray:=Any.slices_Reverse_int Tryz.lays112 blk off cap zs w hH hsz
open Go.RowKit Go.Lib Go.Sort in
theorem Tryz.slices_Reverse_int_empty(a:Option Addr)(cap:Nat)(w:World):
  Calls prog 302 #[.slice a 0 cap] w fun e w'=>e=.returned (.tuple #[])/\w'=w:=Any.slices_Reverse_int_empty Tryz.lays112 a cap w
end Go.Proofs
namespace Go.AM
open Go Go.Proofs Go.Shelf
open Tryz
theorem seq_iff{a b:ByteArray}:a.toList=b.toList↔a=b:=⟨fun h=>by rw[ByteArray.toList_eq,ByteArray.toList_eq] at h;exact Go.WideShapes.bytes_inj h,fun h=>by rw[h]⟩
theorem seq_dec(a b:ByteArray):(a.toList==b.toList)=decide (a=b):=by rw[Bool.eq_iff_iff,beq_iff_eq,decide_eq_true_eq,seq_iff]
abbrev strs(l:List ByteArray):D:=.sl 1 (l.map fun s=>[.raw (.string s)])
def memS(xs:List ByteArray)(v:ByteArray):Bool:=xs.any fun x=>decide (v=x)
theorem memS_iff{xs:List ByteArray}{v:ByteArray}:memS xs v=true↔v∈xs:=by simp[memS]
def indexB(xs:List ByteArray)(v:ByteArray):Int:=if memS xs v=true then (xs.findIdx (fun x=>decide (v=x)):Int) else -1
theorem indexB_nonneg(xs:List ByteArray)(v:ByteArray):(0<=indexB xs v)↔memS xs v=true:=by
 unfold indexB;split<;>simp[*]
def stIs(xs:List ByteArray)(v:ByteArray)(nb:Nat)(box:Bxs)(tok:Tks)(nt:Nat)(i:Nat):AS:=⟨tl [(0,.d (strs xs)),(1,Sb v),(7,I xs.length),(8,I i)],lb nb box [],tok,nt⟩
theorem strs_at{l:List ByteArray}{i:Nat}(h:i<l.length):(l.map fun s=>[D.raw (.string s)])[i]?=some [D.raw (.string l[i])]:=by simp[h]
theorem indexS_c(xs:List ByteArray)(v:ByteArray)(hx:xs.length<=1000000):DC 328 [.d (strs xs),Sb v] (I (indexB xs v)):=by
 intro tok nt box nb;refine sI func328 ntmps328 fun Hb Ht=>?_
 repeat first|simp|refine sR ?_
 refine sN ?_;refine sL (stIs xs v nb box tok nt) (fun i=>i<=xs.length/\v∉xs.take i) (fun i=>xs.length-i) 0 ⟨Nat.zero_le _,by simp⟩ (wM (nr _) rfl (by simp[ToL,lk]) trivial) ?_;rintro i S' ⟨hi,htk⟩ hS;simp only[stIs] at hS;subst hS;have hw:=sW (i:=i) (by omega);repeat first|simp|refine sR ?_|refine sC ?_
 refine⟨fun hlt=>?_,fun hge=>?_⟩
 .have hsp:xs=xs.take i++xs[i]::xs.drop (i+1):=by simp
  by_cases he:v=xs[i]
  .have b:(v.toList==xs[i].toList)=true:=by rw[seq_dec];simpa using he
   have hmem:memS xs v=true:=memS_iff.2 (by rw[he];exact List.getElem_mem _)
   have hid:xs.findIdx (fun x=>decide (v=x))=i:=by
    rw[List.findIdx_eq hlt];refine⟨by simpa using he,fun j hj=>?_⟩;have:¬v=xs[j]:=fun e=>htk (by rw[e,List.mem_take_iff_getElem];exact⟨j,by omega,rfl⟩)
    simpa using this
   repeat first|simp[hlt,b]|refine sR ?_
   refine sC ?_;repeat first|simp|refine sR ?_
   refine sT (sH Hb Ht ?_);simp[indexB,hmem,hid]
  .have b:(v.toList==xs[i].toList)=false:=by rw[seq_dec];simpa using he
   repeat first|simp[hlt,b]|refine sR ?_
   refine sC ?_;simp;repeat first|simp[hw]|refine sR ?_
   refine sE ?_;refine⟨i+1,⟨hlt,?_⟩,by omega,wM (nr _) rfl (by simp[ToL,lk]) trivial⟩;rw[List.take_succ_eq_append_getElem hlt];simp only[List.mem_append,List.mem_singleton,not_or];exact⟨htk,he⟩
 .refine sX ?_;simp only[AU,↓reduceIte];repeat first|simp|refine sR ?_
  have hn:memS xs v=false:=by
   rw[List.take_of_length_le hge] at htk;rw[<-Bool.not_eq_true,memS_iff];exact htk
  refine sT (sH Hb Ht ?_);simp[indexB,hn]
theorem containsS_c(xs:List ByteArray)(v:ByteArray)(hx:xs.length<=1000000):DC 301 [.d (strs xs),Sb v] (B (memS xs v)):=by
 intro tok nt box nb;refine sI func301 ntmps301 fun Hb Ht=>?_
 repeat first|simp|refine sR ?_
 refine sD (indexS_c xs v hx _ _) ?_;repeat first|simp|refine sR ?_
 refine sT (sH Hb Ht ?_);simp[indexB_nonneg]
theorem indexByte_c(s:ByteArray)(c:Int):DC 320 [Sb s,Ub c] (I (Lib.indexByte s.data.toList c.toNat.toUInt8)):=by
 intro tok nt box nb;refine⟨Enters.mk func320 rfl (by kernel_rfl),fun G w vals hm hr=>?_⟩;obtain⟨hlen,hrv⟩:=hr
 match vals,hlen with
 | [v,u],_ =>
  have h0:=hrv 0 (by simp) (by simp);have h1:=hrv 1 (by simp) (by simp);simp only[List.getElem_cons_zero,List.getElem_cons_succ] at h0 h1;cases h0 with
  | d h0 =>
  cases h0 with
  | raw h0 =>
  cases h1 with
  | d h1 =>
  cases h1 with
  | raw h1 =>
   refine(Tryz.strings_IndexByte s c w).mono ?_;rintro e w' ⟨rfl,rfl⟩;exact⟨_,_,_,G,rfl,⟨rfl,rfl⟩,rfl,hm,.d (.raw rfl),Le.refl _ _,fun k hk=>⟨hk,rfl⟩⟩
def quoB(c:Int):Bool:=decide (32<=c/\c<=126)&&c !=34
theorem quoted1_c(c:Int):DC 334 [Ub c] (B (quoB c)):=by
 intro tok nt box nb;by_cases h1:32<=c
 .by_cases h2:c<=126
  .refine sI func334 ntmps334 fun Hb Ht=>?_
   repeat first|simp[h1,h2]|refine sR ?_
   refine sT (sH Hb Ht ?_);simp[quoB,h1,h2]
  .refine sI func334 ntmps334 fun Hb Ht=>?_
   repeat first|simp[h1,h2]|refine sR ?_
   refine sT (sH Hb Ht ?_);simp[quoB,h1,h2]
 .refine sI func334 ntmps334 fun Hb Ht=>?_
  repeat first|simp[h1]|refine sR ?_
  refine sT (sH Hb Ht ?_);simp[quoB,h1]
theorem runN_le(p:Int->Bool)(s:ByteArray)(a:Nat):runN p s a<=s.size-a:=by
 have h:=(List.takeWhile_sublist (l:=s.data.toList.drop a) fun b=>p (b.toNat:Int)).length_le;rw[List.length_drop,size_toList] at h;exact h
theorem ext1_size{s:ByteArray}:(s.extract 1 s.size).size=s.size-1:=by simp[ByteArray.size_extract]
def quoR(s:ByteArray):Int × Int :=
 if 1+runN quoB (s.extract 1 s.size) 0=s.size then (0,2) else if byteAt s (1+runN quoB (s.extract 1 s.size) 0)≠34 then (0,2)
 else if 60<runN quoB (s.extract 1 s.size) 0 then (0,3) else ((runN quoB (s.extract 1 s.size) 0:Int)+2,0)
theorem quoted_c(s:ByteArray)(h1:1<=s.size)(hs:s.size<=200000000000000):DC 318 [Sb s] (.tup [I (quoR s).1,I (quoR s).2]):=by
 intro tok nt box nb;have hr:=run_c (s.extract 1 s.size) 334 quoB (by rw[ext1_size];omega) tok nt fun c=>quoted1_c c tok nt
 have hle:=runN_le quoB (s.extract 1 s.size) 0;rw[ext1_size] at hle;have hq:quoR s=if 1+runN quoB (s.extract 1 s.size) 0=s.size then (0,2) else if byteAt s (1+runN quoB (s.extract 1 s.size) 0)≠34 then (0,2) else if 60<runN quoB (s.extract 1 s.size) 0 then (0,3) else ((runN quoB (s.extract 1 s.size) 0:Int)+2,0):=rfl
 generalize runN quoB (s.extract 1 s.size) 0=n at *;have h1':(1:Int)<=s.size:=by omega
 have w1:IntKind.i64.wrap (1+(n:Int))=((1+n:Nat):Int):=by rw[wrap_in (by omega) (by omega)];omega
 have w2:IntKind.i64.wrap ((n:Int)+2)=(n:Int)+2:=wrap_in (by omega) (by omega)
 refine sI func318 ntmps318 fun Hb Ht=>?_
 repeat first|simp[h1,h1']|refine sR ?_
 refine sD (hr) ?_;simp;by_cases e1:1+n=s.size
 .have b1:((1:Int)+n==s.size)=true:=by rw[beq_iff_eq];omega
  rw[if_pos e1] at hq;rw[hq];repeat first|simp[w1,b1]|refine sR ?_
  refine sC ?_;repeat first|simp|refine sR ?_
  refine sT (sH Hb Ht ?_);simp
 .have b1:((1:Int)+n==s.size)=false:=by rw[beq_eq_false_iff_ne];omega
  have hlt:1+n<s.size:=by omega
  have hb:=byteAt_lt hlt;have l1:(0:Int)<=1+n:=by omega
  have l2:(1:Int)+n<s.size:=by omega
  have t1:((1:Int)+n).toNat=1+n:=by omega
  rw[if_neg e1] at hq;repeat first|simp[w1,b1,l1,l2,t1,hlt]|refine sR ?_
  rw[hb];by_cases e2:byteAt s (1+n)=34
  .have b2:(byteAt s (1+n)!=34)=false:=by simp[e2]
   rw[if_neg (by simp[e2])] at hq;simp only[b2];refine sC ?_;simp;repeat first|simp[w2]|refine sR ?_
   by_cases e3:60<n
   .have e4:(60:Int)<n:=by omega
    rw[if_pos e3] at hq;rw[hq];refine sC ?_;simp[e4];repeat first|simp|refine sR ?_
    refine sT (sH Hb Ht ?_);simp
   .have e4:¬(60:Int)<n:=by omega
    rw[if_neg e3] at hq;rw[hq];refine sC ?_;simp[e4];repeat first|simp[w2]|refine sR ?_
    refine sT (sH Hb Ht ?_);simp
  .have b2:(byteAt s (1+n)!=34)=true:=by simp[e2]
   rw[if_pos e2] at hq;rw[hq];simp only[b2];refine sC ?_;repeat first|simp|refine sR ?_
   refine sT (sH Hb Ht ?_);simp
def pairL:List ByteArray:=[⟨#[45,62]⟩,⟨#[60,61]⟩,⟨#[62,61]⟩,⟨#[61,61]⟩,⟨#[33,61]⟩]
def pairB(s:ByteArray):Bool:=decide (2<=s.size)&&memS pairL (s.extract 0 2)
theorem pair_c(s:ByteArray)(hs:s.size<=200000000000000):DC 319 [Sb s] (B (pairB s)):=by
 intro tok nt box nb;by_cases h2:2<=s.size
 .have h2':(2:Int)<=s.size:=by omega
  refine sI func319 ntmps319 fun Hb Ht=>?_
  have hc:=containsS_c pairL (s.extract 0 2) (by decide);repeat first|simp[h2,h2']|refine sR ?_
  refine⟨rfl,?_⟩;refine Stop.data ?_;refine sD (hc _ _) ?_;repeat first|simp|refine sR ?_
  refine sT (sH Hb Ht ?_);simp[pairB,h2]
 .have h2':¬(2:Int)<=s.size:=by omega
  refine sI func319 ntmps319 fun Hb Ht=>?_
  repeat first|simp[h2,h2']|refine sR ?_
  refine sT (sH Hb Ht ?_);simp[pairB,h2]
def nextR(s:ByteArray):Int × Int × Int :=
 if letB (byteAt s 0)=true then (if 20<runN parB s 0 then (0,0,3) else (1,runN parB s 0,0))
 else if digB (byteAt s 0)=true then (if 9<runN digB s 0 then (0,0,3) else (2,runN digB s 0,0))
 else if byteAt s 0=34 then (3,(quoR s).1,(quoR s).2) else if pairB s=true then (4,2,0)
 else if 0<=Lib.indexByte [123,125,40,41,91,93,44,59,58,61,43,45,42,60,62,33,38,124,46,63] (UInt8.ofNat (byteAt s 0).toNat) then (4,1,0) else (0,0,2)
theorem next_c(s:ByteArray)(h1:1<=s.size)(hs:s.size<=200000000000000):DC 284 [Sb s] (.tup [I (nextR s).1,I (nextR s).2.1,I (nextR s).2.2]):=by
 intro tok nt box nb;have hl:=letter_c (byteAt s 0);have hd:=digit_c (byteAt s 0);have r1:=run_c s 316 parB hs tok nt fun c=>part_c1 c tok nt
 have r2:=run_c s 317 digB hs tok nt fun c=>digit_c c tok nt
 have hq:=quoted_c s h1 hs;have hp:=pair_c s hs;have hx:=fun q=>indexByte_c q (byteAt s 0)
 have h0:0<s.size:=h1
 have h0':(0:Int)<s.size:=by omega
 have hb:=byteAt_lt h0;obtain⟨N,hN⟩:∃N,nextR s=N:=⟨_,rfl⟩
 rw[hN];unfold nextR at hN;have n1:runN parB s 0<=s.size:=runN_le _ _ _
 have n2:runN digB s 0<=s.size:=runN_le _ _ _
 generalize runN parB s 0=a1 at *;generalize runN digB s 0=a2 at *;refine sI func284 ntmps284 fun Hb Ht=>?_
 repeat first|simp[h0,h0']|refine sR ?_
 rw[hb];refine sD (hl _ _) ?_;repeat first|simp|refine sR ?_
 cases e1:letB (byteAt s 0)
 .rw[if_neg (by simp[e1])] at hN;refine sC ?_;repeat first|simp|refine sR ?_
  refine sD (hd _ _) ?_;repeat first|simp|refine sR ?_
  cases e2:digB (byteAt s 0)
  .rw[if_neg (by simp[e2])] at hN;refine sC ?_;repeat first|simp|refine sR ?_
   by_cases e3:byteAt s 0=34
   .rw[if_pos e3] at hN;have b3:(byteAt s 0==34)=true:=by simp[e3]
    simp only[b3];refine sC ?_;repeat first|simp|refine sR ?_
    refine sD (hq _ _) ?_;repeat first|simp|refine sR ?_
    refine sT (sH Hb Ht ?_);simp[<-hN]
   .rw[if_neg e3] at hN;have b3:(byteAt s 0==34)=false:=by simp[e3]
    simp only[b3];refine sC ?_;repeat first|simp|refine sR ?_
    refine sD (hp _ _) ?_;repeat first|simp|refine sR ?_
    cases e4:pairB s
    .rw[if_neg (by simp[e4])] at hN;refine sC ?_;repeat first|simp|refine sR ?_
     refine sD (hx _ _ _) ?_;repeat first|simp|refine sR ?_
     by_cases e5:0<=Lib.indexByte [123,125,40,41,91,93,44,59,58,61,43,45,42,60,62,33,38,124,46,63] (UInt8.ofNat (byteAt s 0).toNat)
     .rw[if_pos e5] at hN;refine sC ?_;simp[e5];repeat first|simp|refine sR ?_
      refine sT (sH Hb Ht ?_);simp[<-hN]
     .rw[if_neg e5] at hN;refine sC ?_;simp[e5];repeat first|simp|refine sR ?_
      refine sT (sH Hb Ht ?_);simp[<-hN]
    .rw[if_pos e4] at hN;refine sC ?_;repeat first|simp|refine sR ?_
     refine sT (sH Hb Ht ?_);simp[<-hN]
  .rw[if_pos e2] at hN;refine sC ?_;repeat first|simp|refine sR ?_
   refine sD (r2) ?_;repeat first|simp|refine sR ?_
   by_cases e3:9<a2
   .have e4:(9:Int)<a2:=by omega
    rw[if_pos e3] at hN;refine sC ?_;simp[e4];repeat first|simp|refine sR ?_
    refine sT (sH Hb Ht ?_);simp[<-hN]
   .have e4:¬(9:Int)<a2:=by omega
    rw[if_neg e3] at hN;refine sC ?_;simp[e4];repeat first|simp|refine sR ?_
    refine sT (sH Hb Ht ?_);simp[<-hN]
 .rw[if_pos e1] at hN;refine sC ?_;repeat first|simp|refine sR ?_
  refine sD (r1) ?_;repeat first|simp|refine sR ?_
  by_cases e3:20<a1
  .have e4:(20:Int)<a1:=by omega
   rw[if_pos e3] at hN;refine sC ?_;simp[e4];repeat first|simp|refine sR ?_
   refine sT (sH Hb Ht ?_);simp[<-hN]
  .have e4:¬(20:Int)<a1:=by omega
   rw[if_neg e3] at hN;refine sC ?_;simp[e4];repeat first|simp|refine sR ?_
   refine sT (sH Hb Ht ?_);simp[<-hN]
def nameB(s:ByteArray):Bool:=decide (1<=s.size/\s.size<=20)&&letB (byteAt s 0)&&decide (runN parB s 0=s.size)
theorem nameB_next{s:ByteArray}(h1:1<=s.size):((decide ((nextR s).2.2=0)&&decide ((nextR s).1=1))&&decide ((nextR s).2.1=(s.size:Int)))=nameB s:=by
 unfold nameB nextR;by_cases e1:letB (byteAt s 0)=true
 .rw[if_pos e1];by_cases e2:20<runN parB s 0
  .rw[if_pos e2];have:¬((1<=s.size/\s.size<=20)/\runN parB s 0=s.size):=by omega
   rw[Bool.eq_iff_iff];simp[e1];omega
  .rw[if_neg e2];rw[Bool.eq_iff_iff];simp[e1];omega
 .rw[if_neg e1];have e1':letB (byteAt s 0)=false:=by simpa using e1
  rw[e1'];simp only[Bool.and_false,Bool.false_and];split
  .split<;>simp
  .split
   .simp
   .split
    .simp
    .split<;>simp
theorem empty_dec{s:ByteArray}:(s.toList==(⟨#[]⟩:ByteArray).toList)=decide (s.size=0):=by
 rw[seq_dec,Bool.eq_iff_iff,decide_eq_true_eq,decide_eq_true_eq];constructor
 .rintro rfl;rfl
 .intro h;obtain⟨⟨l⟩⟩:=s;cases l with
  | nil=>rfl
  | cons x r=>simp[ByteArray.size] at h
theorem wholeN_c(s:ByteArray)(hs:s.size<=200000000000000):DC 250 [.agg [I 1,Sb s,I 0]] (.tup [Sb s,B (nameB s)]):=by
 intro tok nt box nb;by_cases h0:s.size=0
 .have b0:(s.toList==(⟨#[]⟩:ByteArray).toList)=true:=by rw[empty_dec];simp[h0]
  have hse:s=⟨#[]⟩:=by rw[seq_dec] at b0;simpa using b0
  have hn:nameB s=false:=by simp[nameB,h0]
  rw[hn];refine sI func250 ntmps250 fun Hb Ht=>?_
  repeat (first|simp|refine sR ?_)
  refine sC ?_
  repeat (first|simp|refine sR ?_)
  have b1:s.toList=[]:=by simpa using b0
  repeat first|simp[b1]|refine sR ?_|refine sC ?_
  refine sT (sH Hb Ht ?_);simp[hse]
 .have b0:(s.toList==(⟨#[]⟩:ByteArray).toList)=false:=by rw[empty_dec];simp[h0]
  have hx:=next_c s (by omega) hs;have hnb:=nameB_next (s:=s) (by omega);generalize nextR s=N at *;refine sI func250 ntmps250 fun Hb Ht=>?_
  repeat (first|simp|refine sR ?_)
  refine sC ?_
  repeat (first|simp|refine sR ?_)
  have b1:¬s.toList=[]:=by simpa using b0
  repeat first|simp[b1]|refine sR ?_|refine sC ?_
  refine sD (hx _ _) ?_;simp;by_cases f1:N.2.2=0
  .have g1:(N.2.2==0)=true:=by simp[f1]
   by_cases f2:N.1=1
   .have g2:(N.1==1)=true:=by simp[f2]
    repeat first|simp[g1,g2]|refine sR ?_
    by_cases f3:N.2.1=(s.size:Int)
    .have g3:(N.2.1==(s.size:Int))=true:=by simp[f3]
     rw[<-hnb];refine sT (sH Hb Ht ?_);simp[f1,f2,f3,g3]
    .have g3:(N.2.1==(s.size:Int))=false:=by simp[f3]
     rw[<-hnb];refine sT (sH Hb Ht ?_);simp[f1,f2,f3,g3]
   .have g2:(N.1==1)=false:=by simp[f2]
    rw[<-hnb];repeat first|simp[g1,g2]|refine sR ?_
    refine sT (sH Hb Ht ?_);simp[f1,f2]
  .have g1:(N.2.2==0)=false:=by simp[f1]
   rw[<-hnb];repeat first|simp[g1]|refine sR ?_
   refine sT (sH Hb Ht ?_);simp[f1]
theorem isName_c(s:ByteArray)(hs:s.size<=200000000000000):DC 194 [Sb s] (B (nameB s)):=by
 intro tok nt box nb;have h:=wholeN_c s hs;refine sI func194 ntmps194 fun Hb Ht=>?_
 repeat first|simp|refine sR ?_
 refine sD (h _ _) ?_;repeat first|simp|refine sR ?_
 refine sT (sH Hb Ht ?_);simp
theorem letter01_c(c:Int):DC 288 [Ub c] (B (letB c)):=by
 intro tok nt box nb;by_cases h1:97<=c
 .by_cases h2:c<=122
  .refine sI func288 ntmps288 fun Hb Ht=>?_
   repeat first|simp[h1,h2]|refine sR ?_
   refine sT (sH Hb Ht ?_);simp[letB,h1,h2]
  .have h3:¬c<=90:=by omega
   have h4:65<=c:=by omega
   refine sI func288 ntmps288 fun Hb Ht=>?_
   repeat first|simp[h1,h2,h3,h4]|refine sR ?_
   refine sT (sH Hb Ht ?_);simp[letB,h1,h2,h3,h4]
 .by_cases h3:65<=c
  .by_cases h4:c<=90
   .refine sI func288 ntmps288 fun Hb Ht=>?_
    repeat first|simp[h1,h3,h4]|refine sR ?_
    refine sT (sH Hb Ht ?_);simp[letB,h1,h3,h4]
   .refine sI func288 ntmps288 fun Hb Ht=>?_
    repeat first|simp[h1,h3,h4]|refine sR ?_
    refine sT (sH Hb Ht ?_);simp[letB,h1,h3,h4]
  .refine sI func288 ntmps288 fun Hb Ht=>?_
   repeat first|simp[h1,h3]|refine sR ?_
   refine sT (sH Hb Ht ?_);simp[letB,h1,h3]
theorem digit01_c(c:Int):DC 289 [Ub c] (B (digB c)):=by
 intro tok nt box nb;by_cases h1:48<=c
 .by_cases h2:c<=57
  .refine sI func289 ntmps289 fun Hb Ht=>?_
   repeat first|simp[h1,h2]|refine sR ?_
   refine sT (sH Hb Ht ?_);simp[digB,h1,h2]
  .refine sI func289 ntmps289 fun Hb Ht=>?_
   repeat first|simp[h1,h2]|refine sR ?_
   refine sT (sH Hb Ht ?_);simp[digB,h1,h2]
 .refine sI func289 ntmps289 fun Hb Ht=>?_
  repeat first|simp[h1]|refine sR ?_
  refine sT (sH Hb Ht ?_);simp[digB,h1]
def stR01(s:ByteArray)(d:Bool)(nb:Nat)(box:Bxs)(tok:Tks)(nt:Nat)(i:Nat):AS:=⟨tl [(0,Sb s),(1,I 0),(2,B d),(7,I i)],lb nb box [],tok,nt⟩
def pd(d:Bool)(c:Int):Bool:=digB c||(!d&&(letB c||c==95))
theorem pd_false:pd false=parB:=by
 funext c
 simp only[pd,parB,Bool.not_false,Bool.true_and];cases letB c<;>cases digB c<;>simp
set_option maxRecDepth 100000 in
theorem run01_c(s:ByteArray)(d:Bool)(hs:s.size<=200000000000000):DC 290 [Sb s,I 0,B d] (I (runN (pd d) s 0)):=by
 intro tok nt box nb;have hl:=letter01_c;have hd:=digit01_c;refine sI func290 ntmps290 fun Hb Ht=>?_
 repeat first|simp|refine sR ?_
 refine sN ?_;refine sL (stR01 s d nb box tok nt) (fun i=>i<=s.size/\∀j,j<i->pd d (byteAt s j)=true) (fun i=>s.size-i) 0 ⟨Nat.zero_le _,by omega⟩ (wM (nr _) rfl (by simp[ToL,lk]) trivial) ?_;rintro i S' ⟨hi,hok⟩ hS;simp only[stR01] at hS;subst hS;have hw:=sW (i:=i) (by omega);have hwi:IntKind.i64.wrap (i:Int)=i:=wrap_in (by omega) (by omega)
 by_cases hlt:i<s.size
 .have hbb:=byteAt_lt hlt;have hr:=runN_eq (p:=pd d) (s:=s) (a:=0) (i:=i) (by omega) (fun j hj=>by rw[Nat.zero_add];exact hok j hj);rw[Nat.zero_add,<-hbb] at hr;have hok2:pd d (s.data[i].toNat)=true->∀j,j<i+1->pd d (byteAt s j)=true:=fun h j hj=>by
   by_cases e:j=i
   .rw[e,<-hbb];exact h
   .exact hok j (by omega)
  have hd:=hd (s.data[i].toNat);have hl:=hl (s.data[i].toNat);have fin1:pd d (s.data[i].toNat)=false->runN (pd d) s 0=i:=fun h=>hr (.inr h)
  cases ed:digB (s.data[i].toNat)
  .rw[ed] at hd;cases d
   .cases el:letB (s.data[i].toNat)
    .rw[el] at hl;cases eu:((s.data[i].toNat:Int)==95)
     .have hr:=fin1 (by simp[pd,ed,el,eu]);repeat first|simp[hlt,hwi]|refine sR ?_
      refine sD (hd _ _) ?_;simp;repeat first|simp[hlt,hwi]|refine sR ?_
      refine sD (hl _ _) ?_;simp;repeat first|simp[hlt,hwi,eu]|refine sR ?_|refine sC ?_
      refine sX ?_;simp only[AU,↓reduceIte];repeat first|simp|refine sR ?_
      refine sT (sH Hb Ht ?_);simp[hr]
     .have hv:=hok2 (by simp[pd,ed,el,eu]);repeat first|simp[hlt,hwi]|refine sR ?_
      refine sD (hd _ _) ?_;simp;repeat first|simp[hlt,hwi]|refine sR ?_
      refine sD (hl _ _) ?_;simp;repeat first|simp[hlt,hwi,eu]|refine sR ?_
      refine sC ?_;simp;repeat first|simp[hw]|refine sR ?_
      refine sE ?_;exact⟨i+1,⟨hlt,hv⟩,by omega,wM (nr _) rfl (by simp[ToL,lk]) trivial⟩
    .rw[el] at hl;have hv:=hok2 (by simp[pd,ed,el]);repeat first|simp[hlt,hwi]|refine sR ?_
     refine sD (hd _ _) ?_;simp;repeat first|simp[hlt,hwi]|refine sR ?_
     refine sD (hl _ _) ?_;simp;repeat first|simp[hlt,hwi]|refine sR ?_
     refine sC ?_;simp;repeat first|simp[hw]|refine sR ?_
     refine sE ?_;exact⟨i+1,⟨hlt,hv⟩,by omega,wM (nr _) rfl (by simp[ToL,lk]) trivial⟩
   .have hr:=fin1 (by simp[pd,ed]);repeat first|simp[hlt,hwi]|refine sR ?_
    refine sD (hd _ _) ?_;simp;repeat first|simp[hlt,hwi]|refine sR ?_|refine sC ?_
    refine sX ?_;simp only[AU,↓reduceIte];repeat first|simp|refine sR ?_
    refine sT (sH Hb Ht ?_);simp[hr]
  .rw[ed] at hd;have hv:=hok2 (by simp[pd,ed]);repeat first|simp[hlt,hwi]|refine sR ?_
   refine sD (hd _ _) ?_;simp;repeat first|simp[hlt,hwi]|refine sR ?_
   refine sC ?_;simp;repeat first|simp[hw]|refine sR ?_
   refine sE ?_;exact⟨i+1,⟨hlt,hv⟩,by omega,wM (nr _) rfl (by simp[ToL,lk]) trivial⟩
 .have hie:i=s.size:=by omega
  have hr:=runN_eq (p:=pd d) (s:=s) (a:=0) (i:=i) (by omega) (fun j hj=>by rw[Nat.zero_add];exact hok j hj) (.inl (by omega));repeat first|simp[hlt,hwi]|refine sR ?_|refine sC ?_
  refine sX ?_;simp only[AU,↓reduceIte];repeat first|simp|refine sR ?_
  refine sT (sH Hb Ht ?_);simp[hr]
def quoT(s:ByteArray)(n:Nat):Int :=
 if n<s.size then (if byteAt s n=34 then (n:Int)+1 else if byteAt s n<32∨126<byteAt s n then 0 else quoT s (n+1)) else 0
termination_by s.size-n
theorem quoT_end{s:ByteArray}{n:Nat}(h:¬n<s.size):quoT s n=0:=by rw[quoT,if_neg h]
theorem quoT_q{s:ByteArray}{n:Nat}(h:n<s.size)(h1:byteAt s n=34):quoT s n=(n:Int)+1:=by rw[quoT,if_pos h,if_pos h1]
theorem quoT_bad{s:ByteArray}{n:Nat}(h:n<s.size)(h1:¬byteAt s n=34)(h2:byteAt s n<32∨126<byteAt s n):quoT s n=0:=by rw[quoT,if_pos h,if_neg h1,if_pos h2]
theorem quoT_go{s:ByteArray}{n:Nat}(h:n<s.size)(h1:¬byteAt s n=34)(h2:¬(byteAt s n<32∨126<byteAt s n)):quoT s n=quoT s (n+1):=by rw[quoT,if_pos h,if_neg h1,if_neg h2]
theorem quoT_rng(s:ByteArray):∀(k n:Nat),s.size-n=k->1<=n->quoT s n=0∨2<=quoT s n/\quoT s n<=s.size
 | 0,n,hk,_=>.inl (quoT_end (by omega))
 | k+1,n,hk,h1=>by
  have hlt:n<s.size:=by omega
  by_cases e1:byteAt s n=34
  .rw[quoT_q hlt e1];right;omega
  .by_cases e2:byteAt s n<32∨126<byteAt s n
   .exact .inl (quoT_bad hlt e1 e2)
   .rw[quoT_go hlt e1 e2];exact quoT_rng s k (n+1) (by omega) (by omega)
def stQ01(s:ByteArray)(nb:Nat)(box:Bxs)(tok:Tks)(nt:Nat)(i:Nat):AS:=⟨tl [(0,Sb s),(1,I 0),(5,I i)],lb nb box [],tok,nt⟩
theorem quoted01_c(s:ByteArray)(hs:s.size<=200000000000000):DC 291 [Sb s,I 0] (I (quoT s 1)):=by
 intro tok nt box nb;refine sI func291 ntmps291 fun Hb Ht=>?_
 repeat first|simp|refine sR ?_
 refine sN ?_;by_cases h0:1<=s.size
 .refine sL (stQ01 s nb box tok nt) (fun i=>i<=s.size/\quoT s 1=quoT s i) (fun i=>s.size-i) 1 ⟨h0,rfl⟩ (wM (nr _) rfl (by simp[ToL,lk]) trivial) ?_;rintro i S' ⟨hi,hq⟩ hS;simp only[stQ01] at hS;subst hS;have hw:=sW (i:=i) (by omega);have hwi:IntKind.i64.wrap (i:Int)=i:=wrap_in (by omega) (by omega)
  by_cases hlt:i<s.size
  .have hbb:=byteAt_lt hlt;repeat (first|simp[hlt,hwi]|refine sR ?_)
   refine sC ?_
   repeat (first|simp[hlt,hwi]|refine sR ?_)
   rw[hbb];by_cases e1:byteAt s i=34
   .have b1:(byteAt s i==34)=true:=by simp[e1]
    have hr:=quoT_q hlt e1;simp only[b1];refine sC ?_;simp;repeat first|simp[hw]|refine sR ?_
    refine sT (sH Hb Ht ?_);simp[hq,hr]
   .have b1:(byteAt s i==34)=false:=by simp[e1]
    simp only[b1];refine sC ?_;simp;by_cases e2:byteAt s i<32
    .have hr:=quoT_bad hlt e1 (.inl e2);repeat first|simp[e2]|refine sR ?_
     refine sC ?_;repeat first|simp|refine sR ?_
     refine sT (sH Hb Ht ?_);simp[hq,hr]
    .by_cases e3:126<byteAt s i
     .have hr:=quoT_bad hlt e1 (.inr e3);repeat first|simp[e2,e3]|refine sR ?_
      refine sC ?_;repeat first|simp|refine sR ?_
      refine sT (sH Hb Ht ?_);simp[hq,hr]
     .have hr:=quoT_go hlt e1 (by omega);repeat first|simp[e2,e3]|refine sR ?_
      refine sC ?_;simp;repeat first|simp[hw]|refine sR ?_
      refine sE ?_;exact⟨i+1,⟨hlt,hq.trans hr⟩,by omega,wM (nr _) rfl (by simp[ToL,lk]) trivial⟩
  .have hr:=quoT_end hlt;repeat first|simp[hlt,hwi]|refine sR ?_|refine sC ?_
   refine sX ?_;simp only[AU,↓reduceIte];repeat first|simp|refine sR ?_
   refine sT (sH Hb Ht ?_);simp[hq,hr]
 .have hr:=quoT_end (s:=s) (n:=1) (by omega);refine sL (stQ01 s nb box tok nt) (fun i=>i=1) (fun i=>0) 1 rfl (wM (nr _) rfl (by simp[ToL,lk]) trivial) ?_;rintro i S' rfl hS;simp only[stQ01] at hS;subst hS;have h1:¬(1:Int)<s.size:=by omega
  have hwi:IntKind.i64.wrap (1:Int)=1:=rfl
  repeat first|simp[hwi,h1]|refine sR ?_|refine sC ?_
  refine sX ?_;simp only[AU,↓reduceIte];repeat first|simp|refine sR ?_
  refine sT (sH Hb Ht ?_);simp[hr]
def signL:List ByteArray:=[⟨#[45,62]⟩,⟨#[60,61]⟩,⟨#[62,61]⟩,⟨#[61,61]⟩,⟨#[33,61]⟩,⟨#[123]⟩,⟨#[125]⟩,⟨#[40]⟩,⟨#[41]⟩,⟨#[91]⟩,⟨#[93]⟩,⟨#[44]⟩,⟨#[59]⟩,⟨#[58]⟩,⟨#[61]⟩,⟨#[43]⟩,⟨#[45]⟩,⟨#[42]⟩,⟨#[60]⟩,⟨#[62]⟩,⟨#[33]⟩,⟨#[38]⟩,⟨#[124]⟩,⟨#[46]⟩,⟨#[63]⟩]
theorem signs01_c:DC 292 [] (.d (strs signL)):=by
 intro tok nt box nb;refine sI func292 ntmps292 fun Hb Ht=>?_
 repeat first|simp|refine sR ?_
 refine⟨rfl,?_⟩;repeat first|simp|refine sR ?_
 refine sT (sH Hb Ht ?_);simp[strs,signL]
def sgnT(s:ByteArray):List ByteArray->Int × ByteArray × Int × Int
 | []=>(0,⟨#[]⟩,0,2)
 | x::r=>if x.size<=s.size/\s.extract 0 x.size=x then (4,x,x.size,0) else sgnT s r
theorem sgnT_cons(s x:ByteArray)(r:List ByteArray):sgnT s (x::r)=if x.size<=s.size/\s.extract 0 x.size=x then ((4:Int),x,(x.size:Int),(0:Int)) else sgnT s r:=rfl
theorem sgnT_kind(s:ByteArray):∀l,(sgnT s l).1=4/\(sgnT s l).2.2.2=0∨(sgnT s l).2.2.2=2
 | []=>.inr rfl
 | x::r=>by
  unfold sgnT;split
  .exact .inl ⟨rfl,rfl⟩
  .exact sgnT_kind s r
def oneR(s:ByteArray):Int × ByteArray × Int × Int :=
 if letB (byteAt s 0)=true∨digB (byteAt s 0)=true then
  (if (if digB (byteAt s 0)=true then 9 else 20)<runN (pd (digB (byteAt s 0))) s 0 then (0,⟨#[]⟩,0,3)
   else (if digB (byteAt s 0)=true then 2 else 1,s.extract 0 (runN (pd (digB (byteAt s 0))) s 0),runN (pd (digB (byteAt s 0))) s 0,0))
 else if byteAt s 0=34 then (if quoT s 1=0 then (0,⟨#[]⟩,0,2) else if 60<quoT s 1-2 then (0,⟨#[]⟩,0,3) else (3,s.extract 1 ((quoT s 1).toNat-1),quoT s 1,0))
 else sgnT s signL
def stSg(s:ByteArray)(L:List ByteArray)(nb:Nat)(box:Bxs)(tok:Tks)(nt:Nat)(i:Nat):AS :=
 ⟨tl [(13,I i),(12,.d (strs L)),(4,.ptr (nb+4) 0 0),(0,Sb s),(1,I 0)],lb nb box [(4,[[I 0,Sb ⟨#[]⟩,I 0]])],tok,nt⟩
set_option maxRecDepth 100000 in
theorem one01_c(s:ByteArray)(h1:1<=s.size)(hs:s.size<=200000000000000):DC 261 [Sb s,I 0] (.tup [.agg [I (oneR s).1,Sb (oneR s).2.1,I 0],I (oneR s).2.2.1,I (oneR s).2.2.2]):=by
 intro tok nt box nb;obtain⟨N,hN⟩:∃N,oneR s=N:=⟨_,rfl⟩
 rw[hN];unfold oneR at hN;have hl:=letter01_c (byteAt s 0);have hd:=digit01_c (byteAt s 0);have hr:=fun d=>run01_c s d hs
 have hq:=quoted01_c s hs;have hqr:=quoT_rng s _ 1 rfl (nr _);have hsg:=signs01_c;have h0:0<s.size:=h1
 have h0':(0:Int)<s.size:=by omega
 have hb:=byteAt_lt h0;have hrl:runN (pd (digB (byteAt s 0))) s 0<=s.size:=runN_le _ _ _
 cases ed:digB (byteAt s 0)
 .rw[ed] at hd hrl hN;cases el:letB (byteAt s 0)
  .rw[el] at hl hN;rw[if_neg (by simp)] at hN;refine sI func261 ntmps261 fun Hb Ht=>?_
   repeat first|simp[h0,h0']|refine sR ?_
   rw[hb];refine sD (hl _ _) ?_;repeat first|simp|refine sR ?_
   refine sD (hd _ _) ?_;repeat (first|simp|refine sR ?_)
   refine sC ?_
   repeat (first|simp|refine sR ?_)
   by_cases e3:byteAt s 0=34
   .rw[if_pos e3] at hN;have b3:(byteAt s 0==34)=true:=by simp[e3]
    generalize quoT s 1=q at *;repeat first|simp[b3]|refine sR ?_
    refine sC ?_;repeat first|simp|refine sR ?_
    refine sD (hq _ _) ?_;simp;by_cases q0:q=0
    .have b4:(q==0)=true:=by simp[q0]
     rw[if_pos q0] at hN;repeat first|simp[b4]|refine sR ?_
     refine sC ?_;repeat first|simp|refine sR ?_
     refine sT (sH Hb Ht ?_);simp[<-hN]
    .have b4:(q==0)=false:=by simp[q0]
     obtain⟨q1,q2⟩:=hqr.resolve_left q0;rw[if_neg q0] at hN;have w1:IntKind.i64.wrap (q-2)=q-2:=wrap_in (by omega) (by omega)
     have w2:IntKind.i64.wrap q=q:=wrap_in (by omega) (by omega)
     have w3:IntKind.i64.wrap (q-1)=q-1:=wrap_in (by omega) (by omega)
     have w4:IntKind.i64.wrap 1=1:=rfl
     by_cases q3:60<q-2
     .rw[if_pos q3] at hN;repeat first|simp[b4]|refine sR ?_
      refine sC ?_;simp;repeat first|simp[w1]|refine sR ?_
      refine sC ?_;simp[q3];repeat first|simp|refine sR ?_
      refine sT (sH Hb Ht ?_);simp[<-hN]
     .rw[if_neg q3] at hN;have q4:(1:Int)<=q-1:=by omega
      have q5:q-1<=s.size:=by omega
      have q6:1<=q.toNat-1:=by omega
      have q7:q.toNat-1<=s.size:=by omega
      have q8:0<=q-1:=by omega
      repeat first|simp[b4]|refine sR ?_
      refine sC ?_;simp;repeat first|simp[w1]|refine sR ?_
      refine sC ?_;simp[q3];repeat first|simp[w2,w3,w4,q4,q5,q6,q7,q8]|refine sR ?_
      refine⟨by omega,?_⟩;repeat first|simp|refine sR ?_
      refine sT (sH Hb Ht ?_);simp[<-hN]
   .rw[if_neg e3] at hN;have b3:(byteAt s 0==34)=false:=by simp[e3]
    repeat first|simp[b3]|refine sR ?_
    refine sC ?_;repeat first|simp|refine sR ?_
    refine sD (hsg _ _) ?_;repeat first|simp|refine sR ?_
    refine sN ?_;refine sL (stSg s signL nb box tok nt) (fun i=>i<=signL.length/\sgnT s signL=sgnT s (signL.drop i)) (fun i=>signL.length-i) 0 ⟨Nat.zero_le _,rfl⟩ wkA ?_;rintro i S' ⟨hi,hsq⟩ hS;simp only[stSg] at hS;subst hS;have hlen:signL.length<=1000:=by decide
    have hmax:∀x∈signL,x.size<=2:=by decide
    generalize signL=L at *;have hw:=sW (i:=i) (by omega);repeat first|simp|refine sR ?_|refine sC ?_
    refine⟨fun hlt=>?_,fun hge=>?_⟩
    .have hx:=hmax _ (List.getElem_mem hlt);have hdr:L.drop i=L[i]::L.drop (i+1):=List.drop_eq_getElem_cons hlt
     have hwx:IntKind.i64.wrap (L[i].size:Int)=L[i].size:=wrap_in (by omega) (by omega)
     rw[hdr] at hsq;rw[sgnT_cons] at hsq;by_cases c1:L[i].size<=s.size
     .have c1':(L[i].size:Int)<=s.size:=by omega
      by_cases c2:s.extract 0 L[i].size=L[i]
      .have b2:((s.extract 0 L[i].size).toList==L[i].toList)=true:=by rw[seq_dec];simp[c2]
       rw[if_pos ⟨c1,c2⟩] at hsq;repeat (first|simp[hlt,hwx,c1,c1',b2]|refine sR ?_)
       refine sC ?_;simp
       refine sN ?_;refine AL.region2 follows_Tryz (nr _) (by kernel_rfl) (Side.of (by simp)) ?_;simp[hlt];refine sT (sH Hb Ht ?_);simp[hsq,<-hN]
      .have b2:((s.extract 0 L[i].size).toList==L[i].toList)=false:=by rw[seq_dec];simp[c2]
       rw[if_neg fun h=>c2 h.2] at hsq;repeat first|simp[hlt,hwx,c1,c1',b2]|refine sR ?_
       refine sC ?_;simp;repeat first|simp[hw]|refine sR ?_
       refine sE ?_;exact⟨i+1,⟨hlt,hsq⟩,by omega,wkA⟩
     .have c1':¬(L[i].size:Int)<=s.size:=by omega
      rw[if_neg fun h=>c1 h.1] at hsq;repeat first|simp[hlt,hwx,c1,c1']|refine sR ?_
      refine sC ?_;simp;repeat first|simp[hw]|refine sR ?_
      refine sE ?_;exact⟨i+1,⟨hlt,hsq⟩,by omega,wkA⟩
    .refine sX ?_;simp only[AU,↓reduceIte];repeat first|simp|refine sR ?_
     have hie:i=L.length:=by omega
     rw[hie,List.drop_length] at hsq;refine sT (sH Hb Ht ?_);simp[<-hN,hsq,sgnT]
  .rw[el] at hl hN;rw[if_pos (by simp)] at hN;have hr:=hr false;generalize runN (pd false) s 0=n at *;refine sI func261 ntmps261 fun Hb Ht=>?_
   repeat first|simp[h0,h0']|refine sR ?_
   rw[hb];refine sD (hl _ _) ?_;repeat first|simp|refine sR ?_
   refine sC ?_;repeat first|simp|refine sR ?_
   refine sD (hd _ _) ?_;repeat first|simp|refine sR ?_
   refine sD (hr _ _) ?_;repeat first|simp|refine sR ?_
   refine sD (hd _ _) ?_;repeat first|simp|refine sR ?_
   refine sC ?_;repeat first|simp|refine sR ?_
   by_cases e3:20<n
   .have e4:(20:Int)<n:=by omega
    simp only[Bool.false_eq_true,if_false] at hN;rw[if_pos e3] at hN;refine sC ?_;simp[e4];repeat first|simp|refine sR ?_
    refine sT (sH Hb Ht ?_);simp[<-hN]
   .have e4:¬(20:Int)<n:=by omega
    simp only[Bool.false_eq_true,if_false] at hN;rw[if_neg e3] at hN;have hwn:IntKind.i64.wrap (n:Int)=n:=wrap_in (by omega) (by omega)
    have hns:(n:Int)<=s.size:=by omega
    refine sC ?_;simp[e4];repeat first|simp[hwn,hns,hrl]|refine sR ?_
    refine sT (sH Hb Ht ?_);simp[<-hN]
 .rw[ed] at hd hrl hN;have el:letB (byteAt s 0)=false:=by
   have:=ed
   unfold digB at this;unfold letB;simp only[decide_eq_true_eq,decide_eq_false_iff_not] at this ⊢;omega
  rw[el] at hl;rw[if_pos (by simp)] at hN;have hr:=hr true;generalize runN (pd true) s 0=n at *;refine sI func261 ntmps261 fun Hb Ht=>?_
  repeat first|simp[h0,h0']|refine sR ?_
  rw[hb];refine sD (hl _ _) ?_;repeat first|simp|refine sR ?_
  refine sD (hd _ _) ?_;repeat first|simp|refine sR ?_
  refine sC ?_;repeat first|simp|refine sR ?_
  refine sD (hd _ _) ?_;repeat first|simp|refine sR ?_
  refine sD (hr _ _) ?_;repeat first|simp|refine sR ?_
  refine sD (hd _ _) ?_;repeat first|simp|refine sR ?_
  refine sC ?_;repeat first|simp|refine sR ?_
  by_cases e3:9<n
  .have e4:(9:Int)<n:=by omega
   simp only[if_true] at hN;rw[if_pos e3] at hN;refine sC ?_;simp[e4];repeat first|simp|refine sR ?_
   refine sT (sH Hb Ht ?_);simp[<-hN]
  .have e4:¬(9:Int)<n:=by omega
   simp only[if_true] at hN;rw[if_neg e3] at hN;have hwn:IntKind.i64.wrap (n:Int)=n:=wrap_in (by omega) (by omega)
   have hns:(n:Int)<=s.size:=by omega
   refine sC ?_;simp[e4];repeat first|simp[hwn,hns,hrl]|refine sR ?_
   refine sT (sH Hb Ht ?_);simp[<-hN]
theorem let_dig{c:Int}(h:letB c=true):digB c=false:=by
 unfold letB at h;unfold digB;simp only[decide_eq_true_eq,decide_eq_false_iff_not] at h ⊢;omega
theorem nameB_one{s:ByteArray}(h1:1<=s.size):((decide ((oneR s).2.2.2=0)&&decide ((oneR s).2.2.1=(s.size:Int)))&&decide ((oneR s).1=1))=nameB s:=by
 unfold nameB oneR;by_cases e1:letB (byteAt s 0)=true
 .have e2:=let_dig e1;rw[if_pos (.inl e1),e2,pd_false];simp only[Bool.false_eq_true,if_false];by_cases e3:20<runN parB s 0
  .rw[if_pos e3,Bool.eq_iff_iff];simp[e1];omega
  .rw[if_neg e3,Bool.eq_iff_iff];simp[e1];omega
 .have e1':letB (byteAt s 0)=false:=by simpa using e1
  rw[e1'];simp only[Bool.and_false,Bool.false_and];split
  .rename_i h;have hd:digB (byteAt s 0)=true:=h.resolve_left (by simp)
   rw[hd];simp only[if_true];split<;>simp
  .split
   .split
    .simp
    .split<;>simp
   .rcases sgnT_kind s signL with ⟨k1,_⟩|k1<;>simp[k1]
theorem text01_c(s:ByteArray):DC 260 [.agg [I 1,Sb s,I 0]] (Sb s):=by
 intro tok nt box nb;refine sI func260 ntmps260 fun Hb Ht=>?_
 repeat first|simp|refine sR ?_
 refine sC ?_;repeat first|simp|refine sR ?_
 refine sT (sH Hb Ht ?_);simp
theorem right01_c(s:ByteArray)(hs:s.size<=200000000000000):DC 215 [.agg [I 1,Sb s,I 0]] (B (nameB s)):=by
 intro tok nt box nb;have ht:=text01_c s;by_cases h0:s.size=0
 .have b0:(s.toList==(⟨#[]⟩:ByteArray).toList)=true:=by rw[empty_dec];simp[h0]
  have b1:s.toList=[]:=by simpa using b0
  have hn:nameB s=false:=by simp[nameB,h0]
  rw[hn];refine sI func215 ntmps215 fun Hb Ht=>?_
  repeat first|simp|refine sR ?_
  refine sD (ht _ _) ?_;repeat first|simp[b1]|refine sR ?_|refine sC ?_
  refine sT (sH Hb Ht ?_);simp
 .have b0:(s.toList==(⟨#[]⟩:ByteArray).toList)=false:=by rw[empty_dec];simp[h0]
  have b1:¬s.toList=[]:=by simpa using b0
  have hx:=one01_c s (by omega) hs;have hnb:=nameB_one (s:=s) (by omega);rw[<-hnb];generalize oneR s=N at *;refine sI func215 ntmps215 fun Hb Ht=>?_
  repeat first|simp|refine sR ?_
  refine sD (ht _ _) ?_;repeat first|simp[b1]|refine sR ?_|refine sC ?_
  refine sD (hx _ _) ?_;simp;by_cases f1:N.2.2.2=0
  .have g1:(N.2.2.2==0)=true:=by simp[f1]
   by_cases f3:N.2.2.1=(s.size:Int)
   .have g3:(N.2.2.1==(s.size:Int))=true:=by simp[f3]
    repeat first|simp[g1,g3]|refine sR ?_
    by_cases f2:N.1=1
    .have g2:(N.1==1)=true:=by simp[f2]
     refine sT (sH Hb Ht ?_);simp[f1,f2,f3,g2]
    .have g2:(N.1==1)=false:=by simp[f2]
     refine sT (sH Hb Ht ?_);simp[f1,f2,f3,g2]
   .have g3:(N.2.2.1==(s.size:Int))=false:=by simp[f3]
    repeat first|simp[g1,g3]|refine sR ?_
    refine sT (sH Hb Ht ?_);simp[f1,f3]
  .have g1:(N.2.2.2==0)=false:=by simp[f1]
   repeat first|simp[g1]|refine sR ?_
   refine sT (sH Hb Ht ?_);simp[f1]
theorem isName01_c(s:ByteArray)(hs:s.size<=200000000000000):DC 151 [Sb s] (B (nameB s)):=by
 intro tok nt box nb;have h:=right01_c s hs;refine sI func151 ntmps151 fun Hb Ht=>?_
 repeat first|simp|refine sR ?_
 refine sD (h _ _) ?_;repeat first|simp|refine sR ?_
 refine sT (sH Hb Ht ?_);simp
variable {P:Program}
def Trans(cx:Cx)(nt0:Nat)(S S':AS):Prop:=∀G0 w0 G a w,Entry cx nt0 G0->G0.nt<=nt0->RelS cx.n cx.nb G S a w->LeC cx G0 w0 G w S->∃G',RelS cx.n cx.nb G' S' a w/\LeC cx G0 w0 G' w S'
theorem AT.trans{cx:Cx}{nt0:Nat}{c:Code}{S S':AS}{K:Exit->AS->Prop}(h:Trans cx nt0 S S')(k:AT P cx nt0 c S' K):AT P cx nt0 c S K:=by
 intro G0 w0 he hn G a w hr hl;obtain⟨G',hr',hl'⟩:=h G0 w0 G a w he hn hr hl;exact k G0 w0 he hn G' a w hr' hl'
theorem AL.trans{cx:Cx}{nt0:Nat}{K:Exit->AS->Prop}{r:List CI}{S S':AS}{x:Code}(hw:Trans cx nt0 S S')(h:AL P cx nt0 K (.c x::r) S'):AL P cx nt0 K (.c x::r) S:=by
 simp only[AL] at h ⊢;exact AT.trans hw h
theorem AL.mid{cx:Cx}{nt0:Nat}{K:Exit->AS->Prop}{r:List CI}{S:AS}{x y:Code}(T:AS)(h1:AL P cx nt0 (fun e S'=>match e with
   | .normal=>Weaks cx nt0 S' T
   | e=>AU P cx nt0 K (.c y::r) e S') [.c x] S)(h2:AL P cx nt0 K (.c y::r) T):AL P cx nt0 K (.c x::.c y::r) S:=by
 have h3:=AL.start h1;simp only[AL] at h2 ⊢;refine h3.mono fun e S' h=>?_
 cases e with
 | normal=>exact AT.weaks h h2
 | _=>exact h
inductive ThTo (t k sz:Nat) (es:List (List D)):AV->AV->Prop
 | bot {x}:ThTo t k sz es x .bot
 | same {x}:ThTo t k sz es x x
 | ex:ThTo t k sz es (.ex t sz es) (.msl k 0 es.length sz)
 | agg {cs ds:List AV} (hl:cs.length=ds.length) (h:∀i (h1:i<cs.length) (h2:i<ds.length),ThTo t k sz es cs[i] ds[i]):ThTo t k sz es (.agg cs) (.agg ds)
def ThR(t k sz:Nat)(es:List (List D))(r r':List AV):Prop:=r.length=r'.length/\∀i (h1:i<r.length) (h2:i<r'.length),ThTo t k sz es r[i] r'[i]
def ThRs(t k sz:Nat)(es:List (List D))(r r':List (List AV)):Prop:=r.length=r'.length/\∀i (h1:i<r.length) (h2:i<r'.length),ThR t k sz es r[i] r'[i]
def ThL(t k sz:Nat)(es:List (List D)):List (Nat × AV)->List (Nat × AV)->Prop
 | [],[]=>True
 | (i,x)::a,(j,y)::b=>i=j/\ThTo t k sz es x y/\ThL t k sz es a b
 | _,_=>False
def ThB(t k sz:Nat)(es:List (List D)):List (Nat × List (List AV))->List (Nat × List (List AV))->Prop
 | [],[]=>True
 | (i,x)::a,(j,y)::b=>i=j/\ThRs t k sz es x y/\ThB t k sz es a b
 | _,_=>False
theorem ThL.at{t k sz:Nat}{es:List (List D)}:∀{l l':List (Nat × AV)},ThL t k sz es l l'->∀i,ThTo t k sz es (tl l i) (tl l' i)
 | [],[],_,i=>.same
 | (i,x)::a,(j,y)::b,h,q=>by
  obtain⟨rfl,h1,h2⟩:=h;rw[tl_cons,tl_cons];split
  .exact h1
  .exact ThL.at h2 q
 | [],_::_,h,_=>h.elim
 | _::_,[],h,_=>h.elim
theorem ThB.at{t k sz:Nat}{es:List (List D)}:∀{l l':List (Nat × List (List AV))},ThB t k sz es l l'->∀i,(lk l i=none/\lk l' i=none)∨∃r r',lk l i=some r/\lk l' i=some r'/\ThRs t k sz es r r'
 | [],[],_,i=>.inl ⟨rfl,rfl⟩
 | (i,x)::a,(j,y)::b,h,q=>by
  obtain⟨rfl,h1,h2⟩:=h;rw[lk_cons,lk_cons];split
  .exact .inr ⟨x,y,rfl,rfl,h1⟩
  .exact ThB.at h2 q
 | [],_::_,h,_=>h.elim
 | _::_,[],h,_=>h.elim
theorem ThRs.flat{t k sz:Nat}{es:List (List D)}:∀{r r':List (List AV)},ThRs t k sz es r r'->ThR t k sz es r.flatten r'.flatten
 | [],[],_=>⟨rfl,fun i h=>by simp at h⟩
 | x::a,y::b,h=>by
  have h0:=h.2 0 (by simp) (by simp);have ih:ThR t k sz es a.flatten b.flatten:=ThRs.flat ⟨by simpa using h.1,fun i h1 h2=>h.2 (i+1) (by simpa using h1) (by simpa using h2)⟩
  simp only[List.getElem_cons_zero] at h0;refine⟨by simp[h0.1,ih.1],fun i h1 h2=>?_⟩;have hl:=h0.1;have hi2:=ih.1;simp only[List.flatten_cons] at h1 h2 ⊢;rw[List.length_append] at h1 h2;by_cases hi:i<x.length
  .have e1:(x++a.flatten)[i]'(by rw[List.length_append];omega)=x[i]:=List.getElem_append_left hi
   have e2:(y++b.flatten)[i]'(by rw[List.length_append];omega)=y[i]'(by omega):=List.getElem_append_left (by omega)
   rw[e1,e2];exact h0.2 i hi _
  .have e1:(x++a.flatten)[i]'(by rw[List.length_append];omega)=a.flatten[i-x.length]'(by omega):=List.getElem_append_right (by omega)
   have e2:(y++b.flatten)[i]'(by rw[List.length_append];omega)=b.flatten[i-y.length]'(by omega):=List.getElem_append_right (by omega)
   rw[e1,e2];have:=ih.2 (i-x.length) (by omega) (by omega)
   simp only[hl] at this ⊢;exact this
 | [],_::_,h=>by have:=h.1;simp at this
 | _::_,[],h=>by have:=h.1;simp at this
theorem rowsD_flat(es:List (List D)):(rowsD es).flatten=es.flatten.map AV.d:=by
 induction es with
 | nil=>rfl
 | cons e es ih=>simp only[rowsD,List.map_cons,List.flatten_cons,List.map_append] at ih ⊢;rw[ih]
theorem Trans.thaw{cx:Cx}{nt0 nt:Nat}{l l':List (Nat × AV)}{out:Bxs}{loc loc':List (Nat × List (List AV))}{tok:Nat->Bool}(t s sz:Nat)(es:List (List D))(r:Nat)(hn:cx.nb=cx.base+cx.n)(hs:s<cx.n)(hk:lk loc s=none)(ht:tok t=true)(hr:tl l r=.ex t sz es)(hl:ThL t (cx.base+s) sz es l l')(hb:ThB t (cx.base+s) sz es loc loc'):
  Trans cx nt0 ⟨tl l,lb cx.base out loc,tok,nt⟩ ⟨tl l',lb cx.base out ((s,rowsD es)::loc'),upd tok t false,nt⟩:=by
 intro G0 w0 G a w he hn0 hS hL;have hm:=hS.mem;have hwit:=hS.tmps r;simp only at hwit;rw[hr] at hwit;have hex:∀{v:Value},RV G w (.ex t sz es) v->ExR G w t sz es v:=fun h=>by cases h with|ex h=>exact h
 obtain⟨hlt,x,hx⟩:=hm.toks t ht;obtain⟨_,_,hw2⟩:=hex hwit;obtain⟨g,cap,cs,e,rfl,_,hcap,hmax,hkind,hheap,hrow,hflat,hrd,hone⟩:=hw2 x hx;have hboxk:lb cx.base out loc (cx.base+s)=none:=by rw[lb_at];exact hk
 have hbxk:G.bx (cx.base+s)=none:=hm.nobox _ hboxk
 let G':Gh:={ bx:=upd G.bx (cx.base+s) (some (g,sz)),kind:=upd G.kind g .box,tk:=upd G.tk t none,nt:=G.nt }
 have hnb:∀{k b z},G.bx k=some (b,z)->b≠g:=fun h e=>by
  have:=(hm.blt h).2
  rw[e,hkind] at this;cases this
 have hntk:∀{q j},q≠t->G.tk q=some (some j)->j≠g:=fun hq h e=>by subst e;exact hq (hm.tinj _ _ _ h hx)
 have hle:Le G w G' w:=by
  refine⟨rfl,rfl,rfl,nr _,fun b _ hb=>⟨?_,rfl⟩,fun b f c hb=>⟨⟨f,nr _,?_⟩,fun _ _ _=>rfl⟩,fun k x hk=>?_,nr _,fun q _=>?_,fun _ _ _ _ h=>⟨_,_,h⟩⟩
  .simp only[G'];rw[uO _ _ (fun e=>by rw[e,hkind] at hb;cases hb)];exact hb
  .simp only[G'];rw[uO _ _ (fun e=>by rw[e,hkind] at hb;cases hb)];exact hb
  .simp only[G'];rw[uO _ _ (fun e=>by rw[e,hbxk] at hk;cases hk)];exact hk
  .by_cases hq:q=t
   .subst hq;exact .inl (by simp[G',uS])
   .refine .inr ⟨by simp only[G'];exact uO _ _ hq,fun j hj=>⟨?_,fun _=>rfl⟩⟩;simp only[G'];exact uO _ _ (hntk hq hj)
 have hto:∀{x y:AV} {v:Value},ThTo t (cx.base+s) sz es x y->RV G w x v->RV G' w y v:=by
  intro x y v hxy;induction hxy generalizing v with
  | bot=>exact fun _=>.bot
  | same=>exact fun h=>h.mono hle
  | ex =>
   intro h;obtain⟨_,_,h2⟩:=hex h;obtain⟨g',cap',cs',e',hg',hv,hc1,hc2,_⟩:=h2 _ hx;cases hg'
   rw[hv];have:=RV.msl (G:=G') (w:=w) (k:=cx.base+s) (off:=0) (n:=es.length) (b:=g) (sz:=sz) (cap:=cap') (by simp[G',uS]) hc1 hc2
   simpa using this
  | agg hl _ ih =>
   intro h;cases h with
   | agg hl' hh hone=>exact .agg (hl.symm.trans hl') (fun i h1 h2=>ih i (by omega) h1 (hh i (by omega) h2)) hone
 have hRVs:∀{xs ys:List AV} {vs:List Value},ThR t (cx.base+s) sz es xs ys->RVs G w xs vs->RVs G' w ys vs:=fun h hr=>⟨h.1.symm.trans hr.1,fun i h1 h2=>hto (h.2 i (by rw[h.1];exact h1) h1) (hr.2 i _ h2)⟩
 have hlt2:=heap_lt hheap;refine⟨G',⟨hS.defers,hS.size,fun i=>hto (hl.at i) (hS.tmps i),?_⟩,?_⟩
 .constructor
  case box =>
   intro k rows b z hk' hb';by_cases e1:k=cx.base+s
   .subst e1;simp only[lb_at,lk_cons,↓reduceIte,Option.some.injEq] at hk';simp only[G',uS,Option.some.injEq,Prod.mk.injEq] at hb';obtain⟨rfl,rfl⟩:=hb';subst hk';refine⟨by simp[G',uS],cs,e,hheap,fun q hq=>?_,?_,hone⟩
    .obtain⟨p,hp,rfl⟩:=List.mem_map.1 hq;simpa using hrow p hp
    .rw[rowsD_flat];refine⟨by rw[List.length_map];exact hflat,fun i h1 h2=>?_⟩;simp only[List.getElem_map];exact .d ((hrd i (by rw[List.length_map] at h1;exact h1) h2).mono hle.cells)
   .simp only[G'] at hb';rw[uO _ _ e1] at hb';have hold:∃rows0,lb cx.base out loc k=some rows0/\(rows0=rows∨ThRs t (cx.base+s) sz es rows0 rows):=by
     by_cases hkb:k<cx.base
     .refine⟨rows,?_,.inl rfl⟩;simp only at hk';rw[lO hkb] at hk' ⊢;exact hk'
     .have hkk:k=cx.base+(k-cx.base):=by omega
      simp only at hk';rw[hkk,lb_at] at hk' ⊢;rw[lk_cons,if_neg (by omega)] at hk';rcases hb.at (k-cx.base) with ⟨_,h2⟩|⟨r0,r',h1,h2,h3⟩
      .rw[h2] at hk';cases hk'
      .rw[h2] at hk';cases hk'
       exact⟨r0,h1,.inr h3⟩
    obtain⟨rows0,h1,h2⟩:=hold;obtain⟨g1,cs',e',g2,g3,g4,g5⟩:=hm.box k rows0 b z h1 hb';refine⟨by simp only[G'];rw[uO _ _ (hnb hb')];exact g1,cs',e',g2,?_,?_,g5⟩
    .rcases h2 with rfl|h2
     .exact g3
     .intro q hq;obtain⟨i,hi,rfl⟩:=List.getElem_of_mem hq;have hi0:i<rows0.length:=by rw[h2.1];exact hi
      rw[<-(h2.2 i hi0 hi).1];exact g3 _ (List.getElem_mem _)
    .rcases h2 with rfl|h2
     .exact g4.mono hle
     .exact hRVs h2.flat g4
  case nobox =>
   intro k hk';have hne:k≠cx.base+s:=fun e=>by subst e;simp[lb_at,lk_cons] at hk'
   simp only[G'];rw[uO _ _ hne];refine hm.nobox k ?_;simp only at hk' ⊢;by_cases hkb:k<cx.base
   .rw[lO hkb] at hk' ⊢;exact hk'
   .have hkk:k=cx.base+(k-cx.base):=by omega
    rw[hkk,lb_at] at hk' ⊢;rw[lk_cons,if_neg (by omega)] at hk';rcases hb.at (k-cx.base) with ⟨h1,_⟩|⟨r0,r',_,h2,_⟩
    .exact h1
    .rw[h2] at hk';cases hk'
  case inj =>
   intro j j' b z z' hj hj';simp only[G'] at hj hj';by_cases e1:j=cx.base+s<;>by_cases e2:j'=cx.base+s
   .exact e1.trans e2.symm
   .subst e1;rw[uS] at hj;rw[uO _ _ e2] at hj';cases hj;exact absurd rfl (hnb hj')
   .subst e2;rw[uS] at hj';rw[uO _ _ e1] at hj;cases hj'
    exact absurd rfl (hnb hj)
   .rw[uO _ _ e1] at hj;rw[uO _ _ e2] at hj';exact hm.inj j j' b z z' hj hj'
  case nb =>
   intro k hk';have h0:=hm.nb k hk';simp only at h0 ⊢;have hkb:¬k<cx.base:=by simp only at hk';omega
   have hkk:k=cx.base+(k-cx.base):=by omega
   rw[hkk,lb_at] at h0 ⊢;rw[lk_cons,if_neg (by simp only at hk';omega)];rcases hb.at (k-cx.base) with ⟨_,h2⟩|⟨r0,r',h1,_,_⟩
   .exact h2
   .rw[h1] at h0;cases h0
  case nt=>exact hm.nt
  case toks =>
   intro q hq;simp only at hq;by_cases e1:q=t
   .subst e1;simp[uS] at hq
   .rw[uO _ _ e1] at hq;obtain⟨h1,y,h2⟩:=hm.toks q hq;exact⟨h1,y,by simp only[G'];rw[uO _ _ e1];exact h2⟩
  case tokb =>
   intro q j hq;simp only[G'] at hq;by_cases e1:q=t
   .subst e1;simp[uS] at hq
   .rw[uO _ _ e1] at hq;obtain⟨f,cur,e',g1,g2⟩:=hm.tokb q j hq;refine⟨f,cur,e',?_,g2⟩;simp only[G'];rw[uO _ _ (hntk e1 hq)];exact g1
  case tinj =>
   intro q q' j hq hq';simp only[G'] at hq hq';by_cases e1:q=t
   .subst e1;simp[uS] at hq
   .by_cases e2:q'=t
    .subst e2;simp[uS] at hq'
    .rw[uO _ _ e1] at hq;rw[uO _ _ e2] at hq';exact hm.tinj q q' j hq hq'
  case tnt =>
   intro q y hq;simp only[G'] at hq ⊢;by_cases e1:q=t
   .subst e1;simp[uS] at hq
   .rw[uO _ _ e1] at hq;exact hm.tnt q y hq
  case fresh =>
   intro b hb';simp only[G'];rw[uO _ _ (by omega)];exact hm.fresh b hb'
 .refine hL.step ⟨hle,fun k hkb hg=>⟨?_,?_⟩⟩
  .simp only[G'];rw[uO _ _ (by omega)];exact hg
  .simp only;rw[lO hkb,lO hkb]
inductive SeTo (t k sz:Nat) (es:List (List D)):AV->AV->Prop
 | bot {x}:SeTo t k sz es x .bot
 | same {x} (h:OkIn (· ≠ k) (fun _=>True) x):SeTo t k sz es x x
 | msl:SeTo t k sz es (.msl k 0 es.length sz) (.ex t sz es)
 | agg {cs ds:List AV} (hl:cs.length=ds.length) (h:∀i (h1:i<cs.length) (h2:i<ds.length),SeTo t k sz es cs[i] ds[i]):SeTo t k sz es (.agg cs) (.agg ds)
def SeR(t k sz:Nat)(es:List (List D))(r r':List AV):Prop:=r.length=r'.length/\∀i (h1:i<r.length) (h2:i<r'.length),SeTo t k sz es r[i] r'[i]
def SeRs(t k sz:Nat)(es:List (List D))(r r':List (List AV)):Prop:=r.length=r'.length/\∀i (h1:i<r.length) (h2:i<r'.length),SeR t k sz es r[i] r'[i]
def SeL(t k sz:Nat)(es:List (List D)):List (Nat × AV)->List (Nat × AV)->Prop
 | [],[]=>True
 | (i,x)::a,(j,y)::b=>i=j/\SeTo t k sz es x y/\SeL t k sz es a b
 | _,_=>False
def SeB(t k sz:Nat)(es:List (List D)):List (Nat × List (List AV))->List (Nat × List (List AV))->Prop
 | [],[]=>True
 | (i,x)::a,(j,y)::b=>i=j/\SeRs t k sz es x y/\SeB t k sz es a b
 | _,_=>False
theorem SeL.at{t k sz:Nat}{es:List (List D)}:∀{l l':List (Nat × AV)},SeL t k sz es l l'->∀i,SeTo t k sz es (tl l i) (tl l' i)
 | [],[],_,i=>.bot
 | (i,x)::a,(j,y)::b,h,q=>by
  obtain⟨rfl,h1,h2⟩:=h;rw[tl_cons,tl_cons];split
  .exact h1
  .exact SeL.at h2 q
 | [],_::_,h,_=>h.elim
 | _::_,[],h,_=>h.elim
theorem SeB.at{t k sz:Nat}{es:List (List D)}:∀{l l':List (Nat × List (List AV))},SeB t k sz es l l'->∀i,(lk l i=none/\lk l' i=none)∨∃r r',lk l i=some r/\lk l' i=some r'/\SeRs t k sz es r r'
 | [],[],_,i=>.inl ⟨rfl,rfl⟩
 | (i,x)::a,(j,y)::b,h,q=>by
  obtain⟨rfl,h1,h2⟩:=h;rw[lk_cons,lk_cons];split
  .exact .inr ⟨x,y,rfl,rfl,h1⟩
  .exact SeB.at h2 q
 | [],_::_,h,_=>h.elim
 | _::_,[],h,_=>h.elim
theorem SeRs.flat{t k sz:Nat}{es:List (List D)}:∀{r r':List (List AV)},SeRs t k sz es r r'->SeR t k sz es r.flatten r'.flatten
 | [],[],_=>⟨rfl,fun i h=>by simp at h⟩
 | x::a,y::b,h=>by
  have h0:=h.2 0 (by simp) (by simp);have ih:SeR t k sz es a.flatten b.flatten:=SeRs.flat ⟨by simpa using h.1,fun i h1 h2=>h.2 (i+1) (by simpa using h1) (by simpa using h2)⟩
  simp only[List.getElem_cons_zero] at h0;refine⟨by simp[h0.1,ih.1],fun i h1 h2=>?_⟩;have hl:=h0.1;have hi2:=ih.1;simp only[List.flatten_cons] at h1 h2 ⊢;rw[List.length_append] at h1 h2;by_cases hi:i<x.length
  .have e1:(x++a.flatten)[i]'(by rw[List.length_append];omega)=x[i]:=List.getElem_append_left hi
   have e2:(y++b.flatten)[i]'(by rw[List.length_append];omega)=y[i]'(by omega):=List.getElem_append_left (by omega)
   rw[e1,e2];exact h0.2 i hi _
  .have e1:(x++a.flatten)[i]'(by rw[List.length_append];omega)=a.flatten[i-x.length]'(by omega):=List.getElem_append_right (by omega)
   have e2:(y++b.flatten)[i]'(by rw[List.length_append];omega)=b.flatten[i-y.length]'(by omega):=List.getElem_append_right (by omega)
   rw[e1,e2];have:=ih.2 (i-x.length) (by omega) (by omega)
   simp only[hl] at this ⊢;exact this
 | [],_::_,h=>by have:=h.1;simp at this
 | _::_,[],h=>by have:=h.1;simp at this
theorem Trans.seal{cx:Cx}{nt0 nt:Nat}{l l':List (Nat × AV)}{out:Bxs}{loc loc':List (Nat × List (List AV))}{tok:Nat->Bool}(s sz:Nat)(es:List (List D))(r:Nat)(ho:out=cx.B0)(hnt:nt0<=nt)(hsz:∀e∈es,e.length=sz)(hr:tl l r=.msl (cx.base+s) 0 es.length sz)(hk':lk loc' s=none)(hl:SeL nt (cx.base+s) sz es l l')(hb:SeB nt (cx.base+s) sz es loc loc'):
  Trans cx nt0 ⟨tl l,lb cx.base out ((s,rowsD es)::loc),tok,nt⟩ ⟨tl l',lb cx.base out loc',upd tok nt true,nt+1⟩:=by
 intro G0 w0 G a w he hn0 hS hL;have hm:=hS.mem;have hgnt:G.nt=nt:=hm.nt
 have hwit:=hS.tmps r;simp only at hwit;rw[hr] at hwit;obtain⟨b,hbk⟩:∃b,G.bx (cx.base+s)=some (b,sz):=by
  generalize hq:(AV.msl (cx.base+s) 0 es.length sz)=q at hwit;generalize a.tmps.getD r undef=v0 at hwit;cases hwit with
  | msl h1 h2 h3=>cases hq;exact⟨_,h1⟩
  | _=>cases hq
 have hboxk:lb cx.base out ((s,rowsD es)::loc) (cx.base+s)=some (rowsD es):=by rw[lb_at,lk_cons,if_pos rfl]
 obtain⟨hkind,cs,e,hheap,hrows,hR,hone⟩:=hm.box _ _ b sz hboxk hbk
 let G1:Gh:={ bx:=G.bx,kind:=upd G.kind b .ex,tk:=upd G.tk G.nt (some (some b)),nt:=G.nt+1 }
 let G':Gh:={ bx:=upd G.bx (cx.base+s) none,kind:=upd G.kind b .ex,tk:=upd G.tk G.nt (some (some b)),nt:=G.nt+1 }
 have hne:∀{q j},G.tk q=some (some j)->j≠b:=fun h e=>by
  obtain⟨f,cur,e',h1,_⟩:=hm.tokb _ _ h;rw[e,hkind] at h1;rcases h1 with h1|h1<;>cases h1
 have hle:Le G w G1 w:=by
  refine⟨rfl,rfl,rfl,nr _,fun b' _ hb'=>⟨?_,rfl⟩,fun b' f c hb'=>⟨⟨f,nr _,?_⟩,fun _ _ _=>rfl⟩,fun k x hk=>hk,Nat.le_succ _,fun q hq=>?_,fun _ _ _ _ h=>⟨_,_,h⟩⟩
  .simp only[G1];rw[uO _ _ (fun e=>by rw[e,hkind] at hb';cases hb')];exact hb'
  .simp only[G1];rw[uO _ _ (fun e=>by rw[e,hkind] at hb';cases hb')];exact hb'
  .refine .inr ⟨by simp only[G1];exact uO _ _ (by omega),fun j hj=>⟨?_,fun _=>rfl⟩⟩;simp only[G1];exact uO _ _ (hne hj)
 have hcells:∀(q:Addr) (u:Value),G.ps q->w.cell? q=some u->G'.ps q/\w.cell? q=some u:=fun q u h1 h2=>hle.cells q u h1 h2
 -- what does not speak of the box
 have hok:∀{x:AV} {v:Value},OkIn (· ≠ cx.base+s) (fun _=>True) x->RV G w x v->RV G' w x v:=by
  intro x v hx h;have h1:=h.mono hle;clear h;induction h1 with
  | bot=>exact .bot
  | d h2=>exact .d h2
  | osl h2 h3=>exact .osl h2 h3
  | ptr h2=>cases hx with|ptr hp=>exact .ptr (by simp only[G'];rw[uO _ _ hp];exact h2)
  | buf h2 h3 h4 h5=>exact .buf h2 h3 h4 h5
  | here h2 h3=>cases hx with|here hp=>exact .here (by simp only[G'];rw[uO _ _ hp];exact h2) h3
  | cptr q u hc hr=>exact .cptr q u hc hr
  | msl h2 h3 h4=>cases hx with|msl hp=>exact .msl (by simp only[G'];rw[uO _ _ hp];exact h2) h3 h4
  | fn hl _ ih=>cases hx with|fn hp=>exact .fn hl fun i h1 h2=>ih i h1 h2 (hp _ (List.getElem_mem h1))
  | agg hl _ hone ih=>cases hx with|agg hp=>exact .agg hl (fun i h1 h2=>ih i h1 h2 (hp _ (List.getElem_mem h1))) hone
  | tup hl _ ih=>cases hx with|tup hp=>exact .tup hl fun i h1 h2=>ih i h1 h2 (hp _ (List.getElem_mem h1))
  | ex h2=>exact .ex h2
  | stk h2=>exact .stk h2
 have hto:∀{x y:AV} {v:Value},SeTo nt (cx.base+s) sz es x y->RV G w x v->RV G' w y v:=by
  intro x y v hxy;induction hxy generalizing v with
  | bot=>exact fun _=>.bot
  | same h=>exact hok h
  | msl =>
   intro h;generalize hq:(AV.msl (cx.base+s) 0 es.length sz)=q at h;cases h with
   | msl h1 h2 h3 =>
    cases hq;rw[hbk] at h1;cases h1;refine .ex ⟨by simp only[G'];omega,⟨_,_,_,rfl⟩,fun x hx=>?_⟩;simp only[G',<-hgnt,uS,Option.some.injEq] at hx;subst hx;rw[rowsD_flat] at hR;have hlen:es.flatten.length=cs.toList.length:=by have:=hR.1;rw[List.length_map] at this;exact this
    refine⟨b,_,cs,e,rfl,by simp,h2,h3,by simp[G',uS],hheap,hsz,hlen,fun i g1 g2=>?_,hone⟩;have h5:=hR.2 i (by rw[List.length_map];exact g1) g2;simp only[List.getElem_map] at h5;cases h5 with
    | d h6=>exact h6.mono hcells
   | _=>cases hq
  | agg hl _ ih =>
   intro h;cases h with
   | agg hl' hh hone=>exact .agg (hl.symm.trans hl') (fun i h1 h2=>ih i (by omega) h1 (hh i (by omega) h2)) hone
 have hRVs:∀{xs ys:List AV} {vs:List Value},SeR nt (cx.base+s) sz es xs ys->RVs G w xs vs->RVs G' w ys vs:=fun h hr=>⟨h.1.symm.trans hr.1,fun i h1 h2=>hto (h.2 i (by rw[h.1];exact h1) h1) (hr.2 i _ h2)⟩
 refine⟨G',⟨hS.defers,hS.size,fun i=>hto (hl.at i) (hS.tmps i),?_⟩,?_,?_⟩
 .constructor
  case box =>
   intro k rows b' z hk hb';have e1:k≠cx.base+s:=fun e=>by
    subst e;simp only at hk;rw[lb_at,hk'] at hk;cases hk
   simp only[G'] at hb';rw[uO _ _ e1] at hb';have hbne:b'≠b:=fun e=>by subst e;exact e1 (hm.inj _ _ _ _ _ hb' hbk)
   by_cases hkb:k<cx.base
   .simp only at hk;rw[lO hkb] at hk;obtain⟨g1,cs',e',g2,g3,g4,g5⟩:=hm.box k rows b' z (by simp only;rw[lO hkb];exact hk) hb';refine⟨by simp only[G'];rw[uO _ _ hbne];exact g1,cs',e',g2,g3,⟨g4.1,fun i h1 h2=>?_⟩,g5⟩;have hmem:rows.flatten[i]∈rows.flatten:=List.getElem_mem _
    obtain⟨q,hq,hxq⟩:=List.mem_flatten.1 hmem;have hG0:G0.bx k≠none:=by rw[<-hL.1.bx k hkb,hb'];simp
    have:=he k rows hkb (by rw[<-ho];exact hk) hG0 q hq _ hxq
    exact hok (this.imp (fun j hj=>by omega) fun _ _=>trivial) (g4.2 i h1 h2)
   .have hkk:k=cx.base+(k-cx.base):=by omega
    simp only at hk;rw[hkk,lb_at] at hk;rcases hb.at (k-cx.base) with ⟨_,h2⟩|⟨r0,r',h1,h2,h3⟩
    .rw[h2] at hk;cases hk
    .rw[h2] at hk;cases hk;obtain⟨g1,cs',e',g2,g3,g4,g5⟩:=hm.box k r0 b' z (by simp only;rw[hkk,lb_at,lk_cons,if_neg (by omega)];exact h1) hb';refine⟨by simp only[G'];rw[uO _ _ hbne];exact g1,cs',e',g2,fun q hq=>?_,hRVs h3.flat g4,g5⟩;obtain⟨i,hi,rfl⟩:=List.getElem_of_mem hq;have hi0:i<r0.length:=by rw[h3.1];exact hi
     rw[<-(h3.2 i hi0 hi).1];exact g3 _ (List.getElem_mem _)
  case nobox =>
   intro k hk;simp only[G'];by_cases e1:k=cx.base+s
   .subst e1;simp[uS]
   .rw[uO _ _ e1];refine hm.nobox k ?_;simp only at hk ⊢;by_cases hkb:k<cx.base
    .rw[lO hkb] at hk ⊢;exact hk
    .have hkk:k=cx.base+(k-cx.base):=by omega
     rw[hkk,lb_at] at hk ⊢;rw[lk_cons,if_neg (by omega)];rcases hb.at (k-cx.base) with ⟨h1,_⟩|⟨r0,r',_,h2,_⟩
     .exact h1
     .rw[h2] at hk;cases hk
  case inj =>
   intro j j' b' z z' hj hj';simp only[G'] at hj hj';by_cases e1:j=cx.base+s
   .subst e1;simp[uS] at hj
   .by_cases e2:j'=cx.base+s
    .subst e2;simp[uS] at hj'
    .rw[uO _ _ e1] at hj;rw[uO _ _ e2] at hj';exact hm.inj j j' b' z z' hj hj'
  case nb =>
   intro k hk;have h0:=hm.nb k hk;simp only at h0 ⊢;by_cases hkb:k<cx.base
   .rw[lO hkb] at h0 ⊢;exact h0
   .have hkk:k=cx.base+(k-cx.base):=by omega
    rw[hkk,lb_at] at h0 ⊢;by_cases e1:k-cx.base=s
    .rw[e1];exact hk'
    .rw[lk_cons,if_neg e1] at h0;rcases hb.at (k-cx.base) with ⟨_,h2⟩|⟨r0,r',h1,_,_⟩
     .exact h2
     .rw[h1] at h0;cases h0
  case nt=>simp only[G'];rw[hgnt]
  case toks =>
   intro q hq;simp only at hq;by_cases e1:q=nt
   .subst e1;exact⟨Nat.lt_succ_self _,_,by simp only[G'];rw[hgnt,uS]⟩
   .rw[uO _ _ e1] at hq;obtain⟨h1,y,h2⟩:=hm.toks q hq;exact⟨Nat.lt_succ_of_lt h1,y,by simp only[G'];rw[hgnt,uO _ _ e1];exact h2⟩
  case tokb =>
   intro q j hq;simp only[G'] at hq;by_cases e1:q=G.nt
   .subst e1;rw[uS] at hq;cases hq;exact⟨0,cs,e,.inr (by simp[G',uS]),hheap⟩
   .rw[uO _ _ e1] at hq;obtain⟨f,cur,e',g1,g2⟩:=hm.tokb q j hq;refine⟨f,cur,e',?_,g2⟩;simp only[G'];rw[uO _ _ (hne hq)];exact g1
  case tinj =>
   intro q q' j hq hq';simp only[G'] at hq hq';by_cases e1:q=G.nt<;>by_cases e2:q'=G.nt
   .exact e1.trans e2.symm
   .subst e1;rw[uS] at hq;rw[uO _ _ e2] at hq';cases hq;exact absurd rfl (hne hq')
   .subst e2;rw[uS] at hq';rw[uO _ _ e1] at hq;cases hq'
    exact absurd rfl (hne hq)
   .rw[uO _ _ e1] at hq;rw[uO _ _ e2] at hq';exact hm.tinj q q' j hq hq'
  case tnt =>
   intro q y hq;simp only[G'] at hq ⊢;by_cases e1:q=G.nt
   .omega
   .rw[uO _ _ e1] at hq;have:=hm.tnt q y hq
    omega
  case fresh =>
   intro b' hb';have:=heap_lt hheap
   simp only[G'];rw[uO _ _ (by omega)];exact hm.fresh b' hb'
 .refine hL.1.trans ⟨rfl,rfl,rfl,nr _,hle.whole,hle.part,fun k hk=>?_,hle.nt,hle.tk,hle.ty⟩;simp only[G'];exact uO _ _ (by omega)
 .intro k hkb hg;have:=hL.2 k hkb hg
  simp only at this ⊢;rw[lO hkb] at this ⊢;exact this
section
variable {t k sz:Nat} {es:List (List D)}
@[simp] theorem thTo_bot(x:AV):ThTo t k sz es x .bot:=.bot
@[simp] theorem thTo_same(x:AV):ThTo t k sz es x x:=.same
@[simp] theorem thTo_ex{n:Nat}:ThTo t k sz es (.ex t sz es) (.msl k 0 n sz)↔n=es.length:=⟨fun h=>by cases h;rfl,fun h=>by subst h;exact .ex⟩
@[simp] theorem seTo_bot(x:AV):SeTo t k sz es x .bot:=.bot
@[simp] theorem seTo_d(x:D):SeTo t k sz es (.d x) (.d x):=.same .d
@[simp] theorem seTo_osl(n:Nat)(xs:List (List D))(o:Own):SeTo t k sz es (.osl n xs o) (.osl n xs o):=.same (.osl fun _ _=>trivial)
@[simp] theorem seTo_msl:SeTo t k sz es (.msl k 0 es.length sz) (.ex t sz es):=.msl
end
@[simp] theorem to_ex{p:Nat->Prop}{fz:Option (Nat × Nat × List (List D))}(t sz:Nat)(es:List (List D)):To p (fun _=>True) fz (.ex t sz es) (.ex t sz es):=.same (.ex trivial)
@[simp] theorem okIn_ex{p q:Nat->Prop}{t sz:Nat}{es:List (List D)}:OkIn p q (.ex t sz es)↔q t:=⟨fun h=>by cases h;assumption,.ex⟩
theorem u64_in{n:Int}(h0:0<=n)(h1:n<=18446744073709551615):IntKind.u64.wrap n=n:=by
 exact IntWalk.u64_in n ⟨h0,h1⟩
@[simp] theorem rowsI_tail(l:List Int):(rowsI l).tail=rowsI l.tail:=by simp[rowsI]
structure Sl where
 a:Int
 b:Int
 c:Int
 d:Int
 deriving DecidableEq,Inhabited
structure Te where
 k:Int
 a:Int
 b:Int
 c:Int
 d:Int
 deriving DecidableEq,Inhabited
abbrev Sl.cells(s:Sl):List D:=[.raw (.int .i64 s.a),.raw (.int .i64 s.b),.raw (.int .i64 s.c),.raw (.int .i64 s.d)]
abbrev Te.cells(t:Te):List D:=[.raw (.int .i64 t.k),.raw (.int .i64 t.a),.raw (.int .i64 t.b),.raw (.int .i64 t.c),.raw (.int .i64 t.d)]
abbrev slots(l:List Sl):D:=.sl 4 (l.map Sl.cells)
abbrev tests(l:List Te):D:=.sl 5 (l.map Te.cells)
inductive Cd where
 | mk (kind:Int) (kids:List Cd) (m:Mo) (g:Gr) (sl:List Sl) (vars:Int) (te:List Te)
def Cd.kind:Cd->Int|.mk k _ _ _ _ _ _=>k
def Cd.kids:Cd->List Cd|.mk _ c _ _ _ _ _=>c
def Cd.m:Cd->Mo|.mk _ _ m _ _ _ _=>m
def Cd.g:Cd->Gr|.mk _ _ _ g _ _ _=>g
def Cd.sl:Cd->List Sl|.mk _ _ _ _ s _ _=>s
def Cd.vars:Cd->Int|.mk _ _ _ _ _ v _=>v
def Cd.te:Cd->List Te|.mk _ _ _ _ _ _ t=>t
mutual
def Cd.cells:Cd->List D
 | .mk k c m g s v t=>[.raw (.int .i64 k),.sl 9 (Cd.rows c),ints m.nodes,ints m.edges,ints g.nodes,AM.edges g.edges,slots s,.raw (.int .i64 v),tests t]
def Cd.rows:List Cd->List (List D)
 | []=>[]
 | x::r=>Cd.cells x::Cd.rows r
end
theorem Cd.rows_map:∀l:List Cd,Cd.rows l=l.map Cd.cells
 | []=>by simp[Cd.rows]
 | x::r=>by simp[Cd.rows,Cd.rows_map r]
theorem Cd.cells_eq(c:Cd):c.cells=[.raw (.int .i64 c.kind),.sl 9 (c.kids.map Cd.cells),ints c.m.nodes,ints c.m.edges,ints c.g.nodes,AM.edges c.g.edges,slots c.sl,.raw (.int .i64 c.vars),tests c.te]:=by
 cases c;simp[Cd.cells,Cd.rows_map,Cd.kind,Cd.kids,Cd.m,Cd.g,Cd.sl,Cd.vars,Cd.te]
abbrev conds(l:List Cd):D:=.sl 9 (l.map Cd.cells)
abbrev Cd.row(c:Cd):List AV:=[I c.kind,.d (conds c.kids),.d (ints c.m.nodes),.d (ints c.m.edges),.d (ints c.g.nodes),.d (AM.edges c.g.edges),.d (slots c.sl),I c.vars,.d (tests c.te)]
abbrev Cd.av(c:Cd):AV:=.agg c.row
theorem Cd.kid_lt{c x:Cd}(h:x∈c.kids):SizeOf.sizeOf x<SizeOf.sizeOf c:=by
 cases c;simp only[Cd.kids] at h;have:=List.sizeOf_lt_of_mem h
 simp only[Cd.mk.sizeOf_spec];omega
def bigN:Nat:=100000000000000
theorem bigN_eq:bigN=100000000000000:=rfl
def kidN:Nat:=764877654105
theorem kidN_eq:kidN=764877654105:=rfl
inductive Cd.Big:Cd->Prop
 | mk {c:Cd} (hk:c.kids.length<=kidN) (hmn:c.m.nodes.length<=bigN) (hme:c.m.edges.length<=bigN) (hgn:c.g.nodes.length<=bigN) (hge:c.g.edges.length<=bigN) (hs:c.sl.length<=bigN) (ht:c.te.length<=bigN)
   (h:∀x∈c.kids,Cd.Big x):Cd.Big c
theorem Cd.Big.kids{c:Cd}(h:c.Big):c.kids.length<=kidN:=by cases h;assumption
theorem Cd.Big.kid{c:Cd}(h:c.Big):∀x∈c.kids,Cd.Big x:=by cases h;assumption
def measStep(f:Cd->Int × Int)(a:Int × Int)(k:Cd):Int × Int:=(IntKind.i64.wrap (a.1+(f k).1),max a.2 (f k).2)
mutual
def Cd.meas:Cd->Int × Int
 | .mk k c _ _ _ _ _=>let a:=Cd.measL c (1,0);if k=5 then (a.1,IntKind.i64.wrap (a.2+1)) else a
def Cd.measL:List Cd->Int × Int->Int × Int
 | [],a=>a
 | x::r,a=>Cd.measL r (IntKind.i64.wrap (a.1+(Cd.meas x).1),max a.2 (Cd.meas x).2)
end
theorem Cd.measL_eq:∀(l:List Cd) (a:Int × Int),Cd.measL l a=l.foldl (measStep Cd.meas) a
 | [],a=>by simp[Cd.measL]
 | x::r,a=>by simp[Cd.measL,Cd.measL_eq r,measStep]
def measK(l:List Cd)(i:Nat):Int × Int:=(l.take i).foldl (measStep Cd.meas) (1,0)
theorem measK_zero(l:List Cd):measK l 0=(1,0):=by simp[measK]
theorem measK_succ(l:List Cd){i:Nat}(h:i<l.length):measK l (i+1)=(IntKind.i64.wrap ((measK l i).1+(Cd.meas l[i]).1),max (measK l i).2 (Cd.meas l[i]).2):=by
 simp only[measK,List.take_succ_eq_append_getElem h,List.foldl_append,List.foldl_cons,List.foldl_nil,measStep]
theorem Cd.meas_eq(c:Cd):c.meas=if c.kind=5 then ((measK c.kids c.kids.length).1,IntKind.i64.wrap ((measK c.kids c.kids.length).2+1)) else measK c.kids c.kids.length:=by
 cases c;simp[Cd.meas,Cd.kind,Cd.kids,measK,Cd.measL_eq]
theorem Cd.get{l:List Cd}{i:Nat}(h:i<l.length):(l.map Cd.cells)[i]?=some [.raw (.int .i64 l[i].kind),conds l[i].kids,ints l[i].m.nodes,ints l[i].m.edges,ints l[i].g.nodes,AM.edges l[i].g.edges,slots l[i].sl,.raw (.int .i64 l[i].vars),tests l[i].te]:=by
 simp[h,Cd.cells_eq l[i]]
def stMe(c:Cd)(nb:Nat)(box:Bxs)(tok:Tks)(nt:Nat)(i:Nat):AS :=
 ⟨tl [(11,.d (conds c.kids)),(12,I c.kids.length),(13,I i),(4,I (measK c.kids i).1),(5,I (measK c.kids i).2),(1,.ptr (nb+1) 0 0)],lb nb box [(1,[c.row])],tok,nt⟩
theorem measure_c:∀(n:Nat) (c:Cd),SizeOf.sizeOf c<n->c.Big->∀(tok:Tks) (nt:Nat),DCall prog 191 [c.av] tok nt (.tup [I c.meas.1,I c.meas.2]) tok nt
 | 0,c,hn,_,tok,nt=>absurd hn (Nat.not_lt_zero _)
 | n+1,c,hn,hb,tok,nt=>by
  intro box nb;have ih:=fun x (hx:x∈c.kids)=>measure_c n x (by have:=Cd.kid_lt hx;omega) (hb.kid x hx)
  have hkb:=hb.kids;rw[kidN_eq] at hkb;have hR:=c.meas_eq;refine sI func191 ntmps191 fun Hb Ht=>?_
  refine sR ?_;simp;refine sR ?_;simp;refine sR ?_;simp;refine sN ?_;refine sL (stMe c nb box tok nt) (fun i=>i<=c.kids.length) (fun i=>c.kids.length-i) 0 (Nat.zero_le _) (wM (nr _) rfl (by simp[ToL,lk,measK_zero]) (by simp[BoxL,lk])) ?_;rintro i S hi hS;simp only[stMe] at hS;subst hS;have hw:=sW (i:=i) (by omega);refine sR ?_;simp;refine sC ?_;simp;refine⟨fun hlt=>?_,fun hge=>?_⟩
  .have hS:=measK_succ c.kids hlt;have ihx:=ih _ (List.getElem_mem hlt);refine sR ?_;simp[hlt,Cd.cells_eq];generalize c.kids[i]=x at *;refine sR ?_;simp;refine sD (ihx _ _) ?_;simp;refine sR ?_;simp;refine sR ?_;simp[hw];refine sE ?_;exact⟨i+1,hlt,by omega,wM (nr _) rfl (by simp[ToL,lk,hS]) (by simp[BoxL,lk])⟩
  .refine sX ?_;simp only[AU,↓reduceIte];have:i=c.kids.length:=by omega
   subst this;refine sR ?_;simp;by_cases h5:c.kind=5
   .have hb5:(c.kind==5)=true:=by simp[h5]
    simp only[hb5];refine sC ?_;simp;refine sR ?_;simp;refine sR ?_;simp;refine sT (sH Hb Ht ?_);simp[hR,h5]
   .have hb5:(c.kind==5)=false:=by simp[h5]
    simp only[hb5];refine sC ?_;simp;refine sR ?_;simp;refine sT (sH Hb Ht ?_);simp[hR,h5]
def z0(n:Int):Bool:=n==0
theorem z0_eq(n:Int):(n==0)=z0 n:=rfl
def plainC(c:Cd):Bool:=z0 c.sl.length&&(z0 c.vars&&z0 c.te.length)
def unusedC(c:Cd):Bool:=z0 c.m.nodes.length&&(z0 c.m.edges.length&&(z0 c.g.nodes.length&&(z0 c.g.edges.length&&plainC c)))
def okC(c:Cd):Bool :=
 if c.kind=1 then z0 c.kids.length&&unusedC c
 else if c.kind=2 then decide ((c.kids.length:Int)=1)&&unusedC c
 else if c.kind=3∨c.kind=4 then decide (0<c.kids.length)&&unusedC c
 else if c.kind=5 then decide ((c.kids.length:Int)=1)
 else false
def shapeC(c:Cd):Int:=if okC c=true then if plainC c=true then 0 else 8 else 1
theorem plain_c(c:Cd):DC 248 [.agg [.d (ints c.g.nodes),.d (AM.edges c.g.edges),.d (slots c.sl),I c.vars,.d (tests c.te)]] (B (plainC c)):=by
 intro tok nt box nb;refine sI func248 ntmps248 fun Hb Ht=>?_
 refine sR ?_;simp;cases h1:z0 c.sl.length
 .refine sR ?_;simp[z0_eq,h1];refine sT (sH Hb Ht ?_);simp[plainC,h1]
 .cases h2:z0 c.vars
  .refine sR ?_;simp[z0_eq,h1,h2];refine sT (sH Hb Ht ?_);simp[plainC,h1,h2]
  .refine sR ?_;simp[z0_eq,h1,h2];refine sT (sH Hb Ht ?_);simp[plainC,h1,h2]
theorem unused_c(c:Cd):DC 247 [c.av] (B (unusedC c)):=by
 intro tok nt box nb;refine sI func247 ntmps247 fun Hb Ht=>?_
 refine sR ?_;simp;cases h1:z0 c.m.nodes.length
 .refine sR ?_;simp[z0_eq,h1];refine sT (sH Hb Ht ?_);simp[unusedC,h1]
 .cases h2:z0 c.m.edges.length
  .refine sR ?_;simp[z0_eq,h1,h2];refine sT (sH Hb Ht ?_);simp[unusedC,h1,h2]
  .cases h3:z0 c.g.nodes.length
   .refine sR ?_;simp[z0_eq,h1,h2,h3];refine sT (sH Hb Ht ?_);simp[unusedC,h1,h2,h3]
   .cases h4:z0 c.g.edges.length
    .refine sR ?_;simp[z0_eq,h1,h2,h3,h4];refine sT (sH Hb Ht ?_);simp[unusedC,h1,h2,h3,h4]
    .refine sR ?_;simp[z0_eq,h1,h2,h3,h4];refine sD (plain_c c _ _) ?_;simp;refine sT (sH Hb Ht ?_);simp[unusedC,h1,h2,h3,h4]
theorem shape_c(c:Cd):DC 190 [c.av] (I (shapeC c)):=by
 intro tok nt box nb;refine sI func190 ntmps190 fun Hb Ht=>?_
 refine sR ?_;simp;refine sR ?_;simp;refine sR ?_;simp;refine AL.mid ⟨tl [(3,B (okC c)),(1,.ptr (nb+1) 0 0),(2,I 0)],lb nb box [(1,[c.row])],tok,nt⟩ ?_ ?_
 .by_cases k1:c.kind=1
  .refine sR ?_;simp[k1];refine sC ?_;simp;cases h1:z0 c.kids.length
   .refine sR ?_;simp[z0_eq,h1];refine sE ?_;exact wM (nr _) rfl (by simp[ToL,lk,okC,k1,h1]) (by simp[BoxL,lk])
   .refine sR ?_;simp[z0_eq,h1];refine sD (unused_c c _ _) ?_;simp;refine sE ?_;exact wM (nr _) rfl (by simp[ToL,lk,okC,k1,h1]) (by simp[BoxL,lk])
  .have n1:(c.kind==1)=false:=by simp[k1]
   refine sR ?_;simp[n1];refine sC ?_;simp;by_cases k2:c.kind=2
   .refine sR ?_;simp[k2];refine sC ?_;simp;by_cases h1:(c.kids.length:Int)=1
    .refine sR ?_;simp[h1];refine sD (unused_c c _ _) ?_;simp;refine sE ?_;exact wM (nr _) rfl (by simp[ToL,lk,okC,k2,h1]) (by simp[BoxL,lk])
    .have b1:((c.kids.length:Int)==1)=false:=by simp[h1]
     refine sR ?_;simp[b1];refine sE ?_;exact wM (nr _) rfl (by simp[ToL,lk,okC,k2,h1]) (by simp[BoxL,lk])
   .have n2:(c.kind==2)=false:=by simp[k2]
    refine sR ?_;simp[n2];refine sC ?_;simp;refine AL.seq ?_;refine AL.mid ⟨tl [(26,B (decide (c.kind=3∨c.kind=4))),(5,I c.kind),(3,B false),(1,.ptr (nb+1) 0 0),(2,I 0)],lb nb box [(1,[c.row])],tok,nt⟩ ?_ ?_
    .by_cases k3:c.kind=3
     .refine sR ?_;simp[k3];refine sC ?_;simp;refine sE ?_;exact wM (nr _) rfl (by simp[ToL,lk,k3]) (by simp[BoxL,lk])
     .have n3:(c.kind==3)=false:=by simp[k3]
      refine sR ?_;simp[n3];refine sC ?_;simp;by_cases k4:c.kind=4
      .refine sR ?_;simp[k4];refine sE ?_;exact wM (nr _) rfl (by simp[ToL,lk,k4]) (by simp[BoxL,lk])
      .have n4:(c.kind==4)=false:=by simp[k4]
       refine sR ?_;simp[n4];refine sE ?_;exact wM (nr _) rfl (by simp[ToL,lk,k3,k4]) (by simp[BoxL,lk])
    .by_cases k34:c.kind=3∨c.kind=4
     .have d34:decide (c.kind=3∨c.kind=4)=true:=decide_eq_true k34
      simp only[d34];refine sC ?_;simp;by_cases h1:0<c.kids.length
      .refine sR ?_;simp[h1];refine sD (unused_c c _ _) ?_;simp;refine sE ?_;exact wM (nr _) rfl (by simp[ToL,lk,okC,k1,k2,k34,h1]) (by simp[BoxL,lk])
      .refine sR ?_;simp[h1];refine sE ?_;exact wM (nr _) rfl (by simp[ToL,lk,okC,k1,k2,k34,h1]) (by simp[BoxL,lk])
     .have d34:decide (c.kind=3∨c.kind=4)=false:=decide_eq_false k34
      simp only[d34];refine sC ?_;simp;by_cases k5:c.kind=5
      .refine sR ?_;simp[k5];refine sC ?_;simp;have h3:¬((5:Int)=3∨(5:Int)=4):=by decide
       by_cases h1:(c.kids.length:Int)=1
       .refine sR ?_;simp[h1];refine sE ?_;exact wM (nr _) rfl (by simp[ToL,lk,okC,k5,h1]) (by simp[BoxL,lk])
       .have b1:((c.kids.length:Int)==1)=false:=by simp[h1]
        refine sR ?_;simp[b1];refine sE ?_;exact wM (nr _) rfl (by simp[ToL,lk,okC,k5,h1]) (by simp[BoxL,lk])
      .have n5:(c.kind==5)=false:=by simp[k5]
       refine sR ?_;simp[n5];refine sC ?_;simp;refine sE ?_;exact wM (nr _) rfl (by simp[ToL,lk,okC,k1,k2,k34,k5]) (by simp[BoxL,lk])
 .refine sR ?_;simp;cases h1:okC c
  .refine sC ?_;simp;refine sR ?_;simp;refine sT (sH Hb Ht ?_);simp[shapeC,h1]
  .refine sC ?_;simp;refine sR ?_;simp;refine sD (plain_c c _ _) ?_;simp;cases h2:plainC c
   .refine sC ?_;simp;refine sR ?_;simp;refine sT (sH Hb Ht ?_);simp[shapeC,h1,h2]
   .refine sC ?_;simp;refine sR ?_;simp;refine sT (sH Hb Ht ?_);simp[shapeC,h1,h2]
def errL(f:Cd->Int):List Cd->Int
 | []=>0
 | x::r=>if f x=0 then errL f r else f x
theorem errL_all{f:Cd->Int}:∀{l:List Cd},(∀x∈l,f x=0)->errL f l=0
 | [],_=>rfl
 | x::r,h=>by rw[errL,if_pos (h x (by simp)),errL_all fun y hy=>h y (by simp[hy])]
theorem errL_at{f:Cd->Int}:∀{l:List Cd} {i:Nat} (hi:i<l.length),(∀x∈l.take i,f x=0)->f l[i]≠0->errL f l=f l[i]
 | x::r,0,_,_,h=>by
  have h':¬f x=0:=h
  rw[errL,if_neg h'];rfl
 | x::r,i+1,hi,h,hf=>by
  rw[errL,if_pos (h x (by simp))];exact errL_at (by simpa using hi) (fun y hy=>h y (by simp[hy])) hf
theorem errL_more{f:Cd->Int}{l:List Cd}{i:Nat}(hi:i<l.length)(h:∀x∈l.take i,f x=0)(h1:f l[i]=0):∀x∈l.take (i+1),f x=0:=by
 rw[List.take_succ_eq_append_getElem hi];intro x hx;rcases List.mem_append.1 hx with hx|hx
 .exact h x hx
 .rw[List.mem_singleton] at hx;subst hx;exact h1
def smallC(c:Cd):Int:=if 2000<c.meas.1∨3<c.meas.2 then 3 else 0
theorem cdSmall_c(c:Cd)(hb:c.Big):DC 118 [c.av] (I (smallC c)):=by
 intro tok nt box nb;have hm:=measure_c _ c (Nat.lt_succ_self _) hb;unfold smallC;generalize c.meas=q at *;refine sI func118 ntmps118 fun Hb Ht=>?_
 refine sR ?_;simp;refine sR ?_;simp;refine sD (hm _ _) ?_;simp;refine sR ?_;simp;by_cases h1:2000<q.1
 .simp[h1];refine sC ?_;simp;refine sR ?_;simp;refine sT (sH Hb Ht ?_);simp[h1]
 .by_cases h2:3<q.2
  .simp[h1,h2];refine sC ?_;simp;refine sR ?_;simp;refine sT (sH Hb Ht ?_);simp[h1,h2]
  .simp[h1,h2];refine sC ?_;simp;refine sR ?_;simp;refine sT (sH Hb Ht ?_);simp[h1,h2]
mutual
def Cd.shs:Cd->Int
 | .mk k c m g s v t=>if shapeC (.mk k c m g s v t)=0 then Cd.shsL c else shapeC (.mk k c m g s v t)
def Cd.shsL:List Cd->Int
 | []=>0
 | x::r=>if Cd.shs x=0 then Cd.shsL r else Cd.shs x
end
theorem Cd.shsL_eq:∀l:List Cd,Cd.shsL l=errL Cd.shs l
 | []=>by simp[Cd.shsL,errL]
 | x::r=>by simp[Cd.shsL,errL,Cd.shsL_eq r]
theorem Cd.shs_eq(c:Cd):c.shs=if shapeC c=0 then errL Cd.shs c.kids else shapeC c:=by
 cases c;simp[Cd.shs,Cd.kids,Cd.shsL_eq]
end Go.AM
