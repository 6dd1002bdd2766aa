/-
 Parts of the proof, as merged from many texts: a machine over data, what the functions compute, plain laws.
-/
import Derived.Test.YtainalmfffjnjaaGreatDoorPTT6
import Derived.Test.YtainalmfffjnjaaGreatDoorChecked
import Derived.RangeFuncBox
import Derived.RangeFuncLeaves
import Derived.Shelf.Abstract
import Derived.WalkKit
import Derived.OwnWalkIn
import Derived.TacticsInMore
import Derived.LoopNIn
import Derived.LoopIn
import Derived.Maps.AppendAt
import Derived.Sort.OwnSortedInts
import Derived.Lib.OwnBridge
import Derived.Sort.EveryDepth
import Derived.Shelf.Small.Strs
import Derived.Shelf.Strings.Search1
import Derived.Shelf.Slices.Reverse
import Derived.Ground.Names2Prog
import Derived.Test.YtainalmfffjnjaaGreatDoorProg
import Derived.Laws.Strings
import Derived.WideShapes
set_option linter.unusedSimpArgs false
set_option linter.unusedVariables false
namespace Go.AM
open Go Go.Proofs
open Go.Proofs.Tryz
theorem upTo_facts(d:Array Int)(hs:∀i j,i<=j->j<d.size->d[i]!<=d[j]!):∀m,m<=d.size->(Lib.compactUpTo d m).Pairwise (· < ·)/\∀x,x∈Lib.compactUpTo d m↔∃j,j<m/\d[j]! =x
 | 0,_=>⟨List.Pairwise.nil,fun x=>⟨fun h=>by simp[Lib.compactUpTo] at h,fun ⟨j,hj,_⟩=>absurd hj (Nat.not_lt_zero _)⟩⟩
 | m+1,hm=>by
  obtain⟨h1,h2⟩:=upTo_facts d hs m (by omega);rw[Lib.compactUpTo_succ];by_cases hk:Lib.keeps d m=true
  .rw[if_pos hk];refine⟨List.pairwise_append.2 ⟨h1,List.pairwise_singleton _ _,fun x hx y hy=>?_⟩,fun x=>?_⟩
   .rw[List.mem_singleton] at hy;subst hy;obtain⟨j,hj,rfl⟩:=(h2 x).1 hx;simp only[Lib.keeps,decide_eq_true_eq] at hk;have a1:=hs j (m-1) (by omega) (by omega);have a2:=hs (m-1) m (by omega) (by omega);have a3:d[m]!≠d[m-1]!:=by rcases hk with hk|hk;omega;exact hk
    omega
   .rw[List.mem_append,List.mem_singleton,h2];constructor
    .rintro(⟨j,hj,e⟩|e)
     .exact⟨j,by omega,e⟩
     .exact⟨m,by omega,e.symm⟩
    .rintro⟨j,hj,e⟩;by_cases ej:j=m
     .subst ej;exact .inr e.symm
     .exact .inl ⟨j,by omega,e⟩
  .rw[if_neg hk,List.append_nil];refine⟨h1,fun x=>?_⟩;rw[h2];constructor
   .rintro⟨j,hj,e⟩;exact⟨j,by omega,e⟩
   .rintro⟨j,hj,e⟩;by_cases ej:j=m
    .subst ej;simp only[Lib.keeps,decide_eq_true_eq,not_or,Decidable.not_not] at hk;exact⟨j-1,by omega,by rw[<-hk.2];exact e⟩
    .exact⟨j,by omega,e⟩
def sortI(l:List Int):List Int:=l.mergeSort fun x y=>decide (x<=y)
theorem sortI_perm(l:List Int):(sortI l).Perm l:=List.mergeSort_perm l _
theorem sortI_sorted(l:List Int):(sortI l).Pairwise (· <= ·):=by
 have:=List.pairwise_mergeSort (le:=fun x y:Int=>decide (x<=y)) (fun a b c h1 h2=>by simp only[decide_eq_true_eq] at *;omega) (fun a b=>by simp only[Bool.or_eq_true,decide_eq_true_eq];omega) l
 exact this.imp fun h=>by simpa using h
theorem sortI_arr(l:List Int)(i j:Nat)(hij:i<=j)(hj:j<(sortI l).toArray.size):(sortI l).toArray[i]!<=(sortI l).toArray[j]!:=by
 simp only[List.size_toArray] at hj;rw[getElem!_pos _ i (by simp;omega),getElem!_pos _ j (by simpa using hj)];by_cases e:i=j
 .subst e;omega
 .exact List.pairwise_iff_getElem.1 (sortI_sorted l) i j (by omega) hj (by omega)
def imagesI(l:List Int):List Int:=Lib.compact (sortI l)
theorem imagesI_sorted(l:List Int):(imagesI l).Pairwise (· < ·):=(upTo_facts (sortI l).toArray (sortI_arr l) (sortI l).length (by simp)).1
theorem imagesN_len(l:List Int):imagesN l=(imagesI l).length:=rfl
theorem imagesN_iff(l:List Int):imagesN l=l.length↔l.Nodup:=by
 have hl:(sortI l).length=l.length:=(sortI_perm l).length_eq
 rw[imagesN_len,<-(sortI_perm l).nodup_iff,<-hl];constructor
 .intro h;have h2:∀j,j<(sortI l).length->Lib.keeps (sortI l).toArray j=true:=by
   unfold imagesI Lib.compact Lib.compactUpTo at h;rw[List.length_map] at h;have h3:(List.range (sortI l).length).filter (Lib.keeps (sortI l).toArray)=List.range (sortI l).length:=List.filter_sublist.eq_of_length (by rw[h,List.length_range])
   intro j hj;exact(List.filter_eq_self.1 h3) j (List.mem_range.2 hj)
  have h4:imagesI l=sortI l:=Lib.compact_all _ h2
  have h5:=imagesI_sorted l;rw[h4] at h5;exact h5.imp fun h=>by omega
 .intro h;have h4:imagesI l=sortI l:=Lib.compact_all _ fun j hj=>by
   by_cases e:j=0
   .simp[Lib.keeps,e]
   .apply Lib.keeps_pos;rw[getElem!_pos _ j (by simpa using hj),getElem!_pos _ (j-1) (by simp;omega)];intro e2;exact List.pairwise_iff_getElem.1 h (j-1) j (by omega) hj (by omega) e2.symm
  rw[h4]
theorem distK_nodup(l:List Int):distK l l.length=true↔l.Nodup:=by
 simp only[distK,List.all_eq_true,List.mem_range,decide_eq_true_eq];rw[List.Nodup,List.pairwise_iff_getElem];constructor
 .intro h i j hi hj hij e;apply h j hj i hij;rw[List.getD_eq_getElem?_getD,List.getD_eq_getElem?_getD,List.getElem?_eq_getElem hj,List.getElem?_eq_getElem hi];exact e.symm
 .intro h j hj k hkj e;rw[List.getD_eq_getElem?_getD,List.getD_eq_getElem?_getD,List.getElem?_eq_getElem hj,List.getElem?_eq_getElem (show k<l.length by omega)] at e;exact h k j (by omega) hj hkj e.symm
theorem images_dist(l:List Int):decide (imagesN l=l.length)=distK l l.length:=by
 rw[Bool.eq_iff_iff,decide_eq_true_eq,imagesN_iff,distK_nodup]
theorem images_beq(l:List Int):((imagesN l:Int)==(l.length:Int))=distK l l.length:=by
 rw[<-images_dist,beqD];simp;omega
theorem injective56_c(a b:Gr)(m:Mo)(ha:a.Fit)(hb:b.Fit)(hm:m.Fit):DC 125 [a.av,b.av,m.av] (B (injM a b m)):=by
 intro tok nt box nb;have i1:=images_beq m.nodes;have i2:=images_beq m.edges;refine sI func125 ntmps125 fun Hb Ht=>?_
 refine sR ?_;simp;refine sR ?_;simp;refine sD (valid51_c a b m ha hb _ _) ?_;simp;by_cases h1:validM a b m=0
 .simp[h1];refine sD (images88_c m.nodes hm.n _ _) ?_;simp[h1];simp only[i1];by_cases h2:distK m.nodes m.nodes.length=true
  .simp[h2];refine sD (images88_c m.edges hm.e _ _) ?_;simp[h1,h2,i2];refine sT (sH Hb Ht ?_);simp[injM,h1,h2]
  .have h3:distK m.nodes m.nodes.length=false:=by simpa using h2
   simp only[h3];simp;refine sT (sH Hb Ht ?_);simp[injM,h1,h3]
 .have hb1:(validM a b m==0)=false:=by simp[h1]
  simp only[hb1];try simp
  refine sT (sH Hb Ht ?_);simp[injM,h1]
def placesK(l h:List Int)(i:Nat):List Int:=(l.take i).map (indexI h)
@[simp] theorem placesK_len(l h:List Int)(i:Nat):(placesK l h i).length=min i l.length:=by simp[placesK]
def byK(l by':List Int)(i:Nat):List Int:=(l.take i).map fun x=>by'.getD x.toNat 0
@[simp] theorem byK_len(l h:List Int)(i:Nat):(byK l h i).length=min i l.length:=by simp[byK]
theorem firstE_all{f:Nat->Int}:∀n,firstE f n=0->∀i,i<n->f i=0
 | 0,_,i,hi=>absurd hi (Nat.not_lt_zero _)
 | n+1,h,i,hi=>by
  simp only[firstE] at h;split at h
  .rename_i h0;by_cases e:i=n
   .subst e;exact h
   .exact firstE_all n h0 i (by omega)
  .contradiction
structure VM (a b:Gr) (m:Mo):Prop where
 va:vG a=0
 vb:vG b=0
 ln:m.nodes.length=a.nodes.length
 le:m.edges.length=a.edges.length
 n:∀x∈m.nodes,0<=x/\x<b.nodes.length
 e:∀x∈m.edges,0<=x/\x<b.edges.length
 nt:∀i,i<a.nodes.length->b.nodes.getD (m.nodes.getD i 0).toNat 0=a.nodes.getD i 0
 et:∀i,i<a.edges.length->b.edges.getD (m.edges.getD i 0).toNat default=⟨(a.edges.getD i default).ty,m.nodes.getD (a.edges.getD i default).fr.toNat 0,m.nodes.getD (a.edges.getD i default).to.toNat 0⟩
theorem validM_VM{a b:Gr}{m:Mo}(h:validM a b m=0):VM a b m:=by
 unfold validM at h;split at h
 .omega
 .rename_i h1;split at h
  .omega
  .rename_i h2;split at h
   .cases h
   .rename_i h3;have hl1:m.nodes.length=a.nodes.length:=by omega
    have hl2:m.edges.length=a.edges.length:=by omega
    split at h
    .contradiction
    .rename_i h4;have h4':firstE (nodeE a b m) a.nodes.length=0:=Decidable.not_not.1 h4
     have n1:=firstE_all _ h4';have n2:=firstE_all _ h;refine⟨by omega,by omega,hl1,hl2,fun x hx=>?_,fun x hx=>?_,fun i hi=>?_,fun i hi=>?_⟩
     .obtain⟨i,hi,rfl⟩:=List.getElem_of_mem hx;have:=n1 i (by omega)
      have e:m.nodes.getD i 0=m.nodes[i]:=by simp[hi]
      unfold nodeE at this;rw[e] at this;split at this
      .cases this
      .omega
     .obtain⟨i,hi,rfl⟩:=List.getElem_of_mem hx;have:=n2 i (by omega)
      have e:m.edges.getD i 0=m.edges[i]:=by simp[hi]
      unfold edgeE at this;rw[e] at this;split at this
      .cases this
      .omega
     .have:=n1 i hi
      unfold nodeE at this;split at this
      .cases this
      .split at this
       .assumption
       .cases this
     .have:=n2 i hi
      unfold edgeE at this;split at this
      .cases this
      .simp only at this;split at this
       .cases this
       .rename_i t1;split at this
        .cases this
        .rename_i t2;have t1':=Decidable.not_not.1 t1
         simp only[ne_eq,not_or,Decidable.not_not] at t2;rw[t1',t2.1,t2.2]
def chN(ns:List Int)(bit:Nat->Bool):Nat->List Int × List Int
 | 0=>([],[])
 | i+1=>if bit i=true then ((chN ns bit i).1++[ns.getD i 0],(chN ns bit i).2++[(i:Int)]) else chN ns bit i
def atK(ns:List Int)(bit:Nat->Bool):Nat->List Int
 | 0=>[]
 | i+1=>if bit i=true then atK ns bit i++[((chN ns bit i).1.length:Int)] else atK ns bit i++[-1]
def atR(ns:List Int)(bit:Nat->Bool)(i:Nat):List Int:=atK ns bit i++List.replicate (ns.length-i) 0
theorem atK_len(ns:List Int)(bit:Nat->Bool):∀i,(atK ns bit i).length=i
 | 0=>rfl
 | i+1=>by
  simp only[atK];split<;>simp[atK_len ns bit i]
@[simp] theorem atR_len(ns:List Int)(bit:Nat->Bool){i:Nat}(h:i<=ns.length):(atR ns bit i).length=ns.length:=by simp[atR,atK_len];omega
end Go.AM
namespace Go.Proofs.YtainalmfffjnjaaGreatDoorX.values
open Go Go.Proofs Go.RowKit Go.Shelf
open Go.Proofs.Tryz
attribute [local go_sem] Oper.semAt_some
def upto{α:Type}(f:Nat->α)(k:Nat):List α:=(List.range k).map f
theorem upto_length{α:Type}(f:Nat->α)(k:Nat):(upto f k).length=k:=by simp[upto]
theorem upto_all(zs:List Int):upto (fun j=>zs[j]?.getD 0) zs.length=zs:=by
 apply List.ext_getElem
 .simp[upto]
 .intro i h1 h2;simp[upto,h2]
theorem info3:(prog.info? 3).map (fun i=>(i.zero,i.size,i.bytes))=some (some (.int .i64 0),1,8):=by kernel_rfl
end Go.Proofs.YtainalmfffjnjaaGreatDoorX.values
namespace Go.Proofs.YtainalmfffjnjaaGreatDoorX.values
open Go Go.Proofs Go.RowKit Go.Shelf Go.Sort
open Go.Proofs.Tryz
end Go.Proofs.YtainalmfffjnjaaGreatDoorX.values
namespace Go.AM
open Go Go.Proofs Go.RowKit
open Go.Proofs.Tryz
theorem rvd_owns{G:Gh}{w w':World}{m:AMem}(hm:RelM G m w){v:Value}{xs:List Int}(h:w'.ownsRow w.heap.size 3 1 v xs.length (xs.map (Value.int .i64))):RVd w'.cell? G.ps (ints xs) v:=by
 rcases h.2 with ⟨rfl,h0⟩|⟨g,cap,cur,rfl,hb,hg,h1,h2,h3,h4⟩
 .obtain rfl:xs=[]:=List.length_eq_zero_iff.1 h0;exact .sl (es:=[]) (fun _ _=>default) (nr _) (by decide) (by simp) (by simp) (by simp) (by simp)
 .have hl:xs.length=(xs.map fun n=>[D.raw (.int .i64 n)]).length:=by simp
  have hat:∀i,i<xs.length->cur[i]?=some (.int .i64 (xs.getD i 0)):=fun i hi=>by
   have e:(cur.toList.take (xs.length*1))[i]?=(xs.map (Value.int .i64))[i]?:=by rw[h4]
   rw[List.getElem?_take,if_pos (by omega),Array.getElem?_toList,List.getElem?_map,List.getElem?_eq_getElem hi] at e;rw[e];simp[hi]
  unfold ints
  conv=>rhs;rw[hl]
  refine .sl (fun i _=>.int .i64 (xs.getD i 0)) (by simpa using h1) h2 (fun e he=>?_) (fun _=>⟨_,rfl⟩) (fun a ha i j hi hj=>?_) (fun i j hi hj=>?_)
  .obtain⟨y,_,rfl⟩:=List.mem_map.1 he;rfl
  .cases ha;have hi':i<xs.length:=by simpa using hi
   have hj0:j=0:=by omega
   subst hj0;refine⟨?_,?_⟩
   .unfold Gh.ps;have hbl:(Addr.add ⟨g,0,none⟩ (i*1+0)).block=g:=by unfold Addr.add;split<;>rfl
    rw[hbl,hm.fresh g hb];trivial
   .have ha:Addr.add ⟨g,0,none⟩ (i*1+0)=⟨g,i,none⟩:=by
     unfold Addr.add;split
     .rename_i h0;congr 1;omega
     .simp
    rw[ha];simp only[World.cell?,hg,Option.isSome_none,Bool.false_eq_true,if_false];exact hat i hi'
  .simp only[List.length_map] at hi;simp only[List.getElem_map,List.length_cons,List.length_nil] at hj ⊢;have hj0:j=0:=by omega
   subst hj0;have e:xs.getD i 0=xs[i]:=by simp[hi]
   simp only[List.getElem_cons_zero,e];exact .raw rfl
end Go.AM
namespace Go.Proofs.YtainalmfffjnjaaGreatDoorX.sorted34
open Go Go.Proofs Go.RowKit Go.Shelf Go.Sort
open Go.Proofs.Tryz
end Go.Proofs.YtainalmfffjnjaaGreatDoorX.sorted34
namespace Go.AM
open Go Go.Proofs Go.RowKit
open Go.Proofs.Tryz
abbrev Ub(n:Int):AV:=.d (.raw (.int .u8 n))
abbrev Sb(s:ByteArray):AV:=.d (.raw (.string s))
def letB(c:Int):Bool:=decide (97<=c/\c<=122∨65<=c/\c<=90)
def digB(c:Int):Bool:=decide (48<=c/\c<=57)
def parB(c:Int):Bool:=letB c||digB c||c==95
def byteAt(s:ByteArray)(i:Nat):Int:=(s.data.toList.getD i 0).toNat
theorem letter_c(c:Int):DC 243 [Ub c] (B (letB c)):=by
 intro tok nt box nb;by_cases h1:97<=c
 .by_cases h2:c<=122
  .refine sI func243 ntmps243 fun Hb Ht=>?_
   repeat first|simp[h1,h2]|refine sR ?_
   refine sT (sH Hb Ht ?_);simp[letB,h1,h2]
  .have h3:¬c<=90:=by omega
   have h4:65<=c:=by omega
   refine sI func243 ntmps243 fun Hb Ht=>?_
   repeat first|simp[h1,h2,h3,h4]|refine sR ?_
   refine sT (sH Hb Ht ?_);simp[letB,h1,h2,h3,h4]
 .by_cases h3:65<=c
  .by_cases h4:c<=90
   .refine sI func243 ntmps243 fun Hb Ht=>?_
    repeat first|simp[h1,h3,h4]|refine sR ?_
    refine sT (sH Hb Ht ?_);simp[letB,h1,h3,h4]
   .refine sI func243 ntmps243 fun Hb Ht=>?_
    repeat first|simp[h1,h3,h4]|refine sR ?_
    refine sT (sH Hb Ht ?_);simp[letB,h1,h3,h4]
  .refine sI func243 ntmps243 fun Hb Ht=>?_
   repeat first|simp[h1,h3]|refine sR ?_
   refine sT (sH Hb Ht ?_);simp[letB,h1,h3]
theorem digit_c(c:Int):DC 245 [Ub c] (B (digB c)):=by
 intro tok nt box nb;by_cases h1:48<=c
 .by_cases h2:c<=57
  .refine sI func245 ntmps245 fun Hb Ht=>?_
   repeat first|simp[h1,h2]|refine sR ?_
   refine sT (sH Hb Ht ?_);simp[digB,h1,h2]
  .refine sI func245 ntmps245 fun Hb Ht=>?_
   repeat first|simp[h1,h2]|refine sR ?_
   refine sT (sH Hb Ht ?_);simp[digB,h1,h2]
 .refine sI func245 ntmps245 fun Hb Ht=>?_
  repeat first|simp[h1]|refine sR ?_
  refine sT (sH Hb Ht ?_);simp[digB,h1]
theorem part_c1(c:Int):DC 244 [Ub c] (B (parB c)):=by
 intro tok nt box nb;have h1:=letter_c c;have h2:=digit_c c;cases e1:letB c
 .cases e2:digB c
  .rw[e1] at h1;rw[e2] at h2;refine sI func244 ntmps244 fun Hb Ht=>?_
   repeat first|simp|refine sR ?_
   refine sD (h1 _ _) ?_;repeat first|simp|refine sR ?_
   refine sD (h2 _ _) ?_;repeat first|simp|refine sR ?_
   refine sT (sH Hb Ht ?_);simp[parB,e1,e2]
  .rw[e1] at h1;rw[e2] at h2;refine sI func244 ntmps244 fun Hb Ht=>?_
   repeat first|simp|refine sR ?_
   refine sD (h1 _ _) ?_;repeat first|simp|refine sR ?_
   refine sD (h2 _ _) ?_;repeat first|simp|refine sR ?_
   refine sT (sH Hb Ht ?_);simp[parB,e1,e2]
 .rw[e1] at h1;refine sI func244 ntmps244 fun Hb Ht=>?_
  repeat first|simp|refine sR ?_
  refine sD (h1 _ _) ?_;repeat first|simp|refine sR ?_
  refine sT (sH Hb Ht ?_);simp[parB,e1]
def runN(p:Int->Bool)(s:ByteArray)(at':Nat):Nat:=((s.data.toList.drop at').takeWhile fun b=>p (b.toNat:Int)).length
theorem takeW_len{α:Type}(q:α->Bool)(d:α):∀(l:List α) (i:Nat),i<=l.length->(∀j,j<i->q (l.getD j d)=true)->(i=l.length∨q (l.getD i d)=false)->(l.takeWhile q).length=i
 | [],i,hi,_,_=>by simp at hi;subst hi;rfl
 | x::l,0,_,_,h=>by
  have h2:q x=false:=by simpa using h
  simp[List.takeWhile_cons,h2]
 | x::l,i+1,hi,h1,h2=>by
  have hx:q x=true:=by simpa using h1 0 (by omega)
  have ih:=takeW_len q d l i (by simpa using hi) (fun j hj=>by simpa using h1 (j+1) (by omega)) (by simpa using h2);simp[List.takeWhile_cons,hx,ih]
theorem size_toList(s:ByteArray):s.data.toList.length=s.size:=by rw[Array.length_toList];rfl
theorem byteAt_lt{s:ByteArray}{i:Nat}(h:i<s.size):(s.data[i].toNat:Int)=byteAt s i:=by
 have h2:i<s.data.toList.length:=by rw[size_toList];exact h
 rw[byteAt,List.getD_eq_getElem?_getD,List.getElem?_eq_getElem h2,Option.getD_some,Array.getElem_toList]
theorem runN_eq{p:Int->Bool}{s:ByteArray}{a i:Nat}(hi:a+i<=s.size)(h1:∀j,j<i->p (byteAt s (a+j))=true)(h2:a+i=s.size∨p (byteAt s (a+i))=false):runN p s a=i:=by
 have hl:=size_toList s;have g:∀j,(s.data.toList.drop a).getD j 0=s.data.toList.getD (a+j) 0:=fun j=>by simp[List.getD_eq_getElem?_getD,List.getElem?_drop]
 refine takeW_len _ 0 _ i (by rw[List.length_drop];omega) (fun j hj=>?_) ?_
 .rw[g];exact h1 j hj
 .rcases h2 with h2|h2
  .left;rw[List.length_drop];omega
  .right;rw[g];exact h2
def stRu(s:ByteArray)(f:FuncId)(nb:Nat)(box:Bxs)(tok:Tks)(nt:Nat)(i:Nat):AS:=⟨tl [(0,Sb s),(1,.fn (.func f) []),(5,I i)],lb nb box [],tok,nt⟩
theorem run_c(s:ByteArray)(f:FuncId)(p:Int->Bool)(hs:s.size<=200000000000000)(tok:Tks)(nt:Nat)(hf:∀c,DCall prog f [Ub c] tok nt (B (p c)) tok nt):DCall prog 182 [Sb s,.fn (.func f) []] tok nt (I (runN p s 0)) tok nt:=by
 intro box nb;refine sI func182 ntmps182 fun Hb Ht=>?_
 repeat first|simp|refine sR ?_
 refine sN ?_;have hc:∀c∈([]:List AV),OkIn (fun k=>box k≠none) (fun _=>True) c:=by simp
 refine sL (stRu s f nb box tok nt) (fun i=>i<=s.size/\∀j,j<i->p (byteAt s j)=true) (fun i=>s.size-i) 0 ⟨Nat.zero_le _,by omega⟩ (wM (nr _) rfl (by simp[ToL,lk];exact .same (okFn hc Hb [] (by simp) rfl _)) trivial) ?_;rintro i S' ⟨hi,hok⟩ hS;simp only[stRu] at hS;subst hS;have hw:=sW (i:=i) (by omega);by_cases hlt:i<s.size
 .have hbb:=byteAt_lt hlt;have hr:=runN_eq (p:=p) (s:=s) (a:=0) (i:=i) (by omega) (fun j hj=>by rw[Nat.zero_add];exact hok j hj);rw[Nat.zero_add,<-hbb] at hr;have hok2:p (s.data[i].toNat)=true->∀j,j<i+1->p (byteAt s j)=true:=fun h j hj=>by
   by_cases e:j=i
   .rw[e,<-hbb];exact h
   .exact hok j (by omega)
  repeat first|simp[hlt]|refine sR ?_
  refine sD (hf _) ?_;repeat first|simp|refine sR ?_
  generalize (s.data[i].toNat:Int)=c at *;cases e:p c
  .have hr:=hr (.inr e);refine sC ?_;simp;refine sX ?_;simp only[AU,↓reduceIte];repeat first|simp|refine sR ?_
   refine sT (sH Hb Ht ?_);simp[hr]
  .refine sC ?_;simp;repeat first|simp[hw]|refine sR ?_
   refine sE ?_;exact⟨i+1,⟨hlt,hok2 e⟩,by omega,wM (nr _) rfl (by simp[ToL,lk];exact .same (okFn hc Hb [] (by simp) rfl _)) trivial⟩
 .have hie:i=s.size:=by omega
  have hr:=runN_eq (p:=p) (s:=s) (a:=0) (i:=i) (by omega) (fun j hj=>by rw[Nat.zero_add];exact hok j hj) (.inl (by omega));repeat first|simp[hlt]|refine sR ?_|refine sC ?_
  refine sX ?_;simp only[AU,↓reduceIte];repeat first|simp|refine sR ?_
  refine sT (sH Hb Ht ?_);simp[hr]
end Go.AM
namespace Go.Proofs
open Go.Shelf
open Go.Proofs.Tryz
def Tryz.lays137_ren:Go.Shelf.Ren:=⟨fun|137=>248|217=>290|266=>310|n=>n,fun|9=>9|5=>5|3=>3|n=>n,fun|n=>n⟩
theorem Tryz.lays137:Go.Proofs.Lays.n137 prog Tryz.lays137_ren:={
 mixed:=by kernel_rfl
 f137:=func248.trans (congrArg some (by kernel_rfl))
 f217:=func290.trans (congrArg some (by kernel_rfl))
 f266:=func310.trans (congrArg some (by kernel_rfl))
 t3:=underlying3
 a3:=isAgg3
 z3:=sizeOf3
 v3:=zeroValue3
 t5:=underlying5
 a5:=isAgg5
 z5:=sizeOf5
 v5:=zeroValue5
 t9:=underlying9
 a9:=isAgg9
 z9:=sizeOf9
 v9:=zeroValue9 }
open Go.RowKit in
theorem Tryz.strings_IndexByte(s:ByteArray)(c:Int)(w:World):
  Calls prog 248 #[.string s,.int .u8 c] w fun e w'=>e=.returned (.int .i64 (Lib.indexByte s.data.toList c.toNat.toUInt8))/\w'=w:=Any.strings_IndexByte Tryz.lays137 s c w
def Tryz.lays112_ren:Go.Shelf.Ren:=⟨fun|112=>277|n=>n,fun|28=>26|3=>3|4=>4|0=>0|n=>n,fun|n=>n⟩
theorem Tryz.lays112:Go.Proofs.Lays.n112 prog Tryz.lays112_ren:={
 mixed:=by kernel_rfl
 f112:=func277.trans (congrArg some (by kernel_rfl))
 t0:=underlying0
 a0:=isAgg0
 z0:=sizeOf0
 v0:=zeroValue0
 t3:=underlying3
 a3:=isAgg3
 z3:=sizeOf3
 v3:=zeroValue3
 t4:=underlying4
 a4:=isAgg4
 z4:=sizeOf4
 v4:=zeroValue4
 t28:=underlying26
 a28:=isAgg26
 z28:=sizeOf26
 v28:=zeroValue26 }
open Go.RowKit Go.Lib Go.Sort in
theorem Tryz.slices_Reverse_int(blk off cap:Nat)(zs:List Int)(w:World)(hH:Holds (Value.int .i64) w blk off zs.toArray)(hsz:zs.length<=9223372036854775807):
  Calls prog 277 #[.slice (some ⟨blk,off,none⟩) zs.length cap] w fun e w'=>e=.returned (.tuple #[])/\∃n,w'=putRow (Value.int .i64) (Sort.ahead w n) blk off zs.reverse.toArray:=Any.slices_Reverse_int Tryz.lays112 blk off cap zs w hH hsz
open Go.RowKit Go.Lib Go.Sort in
theorem Tryz.slices_Reverse_int_empty(a:Option Addr)(cap:Nat)(w:World):
  Calls prog 277 #[.slice a 0 cap] w fun e w'=>e=.returned (.tuple #[])/\w'=w:=Any.slices_Reverse_int_empty Tryz.lays112 a cap w
end Go.Proofs
namespace Go.AM
open Go Go.Proofs Go.Shelf
open Go.Proofs.Tryz
theorem seq_iff{a b:ByteArray}:a.toList=b.toList↔a=b:=⟨fun h=>by rw[ByteArray.toList_eq,ByteArray.toList_eq] at h;exact Go.WideShapes.bytes_inj h,fun h=>by rw[h]⟩
theorem seq_dec(a b:ByteArray):(a.toList==b.toList)=decide (a=b):=by rw[Bool.eq_iff_iff,beq_iff_eq,decide_eq_true_eq,seq_iff]
abbrev strs(l:List ByteArray):D:=.sl 1 (l.map fun s=>[.raw (.string s)])
def memS(xs:List ByteArray)(v:ByteArray):Bool:=xs.any fun x=>decide (v=x)
theorem memS_iff{xs:List ByteArray}{v:ByteArray}:memS xs v=true↔v∈xs:=by simp[memS]
def indexB(xs:List ByteArray)(v:ByteArray):Int:=if memS xs v=true then (xs.findIdx (fun x=>decide (v=x)):Int) else -1
theorem indexB_nonneg(xs:List ByteArray)(v:ByteArray):(0<=indexB xs v)↔memS xs v=true:=by
 unfold indexB;split<;>simp[*]
def stIs(xs:List ByteArray)(v:ByteArray)(nb:Nat)(box:Bxs)(tok:Tks)(nt:Nat)(i:Nat):AS:=⟨tl [(0,.d (strs xs)),(1,Sb v),(7,I xs.length),(8,I i)],lb nb box [],tok,nt⟩
theorem strs_at{l:List ByteArray}{i:Nat}(h:i<l.length):(l.map fun s=>[D.raw (.string s)])[i]?=some [D.raw (.string l[i])]:=by simp[h]
theorem indexS_c(xs:List ByteArray)(v:ByteArray)(hx:xs.length<=1000000):DC 230 [.d (strs xs),Sb v] (I (indexB xs v)):=by
 intro tok nt box nb;refine sI func230 ntmps230 fun Hb Ht=>?_
 repeat first|simp|refine sR ?_
 refine sN ?_;refine sL (stIs xs v nb box tok nt) (fun i=>i<=xs.length/\v∉xs.take i) (fun i=>xs.length-i) 0 ⟨Nat.zero_le _,by simp⟩ (wM (nr _) rfl (by simp[ToL,lk]) trivial) ?_;rintro i S' ⟨hi,htk⟩ hS;simp only[stIs] at hS;subst hS;have hw:=sW (i:=i) (by omega);repeat first|simp|refine sR ?_|refine sC ?_
 refine⟨fun hlt=>?_,fun hge=>?_⟩
 .have hsp:xs=xs.take i++xs[i]::xs.drop (i+1):=by simp
  by_cases he:v=xs[i]
  .have b:(v.toList==xs[i].toList)=true:=by rw[seq_dec];simpa using he
   have hmem:memS xs v=true:=memS_iff.2 (by rw[he];exact List.getElem_mem _)
   have hid:xs.findIdx (fun x=>decide (v=x))=i:=by
    rw[List.findIdx_eq hlt];refine⟨by simpa using he,fun j hj=>?_⟩;have:¬v=xs[j]:=fun e=>htk (by rw[e,List.mem_take_iff_getElem];exact⟨j,by omega,rfl⟩)
    simpa using this
   repeat first|simp[hlt,b]|refine sR ?_
   refine sC ?_;repeat first|simp|refine sR ?_
   refine sT (sH Hb Ht ?_);simp[indexB,hmem,hid]
  .have b:(v.toList==xs[i].toList)=false:=by rw[seq_dec];simpa using he
   repeat first|simp[hlt,b]|refine sR ?_
   refine sC ?_;simp;repeat first|simp[hw]|refine sR ?_
   refine sE ?_;refine⟨i+1,⟨hlt,?_⟩,by omega,wM (nr _) rfl (by simp[ToL,lk]) trivial⟩;rw[List.take_succ_eq_append_getElem hlt];simp only[List.mem_append,List.mem_singleton,not_or];exact⟨htk,he⟩
 .refine sX ?_;simp only[AU,↓reduceIte];repeat first|simp|refine sR ?_
  have hn:memS xs v=false:=by
   rw[List.take_of_length_le hge] at htk;rw[<-Bool.not_eq_true,memS_iff];exact htk
  refine sT (sH Hb Ht ?_);simp[indexB,hn]
theorem containsS_c(xs:List ByteArray)(v:ByteArray)(hx:xs.length<=1000000):DC 155 [.d (strs xs),Sb v] (B (memS xs v)):=by
 intro tok nt box nb;refine sI func155 ntmps155 fun Hb Ht=>?_
 repeat first|simp|refine sR ?_
 refine sD (indexS_c xs v hx _ _) ?_;repeat first|simp|refine sR ?_
 refine sT (sH Hb Ht ?_);simp[indexB_nonneg]
theorem indexByte_c(s:ByteArray)(c:Int):DC 248 [Sb s,Ub c] (I (Lib.indexByte s.data.toList c.toNat.toUInt8)):=by
 intro tok nt box nb;refine⟨Enters.mk func248 rfl (by kernel_rfl),fun G w vals hm hr=>?_⟩;obtain⟨hlen,hrv⟩:=hr
 match vals,hlen with
 | [v,u],_ =>
  have h0:=hrv 0 (by simp) (by simp);have h1:=hrv 1 (by simp) (by simp);simp only[List.getElem_cons_zero,List.getElem_cons_succ] at h0 h1;cases h0 with
  | d h0 =>
  cases h0 with
  | raw h0 =>
  cases h1 with
  | d h1 =>
  cases h1 with
  | raw h1 =>
   refine(Tryz.strings_IndexByte s c w).mono ?_;rintro e w' ⟨rfl,rfl⟩;exact⟨_,_,_,G,rfl,⟨rfl,rfl⟩,rfl,hm,.d (.raw rfl),Le.refl _ _,fun k hk=>⟨hk,rfl⟩⟩
def quoB(c:Int):Bool:=decide (32<=c/\c<=126)&&c != 34
theorem quoted1_c(c:Int):DC 289 [Ub c] (B (quoB c)):=by
 intro tok nt box nb;by_cases h1:32<=c
 .by_cases h2:c<=126
  .refine sI func289 ntmps289 fun Hb Ht=>?_
   repeat first|simp[h1,h2]|refine sR ?_
   refine sT (sH Hb Ht ?_);simp[quoB,h1,h2]
  .refine sI func289 ntmps289 fun Hb Ht=>?_
   repeat first|simp[h1,h2]|refine sR ?_
   refine sT (sH Hb Ht ?_);simp[quoB,h1,h2]
 .refine sI func289 ntmps289 fun Hb Ht=>?_
  repeat first|simp[h1]|refine sR ?_
  refine sT (sH Hb Ht ?_);simp[quoB,h1]
theorem runN_le(p:Int->Bool)(s:ByteArray)(a:Nat):runN p s a<=s.size-a:=by
 have h:=(List.takeWhile_sublist (l:=s.data.toList.drop a) fun b=>p (b.toNat:Int)).length_le;rw[List.length_drop,size_toList] at h;exact h
theorem ext1_size{s:ByteArray}:(s.extract 1 s.size).size=s.size-1:=by simp[ByteArray.size_extract]
def quoR(s:ByteArray):Int × Int :=
 if 1+runN quoB (s.extract 1 s.size) 0=s.size then (0,2) else if byteAt s (1+runN quoB (s.extract 1 s.size) 0)≠34 then (0,2)
 else if 60<runN quoB (s.extract 1 s.size) 0 then (0,3) else ((runN quoB (s.extract 1 s.size) 0:Int)+2,0)
theorem quoted_c(s:ByteArray)(h1:1<=s.size)(hs:s.size<=200000000000000):DC 246 [Sb s] (.tup [I (quoR s).1,I (quoR s).2]):=by
 intro tok nt box nb;have hr:=run_c (s.extract 1 s.size) 289 quoB (by rw[ext1_size];omega) tok nt fun c=>quoted1_c c tok nt
 have hle:=runN_le quoB (s.extract 1 s.size) 0;rw[ext1_size] at hle;have hq:quoR s=if 1+runN quoB (s.extract 1 s.size) 0=s.size then (0,2) else if byteAt s (1+runN quoB (s.extract 1 s.size) 0)≠34 then (0,2) else if 60<runN quoB (s.extract 1 s.size) 0 then (0,3) else ((runN quoB (s.extract 1 s.size) 0:Int)+2,0):=rfl
 generalize runN quoB (s.extract 1 s.size) 0=n at *;have h1':(1:Int)<=s.size:=by omega
 have w1:IntKind.i64.wrap (1+(n:Int))=((1+n:Nat):Int):=by rw[wrap_in (by omega) (by omega)];omega
 have w2:IntKind.i64.wrap ((n:Int)+2)=(n:Int)+2:=wrap_in (by omega) (by omega)
 refine sI func246 ntmps246 fun Hb Ht=>?_
 repeat first|simp[h1,h1']|refine sR ?_
 refine sD (hr) ?_;simp;by_cases e1:1+n=s.size
 .have b1:((1:Int)+n==s.size)=true:=by rw[beq_iff_eq];omega
  rw[if_pos e1] at hq;rw[hq];repeat first|simp[w1,b1]|refine sR ?_
  refine sC ?_;repeat first|simp|refine sR ?_
  refine sT (sH Hb Ht ?_);simp
 .have b1:((1:Int)+n==s.size)=false:=by rw[beq_eq_false_iff_ne];omega
  have hlt:1+n<s.size:=by omega
  have hb:=byteAt_lt hlt;have l1:(0:Int)<=1+n:=by omega
  have l2:(1:Int)+n<s.size:=by omega
  have t1:((1:Int)+n).toNat=1+n:=by omega
  rw[if_neg e1] at hq;repeat first|simp[w1,b1,l1,l2,t1,hlt]|refine sR ?_
  rw[hb];by_cases e2:byteAt s (1+n)=34
  .have b2:(byteAt s (1+n) != 34)=false:=by simp[e2]
   rw[if_neg (by simp[e2])] at hq;simp only[b2];refine sC ?_;simp;repeat first|simp[w2]|refine sR ?_
   by_cases e3:60<n
   .have e4:(60:Int)<n:=by omega
    rw[if_pos e3] at hq;rw[hq];refine sC ?_;simp[e4];repeat first|simp|refine sR ?_
    refine sT (sH Hb Ht ?_);simp
   .have e4:¬(60:Int)<n:=by omega
    rw[if_neg e3] at hq;rw[hq];refine sC ?_;simp[e4];repeat first|simp[w2]|refine sR ?_
    refine sT (sH Hb Ht ?_);simp
  .have b2:(byteAt s (1+n) != 34)=true:=by simp[e2]
   rw[if_pos e2] at hq;rw[hq];simp only[b2];refine sC ?_;repeat first|simp|refine sR ?_
   refine sT (sH Hb Ht ?_);simp
def pairL:List ByteArray:=[⟨#[45,62]⟩,⟨#[60,61]⟩,⟨#[62,61]⟩,⟨#[61,61]⟩,⟨#[33,61]⟩]
def pairB(s:ByteArray):Bool:=decide (2<=s.size)&&memS pairL (s.extract 0 2)
theorem pair_c(s:ByteArray)(hs:s.size<=200000000000000):DC 247 [Sb s] (B (pairB s)):=by
 intro tok nt box nb;by_cases h2:2<=s.size
 .have h2':(2:Int)<=s.size:=by omega
  refine sI func247 ntmps247 fun Hb Ht=>?_
  have hc:=containsS_c pairL (s.extract 0 2) (by decide);repeat first|simp[h2,h2']|refine sR ?_
  refine⟨rfl,?_⟩;refine Stop.data ?_;refine sD (hc _ _) ?_;repeat first|simp|refine sR ?_
  refine sT (sH Hb Ht ?_);simp[pairB,h2]
 .have h2':¬(2:Int)<=s.size:=by omega
  refine sI func247 ntmps247 fun Hb Ht=>?_
  repeat first|simp[h2,h2']|refine sR ?_
  refine sT (sH Hb Ht ?_);simp[pairB,h2]
def nextR(s:ByteArray):Int × Int × Int :=
 if letB (byteAt s 0)=true then (if 20<runN parB s 0 then (0,0,3) else (1,runN parB s 0,0))
 else if digB (byteAt s 0)=true then (if 9<runN digB s 0 then (0,0,3) else (2,runN digB s 0,0))
 else if byteAt s 0=34 then (3,(quoR s).1,(quoR s).2) else if pairB s=true then (4,2,0)
 else if 0<=Lib.indexByte [123,125,40,41,91,93,44,59,58,61,43,45,42,60,62,33,38,124,46,63] (UInt8.ofNat (byteAt s 0).toNat) then (4,1,0) else (0,0,2)
theorem next_c(s:ByteArray)(h1:1<=s.size)(hs:s.size<=200000000000000):DC 184 [Sb s] (.tup [I (nextR s).1,I (nextR s).2.1,I (nextR s).2.2]):=by
 intro tok nt box nb;have hl:=letter_c (byteAt s 0);have hd:=digit_c (byteAt s 0);have r1:=run_c s 244 parB hs tok nt fun c=>part_c1 c tok nt
 have r2:=run_c s 245 digB hs tok nt fun c=>digit_c c tok nt
 have hq:=quoted_c s h1 hs;have hp:=pair_c s hs;have hx:=fun q=>indexByte_c q (byteAt s 0)
 have h0:0<s.size:=h1
 have h0':(0:Int)<s.size:=by omega
 have hb:=byteAt_lt h0;obtain⟨N,hN⟩:∃N,nextR s=N:=⟨_,rfl⟩
 rw[hN];unfold nextR at hN;have n1:runN parB s 0<=s.size:=runN_le _ _ _
 have n2:runN digB s 0<=s.size:=runN_le _ _ _
 generalize runN parB s 0=a1 at *;generalize runN digB s 0=a2 at *;refine sI func184 ntmps184 fun Hb Ht=>?_
 repeat first|simp[h0,h0']|refine sR ?_
 rw[hb];refine sD (hl _ _) ?_;repeat first|simp|refine sR ?_
 cases e1:letB (byteAt s 0)
 .rw[if_neg (by simp[e1])] at hN;refine sC ?_;repeat first|simp|refine sR ?_
  refine sD (hd _ _) ?_;repeat first|simp|refine sR ?_
  cases e2:digB (byteAt s 0)
  .rw[if_neg (by simp[e2])] at hN;refine sC ?_;repeat first|simp|refine sR ?_
   by_cases e3:byteAt s 0=34
   .rw[if_pos e3] at hN;have b3:(byteAt s 0==34)=true:=by simp[e3]
    simp only[b3];refine sC ?_;repeat first|simp|refine sR ?_
    refine sD (hq _ _) ?_;repeat first|simp|refine sR ?_
    refine sT (sH Hb Ht ?_);simp[<-hN]
   .rw[if_neg e3] at hN;have b3:(byteAt s 0==34)=false:=by simp[e3]
    simp only[b3];refine sC ?_;repeat first|simp|refine sR ?_
    refine sD (hp _ _) ?_;repeat first|simp|refine sR ?_
    cases e4:pairB s
    .rw[if_neg (by simp[e4])] at hN;refine sC ?_;repeat first|simp|refine sR ?_
     refine sD (hx _ _ _) ?_;repeat first|simp|refine sR ?_
     by_cases e5:0<=Lib.indexByte [123,125,40,41,91,93,44,59,58,61,43,45,42,60,62,33,38,124,46,63] (UInt8.ofNat (byteAt s 0).toNat)
     .rw[if_pos e5] at hN;refine sC ?_;simp[e5];repeat first|simp|refine sR ?_
      refine sT (sH Hb Ht ?_);simp[<-hN]
     .rw[if_neg e5] at hN;refine sC ?_;simp[e5];repeat first|simp|refine sR ?_
      refine sT (sH Hb Ht ?_);simp[<-hN]
    .rw[if_pos e4] at hN;refine sC ?_;repeat first|simp|refine sR ?_
     refine sT (sH Hb Ht ?_);simp[<-hN]
  .rw[if_pos e2] at hN;refine sC ?_;repeat first|simp|refine sR ?_
   refine sD (r2) ?_;repeat first|simp|refine sR ?_
   by_cases e3:9<a2
   .have e4:(9:Int)<a2:=by omega
    rw[if_pos e3] at hN;refine sC ?_;simp[e4];repeat first|simp|refine sR ?_
    refine sT (sH Hb Ht ?_);simp[<-hN]
   .have e4:¬(9:Int)<a2:=by omega
    rw[if_neg e3] at hN;refine sC ?_;simp[e4];repeat first|simp|refine sR ?_
    refine sT (sH Hb Ht ?_);simp[<-hN]
 .rw[if_pos e1] at hN;refine sC ?_;repeat first|simp|refine sR ?_
  refine sD (r1) ?_;repeat first|simp|refine sR ?_
  by_cases e3:20<a1
  .have e4:(20:Int)<a1:=by omega
   rw[if_pos e3] at hN;refine sC ?_;simp[e4];repeat first|simp|refine sR ?_
   refine sT (sH Hb Ht ?_);simp[<-hN]
  .have e4:¬(20:Int)<a1:=by omega
   rw[if_neg e3] at hN;refine sC ?_;simp[e4];repeat first|simp|refine sR ?_
   refine sT (sH Hb Ht ?_);simp[<-hN]
def nameB(s:ByteArray):Bool:=decide (1<=s.size/\s.size<=20)&&letB (byteAt s 0)&&decide (runN parB s 0=s.size)
theorem nameB_next{s:ByteArray}(h1:1<=s.size):((decide ((nextR s).2.2=0)&&decide ((nextR s).1=1))&&decide ((nextR s).2.1=(s.size:Int)))=nameB s:=by
 unfold nameB nextR;by_cases e1:letB (byteAt s 0)=true
 .rw[if_pos e1];by_cases e2:20<runN parB s 0
  .rw[if_pos e2];have:¬((1<=s.size/\s.size<=20)/\runN parB s 0=s.size):=by omega
   rw[Bool.eq_iff_iff];simp[e1];omega
  .rw[if_neg e2];rw[Bool.eq_iff_iff];simp[e1];omega
 .rw[if_neg e1];have e1':letB (byteAt s 0)=false:=by simpa using e1
  rw[e1'];simp only[Bool.and_false,Bool.false_and];split
  .split<;>simp
  .split
   .simp
   .split
    .simp
    .split<;>simp
theorem empty_dec{s:ByteArray}:(s.toList==(⟨#[]⟩:ByteArray).toList)=decide (s.size=0):=by
 rw[seq_dec,Bool.eq_iff_iff,decide_eq_true_eq,decide_eq_true_eq];constructor
 .rintro rfl;rfl
 .intro h;obtain⟨⟨l⟩⟩:=s;cases l with
  | nil=>rfl
  | cons x r=>simp[ByteArray.size] at h
theorem wholeN_c(s:ByteArray)(hs:s.size<=200000000000000):DC 200 [.agg [I 1,Sb s,I 0]] (.tup [Sb s,B (nameB s)]):=by
 intro tok nt box nb;by_cases h0:s.size=0
 .have b0:(s.toList==(⟨#[]⟩:ByteArray).toList)=true:=by rw[empty_dec];simp[h0]
  have hse:s=⟨#[]⟩:=by rw[seq_dec] at b0;simpa using b0
  have hn:nameB s=false:=by simp[nameB,h0]
  rw[hn];refine sI func200 ntmps200 fun Hb Ht=>?_
  repeat (first|simp|refine sR ?_)
  refine sC ?_
  repeat (first|simp|refine sR ?_)
  have b1:s.toList=[]:=by simpa using b0
  repeat first|simp[b1]|refine sR ?_|refine sC ?_
  refine sT (sH Hb Ht ?_);simp[hse]
 .have b0:(s.toList==(⟨#[]⟩:ByteArray).toList)=false:=by rw[empty_dec];simp[h0]
  have hx:=next_c s (by omega) hs;have hnb:=nameB_next (s:=s) (by omega);generalize nextR s=N at *;refine sI func200 ntmps200 fun Hb Ht=>?_
  repeat (first|simp|refine sR ?_)
  refine sC ?_
  repeat (first|simp|refine sR ?_)
  have b1:¬s.toList=[]:=by simpa using b0
  repeat first|simp[b1]|refine sR ?_|refine sC ?_
  refine sD (hx _ _) ?_;simp;by_cases f1:N.2.2=0
  .have g1:(N.2.2==0)=true:=by simp[f1]
   by_cases f2:N.1=1
   .have g2:(N.1==1)=true:=by simp[f2]
    repeat first|simp[g1,g2]|refine sR ?_
    by_cases f3:N.2.1=(s.size:Int)
    .have g3:(N.2.1==(s.size:Int))=true:=by simp[f3]
     rw[<-hnb];refine sT (sH Hb Ht ?_);simp[f1,f2,f3,g3]
    .have g3:(N.2.1==(s.size:Int))=false:=by simp[f3]
     rw[<-hnb];refine sT (sH Hb Ht ?_);simp[f1,f2,f3,g3]
   .have g2:(N.1==1)=false:=by simp[f2]
    rw[<-hnb];repeat first|simp[g1,g2]|refine sR ?_
    refine sT (sH Hb Ht ?_);simp[f1,f2]
  .have g1:(N.2.2==0)=false:=by simp[f1]
   rw[<-hnb];repeat first|simp[g1]|refine sR ?_
   refine sT (sH Hb Ht ?_);simp[f1]
theorem isName_c(s:ByteArray)(hs:s.size<=200000000000000):DC 121 [Sb s] (B (nameB s)):=by
 intro tok nt box nb;have h:=wholeN_c s hs;refine sI func121 ntmps121 fun Hb Ht=>?_
 repeat first|simp|refine sR ?_
 refine sD (h _ _) ?_;repeat first|simp|refine sR ?_
 refine sT (sH Hb Ht ?_);simp
theorem letter01_c(c:Int):DC 250 [Ub c] (B (letB c)):=by
 intro tok nt box nb;by_cases h1:97<=c
 .by_cases h2:c<=122
  .refine sI func250 ntmps250 fun Hb Ht=>?_
   repeat first|simp[h1,h2]|refine sR ?_
   refine sT (sH Hb Ht ?_);simp[letB,h1,h2]
  .have h3:¬c<=90:=by omega
   have h4:65<=c:=by omega
   refine sI func250 ntmps250 fun Hb Ht=>?_
   repeat first|simp[h1,h2,h3,h4]|refine sR ?_
   refine sT (sH Hb Ht ?_);simp[letB,h1,h2,h3,h4]
 .by_cases h3:65<=c
  .by_cases h4:c<=90
   .refine sI func250 ntmps250 fun Hb Ht=>?_
    repeat first|simp[h1,h3,h4]|refine sR ?_
    refine sT (sH Hb Ht ?_);simp[letB,h1,h3,h4]
   .refine sI func250 ntmps250 fun Hb Ht=>?_
    repeat first|simp[h1,h3,h4]|refine sR ?_
    refine sT (sH Hb Ht ?_);simp[letB,h1,h3,h4]
  .refine sI func250 ntmps250 fun Hb Ht=>?_
   repeat first|simp[h1,h3]|refine sR ?_
   refine sT (sH Hb Ht ?_);simp[letB,h1,h3]
theorem digit01_c(c:Int):DC 251 [Ub c] (B (digB c)):=by
 intro tok nt box nb;by_cases h1:48<=c
 .by_cases h2:c<=57
  .refine sI func251 ntmps251 fun Hb Ht=>?_
   repeat first|simp[h1,h2]|refine sR ?_
   refine sT (sH Hb Ht ?_);simp[digB,h1,h2]
  .refine sI func251 ntmps251 fun Hb Ht=>?_
   repeat first|simp[h1,h2]|refine sR ?_
   refine sT (sH Hb Ht ?_);simp[digB,h1,h2]
 .refine sI func251 ntmps251 fun Hb Ht=>?_
  repeat first|simp[h1]|refine sR ?_
  refine sT (sH Hb Ht ?_);simp[digB,h1]
def stR01(s:ByteArray)(d:Bool)(nb:Nat)(box:Bxs)(tok:Tks)(nt:Nat)(i:Nat):AS:=⟨tl [(0,Sb s),(1,I 0),(2,B d),(7,I i)],lb nb box [],tok,nt⟩
def pd(d:Bool)(c:Int):Bool:=digB c||(!d&&(letB c||c==95))
theorem pd_false:pd false=parB:=by
 funext c
 simp only[pd,parB,Bool.not_false,Bool.true_and];cases letB c<;>cases digB c<;>simp
set_option maxRecDepth 100000 in
theorem run01_c(s:ByteArray)(d:Bool)(hs:s.size<=200000000000000):DC 252 [Sb s,I 0,B d] (I (runN (pd d) s 0)):=by
 intro tok nt box nb;have hl:=letter01_c;have hd:=digit01_c;refine sI func252 ntmps252 fun Hb Ht=>?_
 repeat first|simp|refine sR ?_
 refine sN ?_;refine sL (stR01 s d nb box tok nt) (fun i=>i<=s.size/\∀j,j<i->pd d (byteAt s j)=true) (fun i=>s.size-i) 0 ⟨Nat.zero_le _,by omega⟩ (wM (nr _) rfl (by simp[ToL,lk]) trivial) ?_;rintro i S' ⟨hi,hok⟩ hS;simp only[stR01] at hS;subst hS;have hw:=sW (i:=i) (by omega);have hwi:IntKind.i64.wrap (i:Int)=i:=wrap_in (by omega) (by omega)
 by_cases hlt:i<s.size
 .have hbb:=byteAt_lt hlt;have hr:=runN_eq (p:=pd d) (s:=s) (a:=0) (i:=i) (by omega) (fun j hj=>by rw[Nat.zero_add];exact hok j hj);rw[Nat.zero_add,<-hbb] at hr;have hok2:pd d (s.data[i].toNat)=true->∀j,j<i+1->pd d (byteAt s j)=true:=fun h j hj=>by
   by_cases e:j=i
   .rw[e,<-hbb];exact h
   .exact hok j (by omega)
  have hd:=hd (s.data[i].toNat);have hl:=hl (s.data[i].toNat);have fin1:pd d (s.data[i].toNat)=false->runN (pd d) s 0=i:=fun h=>hr (.inr h)
  cases ed:digB (s.data[i].toNat)
  .rw[ed] at hd;cases d
   .cases el:letB (s.data[i].toNat)
    .rw[el] at hl;cases eu:((s.data[i].toNat:Int)==95)
     .have hr:=fin1 (by simp[pd,ed,el,eu]);repeat first|simp[hlt,hwi]|refine sR ?_
      refine sD (hd _ _) ?_;simp;repeat first|simp[hlt,hwi]|refine sR ?_
      refine sD (hl _ _) ?_;simp;repeat first|simp[hlt,hwi,eu]|refine sR ?_|refine sC ?_
      refine sX ?_;simp only[AU,↓reduceIte];repeat first|simp|refine sR ?_
      refine sT (sH Hb Ht ?_);simp[hr]
     .have hv:=hok2 (by simp[pd,ed,el,eu]);repeat first|simp[hlt,hwi]|refine sR ?_
      refine sD (hd _ _) ?_;simp;repeat first|simp[hlt,hwi]|refine sR ?_
      refine sD (hl _ _) ?_;simp;repeat first|simp[hlt,hwi,eu]|refine sR ?_
      refine sC ?_;simp;repeat first|simp[hw]|refine sR ?_
      refine sE ?_;exact⟨i+1,⟨hlt,hv⟩,by omega,wM (nr _) rfl (by simp[ToL,lk]) trivial⟩
    .rw[el] at hl;have hv:=hok2 (by simp[pd,ed,el]);repeat first|simp[hlt,hwi]|refine sR ?_
     refine sD (hd _ _) ?_;simp;repeat first|simp[hlt,hwi]|refine sR ?_
     refine sD (hl _ _) ?_;simp;repeat first|simp[hlt,hwi]|refine sR ?_
     refine sC ?_;simp;repeat first|simp[hw]|refine sR ?_
     refine sE ?_;exact⟨i+1,⟨hlt,hv⟩,by omega,wM (nr _) rfl (by simp[ToL,lk]) trivial⟩
   .have hr:=fin1 (by simp[pd,ed]);repeat first|simp[hlt,hwi]|refine sR ?_
    refine sD (hd _ _) ?_;simp;repeat first|simp[hlt,hwi]|refine sR ?_|refine sC ?_
    refine sX ?_;simp only[AU,↓reduceIte];repeat first|simp|refine sR ?_
    refine sT (sH Hb Ht ?_);simp[hr]
  .rw[ed] at hd;have hv:=hok2 (by simp[pd,ed]);repeat first|simp[hlt,hwi]|refine sR ?_
   refine sD (hd _ _) ?_;simp;repeat first|simp[hlt,hwi]|refine sR ?_
   refine sC ?_;simp;repeat first|simp[hw]|refine sR ?_
   refine sE ?_;exact⟨i+1,⟨hlt,hv⟩,by omega,wM (nr _) rfl (by simp[ToL,lk]) trivial⟩
 .have hie:i=s.size:=by omega
  have hr:=runN_eq (p:=pd d) (s:=s) (a:=0) (i:=i) (by omega) (fun j hj=>by rw[Nat.zero_add];exact hok j hj) (.inl (by omega));repeat first|simp[hlt,hwi]|refine sR ?_|refine sC ?_
  refine sX ?_;simp only[AU,↓reduceIte];repeat first|simp|refine sR ?_
  refine sT (sH Hb Ht ?_);simp[hr]
def quoT(s:ByteArray)(n:Nat):Int :=
 if n<s.size then (if byteAt s n=34 then (n:Int)+1 else if byteAt s n<32∨126<byteAt s n then 0 else quoT s (n+1)) else 0
termination_by s.size-n
theorem quoT_end{s:ByteArray}{n:Nat}(h:¬n<s.size):quoT s n=0:=by rw[quoT,if_neg h]
theorem quoT_q{s:ByteArray}{n:Nat}(h:n<s.size)(h1:byteAt s n=34):quoT s n=(n:Int)+1:=by rw[quoT,if_pos h,if_pos h1]
theorem quoT_bad{s:ByteArray}{n:Nat}(h:n<s.size)(h1:¬byteAt s n=34)(h2:byteAt s n<32∨126<byteAt s n):quoT s n=0:=by rw[quoT,if_pos h,if_neg h1,if_pos h2]
theorem quoT_go{s:ByteArray}{n:Nat}(h:n<s.size)(h1:¬byteAt s n=34)(h2:¬(byteAt s n<32∨126<byteAt s n)):quoT s n=quoT s (n+1):=by rw[quoT,if_pos h,if_neg h1,if_neg h2]
theorem quoT_rng(s:ByteArray):∀(k n:Nat),s.size-n=k->1<=n->quoT s n=0∨2<=quoT s n/\quoT s n<=s.size
 | 0,n,hk,_=>.inl (quoT_end (by omega))
 | k+1,n,hk,h1=>by
  have hlt:n<s.size:=by omega
  by_cases e1:byteAt s n=34
  .rw[quoT_q hlt e1];right;omega
  .by_cases e2:byteAt s n<32∨126<byteAt s n
   .exact .inl (quoT_bad hlt e1 e2)
   .rw[quoT_go hlt e1 e2];exact quoT_rng s k (n+1) (by omega) (by omega)
def stQ01(s:ByteArray)(nb:Nat)(box:Bxs)(tok:Tks)(nt:Nat)(i:Nat):AS:=⟨tl [(0,Sb s),(1,I 0),(5,I i)],lb nb box [],tok,nt⟩
theorem quoted01_c(s:ByteArray)(hs:s.size<=200000000000000):DC 253 [Sb s,I 0] (I (quoT s 1)):=by
 intro tok nt box nb;refine sI func253 ntmps253 fun Hb Ht=>?_
 repeat first|simp|refine sR ?_
 refine sN ?_;by_cases h0:1<=s.size
 .refine sL (stQ01 s nb box tok nt) (fun i=>i<=s.size/\quoT s 1=quoT s i) (fun i=>s.size-i) 1 ⟨h0,rfl⟩ (wM (nr _) rfl (by simp[ToL,lk]) trivial) ?_;rintro i S' ⟨hi,hq⟩ hS;simp only[stQ01] at hS;subst hS;have hw:=sW (i:=i) (by omega);have hwi:IntKind.i64.wrap (i:Int)=i:=wrap_in (by omega) (by omega)
  by_cases hlt:i<s.size
  .have hbb:=byteAt_lt hlt;repeat (first|simp[hlt,hwi]|refine sR ?_)
   refine sC ?_
   repeat (first|simp[hlt,hwi]|refine sR ?_)
   rw[hbb];by_cases e1:byteAt s i=34
   .have b1:(byteAt s i==34)=true:=by simp[e1]
    have hr:=quoT_q hlt e1;simp only[b1];refine sC ?_;simp;repeat first|simp[hw]|refine sR ?_
    refine sT (sH Hb Ht ?_);simp[hq,hr]
   .have b1:(byteAt s i==34)=false:=by simp[e1]
    simp only[b1];refine sC ?_;simp;by_cases e2:byteAt s i<32
    .have hr:=quoT_bad hlt e1 (.inl e2);repeat first|simp[e2]|refine sR ?_
     refine sC ?_;repeat first|simp|refine sR ?_
     refine sT (sH Hb Ht ?_);simp[hq,hr]
    .by_cases e3:126<byteAt s i
     .have hr:=quoT_bad hlt e1 (.inr e3);repeat first|simp[e2,e3]|refine sR ?_
      refine sC ?_;repeat first|simp|refine sR ?_
      refine sT (sH Hb Ht ?_);simp[hq,hr]
     .have hr:=quoT_go hlt e1 (by omega);repeat first|simp[e2,e3]|refine sR ?_
      refine sC ?_;simp;repeat first|simp[hw]|refine sR ?_
      refine sE ?_;exact⟨i+1,⟨hlt,hq.trans hr⟩,by omega,wM (nr _) rfl (by simp[ToL,lk]) trivial⟩
  .have hr:=quoT_end hlt;repeat first|simp[hlt,hwi]|refine sR ?_|refine sC ?_
   refine sX ?_;simp only[AU,↓reduceIte];repeat first|simp|refine sR ?_
   refine sT (sH Hb Ht ?_);simp[hq,hr]
 .have hr:=quoT_end (s:=s) (n:=1) (by omega);refine sL (stQ01 s nb box tok nt) (fun i=>i=1) (fun i=>0) 1 rfl (wM (nr _) rfl (by simp[ToL,lk]) trivial) ?_;rintro i S' rfl hS;simp only[stQ01] at hS;subst hS;have h1:¬(1:Int)<s.size:=by omega
  have hwi:IntKind.i64.wrap (1:Int)=1:=rfl
  repeat first|simp[hwi,h1]|refine sR ?_|refine sC ?_
  refine sX ?_;simp only[AU,↓reduceIte];repeat first|simp|refine sR ?_
  refine sT (sH Hb Ht ?_);simp[hr]
def signL:List ByteArray:=[⟨#[45,62]⟩,⟨#[60,61]⟩,⟨#[62,61]⟩,⟨#[61,61]⟩,⟨#[33,61]⟩,⟨#[123]⟩,⟨#[125]⟩,⟨#[40]⟩,⟨#[41]⟩,⟨#[91]⟩,⟨#[93]⟩,⟨#[44]⟩,⟨#[59]⟩,⟨#[58]⟩,⟨#[61]⟩,⟨#[43]⟩,⟨#[45]⟩,⟨#[42]⟩,⟨#[60]⟩,⟨#[62]⟩,⟨#[33]⟩,⟨#[38]⟩,⟨#[124]⟩,⟨#[46]⟩,⟨#[63]⟩]
theorem signs01_c:DC 254 [] (.d (strs signL)):=by
 intro tok nt box nb;refine sI func254 ntmps254 fun Hb Ht=>?_
 repeat first|simp|refine sR ?_
 refine⟨rfl,?_⟩;repeat first|simp|refine sR ?_
 refine sT (sH Hb Ht ?_);simp[strs,signL]
def sgnT(s:ByteArray):List ByteArray->Int × ByteArray × Int × Int
 | []=>(0,⟨#[]⟩,0,2)
 | x::r=>if x.size<=s.size/\s.extract 0 x.size=x then (4,x,x.size,0) else sgnT s r
theorem sgnT_cons(s x:ByteArray)(r:List ByteArray):sgnT s (x::r)=if x.size<=s.size/\s.extract 0 x.size=x then ((4:Int),x,(x.size:Int),(0:Int)) else sgnT s r:=rfl
theorem sgnT_kind(s:ByteArray):∀l,(sgnT s l).1=4/\(sgnT s l).2.2.2=0∨(sgnT s l).2.2.2=2
 | []=>.inr rfl
 | x::r=>by
  unfold sgnT;split
  .exact .inl ⟨rfl,rfl⟩
  .exact sgnT_kind s r
def oneR(s:ByteArray):Int × ByteArray × Int × Int :=
 if letB (byteAt s 0)=true∨digB (byteAt s 0)=true then
  (if (if digB (byteAt s 0)=true then 9 else 20)<runN (pd (digB (byteAt s 0))) s 0 then (0,⟨#[]⟩,0,3)
   else (if digB (byteAt s 0)=true then 2 else 1,s.extract 0 (runN (pd (digB (byteAt s 0))) s 0),runN (pd (digB (byteAt s 0))) s 0,0))
 else if byteAt s 0=34 then (if quoT s 1=0 then (0,⟨#[]⟩,0,2) else if 60<quoT s 1-2 then (0,⟨#[]⟩,0,3) else (3,s.extract 1 ((quoT s 1).toNat-1),quoT s 1,0))
 else sgnT s signL
def stSg(s:ByteArray)(L:List ByteArray)(nb:Nat)(box:Bxs)(tok:Tks)(nt:Nat)(i:Nat):AS :=
 ⟨tl [(13,I i),(12,.d (strs L)),(4,.ptr (nb+4) 0 0),(0,Sb s),(1,I 0)],lb nb box [(4,[[I 0,Sb ⟨#[]⟩,I 0]])],tok,nt⟩
set_option maxRecDepth 100000 in
theorem one01_c(s:ByteArray)(h1:1<=s.size)(hs:s.size<=200000000000000):DC 191 [Sb s,I 0] (.tup [.agg [I (oneR s).1,Sb (oneR s).2.1,I 0],I (oneR s).2.2.1,I (oneR s).2.2.2]):=by
 intro tok nt box nb;obtain⟨N,hN⟩:∃N,oneR s=N:=⟨_,rfl⟩
 rw[hN];unfold oneR at hN;have hl:=letter01_c (byteAt s 0);have hd:=digit01_c (byteAt s 0);have hr:=fun d=>run01_c s d hs
 have hq:=quoted01_c s hs;have hqr:=quoT_rng s _ 1 rfl (nr _);have hsg:=signs01_c;have h0:0<s.size:=h1
 have h0':(0:Int)<s.size:=by omega
 have hb:=byteAt_lt h0;have hrl:runN (pd (digB (byteAt s 0))) s 0<=s.size:=runN_le _ _ _
 cases ed:digB (byteAt s 0)
 .rw[ed] at hd hrl hN;cases el:letB (byteAt s 0)
  .rw[el] at hl hN;rw[if_neg (by simp)] at hN;refine sI func191 ntmps191 fun Hb Ht=>?_
   repeat first|simp[h0,h0']|refine sR ?_
   rw[hb];refine sD (hl _ _) ?_;repeat first|simp|refine sR ?_
   refine sD (hd _ _) ?_;repeat (first|simp|refine sR ?_)
   refine sC ?_
   repeat (first|simp|refine sR ?_)
   by_cases e3:byteAt s 0=34
   .rw[if_pos e3] at hN;have b3:(byteAt s 0==34)=true:=by simp[e3]
    generalize quoT s 1=q at *;repeat first|simp[b3]|refine sR ?_
    refine sC ?_;repeat first|simp|refine sR ?_
    refine sD (hq _ _) ?_;simp;by_cases q0:q=0
    .have b4:(q==0)=true:=by simp[q0]
     rw[if_pos q0] at hN;repeat first|simp[b4]|refine sR ?_
     refine sC ?_;repeat first|simp|refine sR ?_
     refine sT (sH Hb Ht ?_);simp[<-hN]
    .have b4:(q==0)=false:=by simp[q0]
     obtain⟨q1,q2⟩:=hqr.resolve_left q0;rw[if_neg q0] at hN;have w1:IntKind.i64.wrap (q-2)=q-2:=wrap_in (by omega) (by omega)
     have w2:IntKind.i64.wrap q=q:=wrap_in (by omega) (by omega)
     have w3:IntKind.i64.wrap (q-1)=q-1:=wrap_in (by omega) (by omega)
     have w4:IntKind.i64.wrap 1=1:=rfl
     by_cases q3:60<q-2
     .rw[if_pos q3] at hN;repeat first|simp[b4]|refine sR ?_
      refine sC ?_;simp;repeat first|simp[w1]|refine sR ?_
      refine sC ?_;simp[q3];repeat first|simp|refine sR ?_
      refine sT (sH Hb Ht ?_);simp[<-hN]
     .rw[if_neg q3] at hN;have q4:(1:Int)<=q-1:=by omega
      have q5:q-1<=s.size:=by omega
      have q6:1<=q.toNat-1:=by omega
      have q7:q.toNat-1<=s.size:=by omega
      have q8:0<=q-1:=by omega
      repeat first|simp[b4]|refine sR ?_
      refine sC ?_;simp;repeat first|simp[w1]|refine sR ?_
      refine sC ?_;simp[q3];repeat first|simp[w2,w3,w4,q4,q5,q6,q7,q8]|refine sR ?_
      refine⟨by omega,?_⟩;repeat first|simp|refine sR ?_
      refine sT (sH Hb Ht ?_);simp[<-hN]
   .rw[if_neg e3] at hN;have b3:(byteAt s 0==34)=false:=by simp[e3]
    repeat first|simp[b3]|refine sR ?_
    refine sC ?_;repeat first|simp|refine sR ?_
    refine sD (hsg _ _) ?_;repeat first|simp|refine sR ?_
    refine sN ?_;refine sL (stSg s signL nb box tok nt) (fun i=>i<=signL.length/\sgnT s signL=sgnT s (signL.drop i)) (fun i=>signL.length-i) 0 ⟨Nat.zero_le _,rfl⟩ wkA ?_;rintro i S' ⟨hi,hsq⟩ hS;simp only[stSg] at hS;subst hS;have hlen:signL.length<=1000:=by decide
    have hmax:∀x∈signL,x.size<=2:=by decide
    generalize signL=L at *;have hw:=sW (i:=i) (by omega);repeat first|simp|refine sR ?_|refine sC ?_
    refine⟨fun hlt=>?_,fun hge=>?_⟩
    .have hx:=hmax _ (List.getElem_mem hlt);have hdr:L.drop i=L[i]::L.drop (i+1):=List.drop_eq_getElem_cons hlt
     have hwx:IntKind.i64.wrap (L[i].size:Int)=L[i].size:=wrap_in (by omega) (by omega)
     rw[hdr] at hsq;rw[sgnT_cons] at hsq;by_cases c1:L[i].size<=s.size
     .have c1':(L[i].size:Int)<=s.size:=by omega
      by_cases c2:s.extract 0 L[i].size=L[i]
      .have b2:((s.extract 0 L[i].size).toList==L[i].toList)=true:=by rw[seq_dec];simp[c2]
       rw[if_pos ⟨c1,c2⟩] at hsq;repeat first|simp[hlt,hwx,c1,c1',b2]|refine sR ?_
       refine sC ?_;simp[hlt,hwx,c1,c1',b2]
       refine sN ?_;refine AL.region2 follows_Tryz (nr _) (by kernel_rfl) (Side.of (by simp)) ?_;simp[hlt];refine sT (sH Hb Ht ?_);simp[hsq,<-hN]
      .have b2:((s.extract 0 L[i].size).toList==L[i].toList)=false:=by rw[seq_dec];simp[c2]
       rw[if_neg fun h=>c2 h.2] at hsq;repeat first|simp[hlt,hwx,c1,c1',b2]|refine sR ?_
       refine sC ?_;simp;repeat first|simp[hw]|refine sR ?_
       refine sE ?_;exact⟨i+1,⟨hlt,hsq⟩,by omega,wkA⟩
     .have c1':¬(L[i].size:Int)<=s.size:=by omega
      rw[if_neg fun h=>c1 h.1] at hsq;repeat first|simp[hlt,hwx,c1,c1']|refine sR ?_
      refine sC ?_;simp;repeat first|simp[hw]|refine sR ?_
      refine sE ?_;exact⟨i+1,⟨hlt,hsq⟩,by omega,wkA⟩
    .refine sX ?_;simp only[AU,↓reduceIte];repeat first|simp|refine sR ?_
     have hie:i=L.length:=by omega
     rw[hie,List.drop_length] at hsq;refine sT (sH Hb Ht ?_);simp[<-hN,hsq,sgnT]
  .rw[el] at hl hN;rw[if_pos (by simp)] at hN;have hr:=hr false;generalize runN (pd false) s 0=n at *;refine sI func191 ntmps191 fun Hb Ht=>?_
   repeat first|simp[h0,h0']|refine sR ?_
   rw[hb];refine sD (hl _ _) ?_;repeat first|simp|refine sR ?_
   refine sC ?_;repeat first|simp|refine sR ?_
   refine sD (hd _ _) ?_;repeat first|simp|refine sR ?_
   refine sD (hr _ _) ?_;repeat first|simp|refine sR ?_
   refine sD (hd _ _) ?_;repeat first|simp|refine sR ?_
   refine sC ?_;repeat first|simp|refine sR ?_
   by_cases e3:20<n
   .have e4:(20:Int)<n:=by omega
    simp only[Bool.false_eq_true,if_false] at hN;rw[if_pos e3] at hN;refine sC ?_;simp[e4];repeat first|simp|refine sR ?_
    refine sT (sH Hb Ht ?_);simp[<-hN]
   .have e4:¬(20:Int)<n:=by omega
    simp only[Bool.false_eq_true,if_false] at hN;rw[if_neg e3] at hN;have hwn:IntKind.i64.wrap (n:Int)=n:=wrap_in (by omega) (by omega)
    have hns:(n:Int)<=s.size:=by omega
    refine sC ?_;simp[e4];repeat first|simp[hwn,hns,hrl]|refine sR ?_
    refine sT (sH Hb Ht ?_);simp[<-hN]
 .rw[ed] at hd hrl hN;have el:letB (byteAt s 0)=false:=by
   have:=ed
   unfold digB at this;unfold letB;simp only[decide_eq_true_eq,decide_eq_false_iff_not] at this ⊢;omega
  rw[el] at hl;rw[if_pos (by simp)] at hN;have hr:=hr true;generalize runN (pd true) s 0=n at *;refine sI func191 ntmps191 fun Hb Ht=>?_
  repeat first|simp[h0,h0']|refine sR ?_
  rw[hb];refine sD (hl _ _) ?_;repeat first|simp|refine sR ?_
  refine sD (hd _ _) ?_;repeat first|simp|refine sR ?_
  refine sC ?_;repeat first|simp|refine sR ?_
  refine sD (hd _ _) ?_;repeat first|simp|refine sR ?_
  refine sD (hr _ _) ?_;repeat first|simp|refine sR ?_
  refine sD (hd _ _) ?_;repeat first|simp|refine sR ?_
  refine sC ?_;repeat first|simp|refine sR ?_
  by_cases e3:9<n
  .have e4:(9:Int)<n:=by omega
   simp only[if_true] at hN;rw[if_pos e3] at hN;refine sC ?_;simp[e4];repeat first|simp|refine sR ?_
   refine sT (sH Hb Ht ?_);simp[<-hN]
  .have e4:¬(9:Int)<n:=by omega
   simp only[if_true] at hN;rw[if_neg e3] at hN;have hwn:IntKind.i64.wrap (n:Int)=n:=wrap_in (by omega) (by omega)
   have hns:(n:Int)<=s.size:=by omega
   refine sC ?_;simp[e4];repeat first|simp[hwn,hns,hrl]|refine sR ?_
   refine sT (sH Hb Ht ?_);simp[<-hN]
theorem let_dig{c:Int}(h:letB c=true):digB c=false:=by
 unfold letB at h;unfold digB;simp only[decide_eq_true_eq,decide_eq_false_iff_not] at h ⊢;omega
theorem nameB_one{s:ByteArray}(h1:1<=s.size):((decide ((oneR s).2.2.2=0)&&decide ((oneR s).2.2.1=(s.size:Int)))&&decide ((oneR s).1=1))=nameB s:=by
 unfold nameB oneR;by_cases e1:letB (byteAt s 0)=true
 .have e2:=let_dig e1;rw[if_pos (.inl e1),e2,pd_false];simp only[Bool.false_eq_true,if_false];by_cases e3:20<runN parB s 0
  .rw[if_pos e3,Bool.eq_iff_iff];simp[e1];omega
  .rw[if_neg e3,Bool.eq_iff_iff];simp[e1];omega
 .have e1':letB (byteAt s 0)=false:=by simpa using e1
  rw[e1'];simp only[Bool.and_false,Bool.false_and];split
  .rename_i h;have hd:digB (byteAt s 0)=true:=h.resolve_left (by simp)
   rw[hd];simp only[if_true];split<;>simp
  .split
   .split
    .simp
    .split<;>simp
   .rcases sgnT_kind s signL with ⟨k1,_⟩|k1<;>simp[k1]
theorem text01_c(s:ByteArray):DC 259 [.agg [I 1,Sb s,I 0]] (Sb s):=by
 intro tok nt box nb;refine sI func259 ntmps259 fun Hb Ht=>?_
 repeat first|simp|refine sR ?_
 refine sC ?_;repeat first|simp|refine sR ?_
 refine sT (sH Hb Ht ?_);simp
theorem right01_c(s:ByteArray)(hs:s.size<=200000000000000):DC 207 [.agg [I 1,Sb s,I 0]] (B (nameB s)):=by
 intro tok nt box nb;have ht:=text01_c s;by_cases h0:s.size=0
 .have b0:(s.toList==(⟨#[]⟩:ByteArray).toList)=true:=by rw[empty_dec];simp[h0]
  have b1:s.toList=[]:=by simpa using b0
  have hn:nameB s=false:=by simp[nameB,h0]
  rw[hn];refine sI func207 ntmps207 fun Hb Ht=>?_
  repeat first|simp|refine sR ?_
  refine sD (ht _ _) ?_;repeat first|simp[b1]|refine sR ?_|refine sC ?_
  refine sT (sH Hb Ht ?_);simp
 .have b0:(s.toList==(⟨#[]⟩:ByteArray).toList)=false:=by rw[empty_dec];simp[h0]
  have b1:¬s.toList=[]:=by simpa using b0
  have hx:=one01_c s (by omega) hs;have hnb:=nameB_one (s:=s) (by omega);rw[<-hnb];generalize oneR s=N at *;refine sI func207 ntmps207 fun Hb Ht=>?_
  repeat first|simp|refine sR ?_
  refine sD (ht _ _) ?_;repeat first|simp[b1]|refine sR ?_|refine sC ?_
  refine sD (hx _ _) ?_;simp;by_cases f1:N.2.2.2=0
  .have g1:(N.2.2.2==0)=true:=by simp[f1]
   by_cases f3:N.2.2.1=(s.size:Int)
   .have g3:(N.2.2.1==(s.size:Int))=true:=by simp[f3]
    repeat first|simp[g1,g3]|refine sR ?_
    by_cases f2:N.1=1
    .have g2:(N.1==1)=true:=by simp[f2]
     refine sT (sH Hb Ht ?_);simp[f1,f2,f3,g2]
    .have g2:(N.1==1)=false:=by simp[f2]
     refine sT (sH Hb Ht ?_);simp[f1,f2,f3,g2]
   .have g3:(N.2.2.1==(s.size:Int))=false:=by simp[f3]
    repeat first|simp[g1,g3]|refine sR ?_
    refine sT (sH Hb Ht ?_);simp[f1,f3]
  .have g1:(N.2.2.2==0)=false:=by simp[f1]
   repeat first|simp[g1]|refine sR ?_
   refine sT (sH Hb Ht ?_);simp[f1]
theorem isName01_c(s:ByteArray)(hs:s.size<=200000000000000):DC 128 [Sb s] (B (nameB s)):=by
 intro tok nt box nb;have h:=right01_c s hs;refine sI func128 ntmps128 fun Hb Ht=>?_
 repeat first|simp|refine sR ?_
 refine sD (h _ _) ?_;repeat first|simp|refine sR ?_
 refine sT (sH Hb Ht ?_);simp
variable {P:Program}
def Trans(cx:Cx)(nt0:Nat)(S S':AS):Prop:=∀G0 w0 G a w,Entry cx nt0 G0->G0.nt<=nt0->RelS cx.n cx.nb G S a w->LeC cx G0 w0 G w S->∃G',RelS cx.n cx.nb G' S' a w/\LeC cx G0 w0 G' w S'
theorem AT.trans{cx:Cx}{nt0:Nat}{c:Code}{S S':AS}{K:Exit->AS->Prop}(h:Trans cx nt0 S S')(k:AT P cx nt0 c S' K):AT P cx nt0 c S K:=by
 intro G0 w0 he hn G a w hr hl;obtain⟨G',hr',hl'⟩:=h G0 w0 G a w he hn hr hl;exact k G0 w0 he hn G' a w hr' hl'
theorem AL.trans{cx:Cx}{nt0:Nat}{K:Exit->AS->Prop}{r:List CI}{S S':AS}{x:Code}(hw:Trans cx nt0 S S')(h:AL P cx nt0 K (.c x::r) S'):AL P cx nt0 K (.c x::r) S:=by
 simp only[AL] at h ⊢;exact AT.trans hw h
theorem AL.mid{cx:Cx}{nt0:Nat}{K:Exit->AS->Prop}{r:List CI}{S:AS}{x y:Code}(T:AS)(h1:AL P cx nt0 (fun e S'=>match e with
   | .normal=>Weaks cx nt0 S' T
   | e=>AU P cx nt0 K (.c y::r) e S') [.c x] S)(h2:AL P cx nt0 K (.c y::r) T):AL P cx nt0 K (.c x::.c y::r) S:=by
 have h3:=AL.start h1;simp only[AL] at h2 ⊢;refine h3.mono fun e S' h=>?_
 cases e with
 | normal=>exact AT.weaks h h2
 | _=>exact h
inductive ThTo (t k sz:Nat) (es:List (List D)):AV->AV->Prop
 | bot {x}:ThTo t k sz es x .bot
 | same {x}:ThTo t k sz es x x
 | ex:ThTo t k sz es (.ex t sz es) (.msl k 0 es.length sz)
 | agg {cs ds:List AV} (hl:cs.length=ds.length) (h:∀i (h1:i<cs.length) (h2:i<ds.length),ThTo t k sz es cs[i] ds[i]):ThTo t k sz es (.agg cs) (.agg ds)
theorem rowsD_flat(es:List (List D)):(rowsD es).flatten=es.flatten.map AV.d:=by
 induction es with
 | nil=>rfl
 | cons e es ih=>simp only[rowsD,List.map_cons,List.flatten_cons,List.map_append] at ih ⊢;rw[ih]
inductive SeTo (t k sz:Nat) (es:List (List D)):AV->AV->Prop
 | bot {x}:SeTo t k sz es x .bot
 | same {x} (h:OkIn (· ≠ k) (fun _=>True) x):SeTo t k sz es x x
 | msl:SeTo t k sz es (.msl k 0 es.length sz) (.ex t sz es)
 | agg {cs ds:List AV} (hl:cs.length=ds.length) (h:∀i (h1:i<cs.length) (h2:i<ds.length),SeTo t k sz es cs[i] ds[i]):SeTo t k sz es (.agg cs) (.agg ds)
section
variable {t k sz:Nat} {es:List (List D)}
@[simp] theorem thTo_bot(x:AV):ThTo t k sz es x .bot:=.bot
@[simp] theorem thTo_same(x:AV):ThTo t k sz es x x:=.same
@[simp] theorem thTo_ex{n:Nat}:ThTo t k sz es (.ex t sz es) (.msl k 0 n sz)↔n=es.length:=⟨fun h=>by cases h;rfl,fun h=>by subst h;exact .ex⟩
@[simp] theorem seTo_bot(x:AV):SeTo t k sz es x .bot:=.bot
@[simp] theorem seTo_d(x:D):SeTo t k sz es (.d x) (.d x):=.same .d
@[simp] theorem seTo_osl(n:Nat)(xs:List (List D))(o:Own):SeTo t k sz es (.osl n xs o) (.osl n xs o):=.same (.osl fun _ _=>trivial)
@[simp] theorem seTo_msl:SeTo t k sz es (.msl k 0 es.length sz) (.ex t sz es):=.msl
end
@[simp] theorem to_ex{p:Nat->Prop}{fz:Option (Nat × Nat × List (List D))}(t sz:Nat)(es:List (List D)):To p (fun _=>True) fz (.ex t sz es) (.ex t sz es):=.same (.ex trivial)
@[simp] theorem okIn_ex{p q:Nat->Prop}{t sz:Nat}{es:List (List D)}:OkIn p q (.ex t sz es)↔q t:=⟨fun h=>by cases h;assumption,.ex⟩
theorem TK.more{mtok:Nat->Bool}{nt0:Nat}{tok:Nat->Bool}{nt:Nat}{os:List Own}(h:TK mtok nt0 tok nt os)(q:Nat):TK mtok nt0 (upd tok (nt+q) true) (nt+q+1) (.tok (nt+q)::os):=by
 have hle:=h.le;refine⟨fun t ht=>?_,h.lt,by omega,fun o ho t e=>?_,List.pairwise_cons.2 ⟨fun o ho t e e'=>?_,h.ne⟩⟩
 .have:=h.lt t ht
  rw[uO _ _ (by omega)];exact h.old t ht
 .rcases List.mem_cons.1 ho with rfl|ho
  .cases e;exact⟨uS _ _ _,by omega,by omega⟩
  .obtain⟨h1,h2,h3⟩:=h.own o ho t e;exact⟨by rw[uO _ _ (by omega)];exact h1,h2,by omega⟩
 .cases e;have:=(h.own o ho _ e').2.2
  omega
theorem TK.spend{mtok:Nat->Bool}{nt0:Nat}{tok:Nat->Bool}{nt t:Nat}{os:List Own}(h:TK mtok nt0 tok nt (.tok t::os)):TK mtok nt0 (upd tok t false) nt os:=by
 have hp:=List.pairwise_cons.1 h.ne;obtain⟨_,t1,t2⟩:=h.own _ (by simp) t rfl;refine⟨fun q hq=>?_,h.lt,h.le,fun o ho q e=>?_,hp.2⟩
 .have:=h.lt q hq
  rw[uO _ _ (by omega)];exact h.old q hq
 .obtain⟨h1,h2,h3⟩:=h.own o (by simp[ho]) q e;refine⟨?_,h2,h3⟩;rw[uO _ _ (fun e2=>by subst e2;exact hp.1 o ho q rfl e)];exact h1
abbrev U(n:Int):AV:=.d (.raw (.int .u64 n))
@[simp] theorem rowsI_tail(l:List Int):(rowsI l).tail=rowsI l.tail:=by simp[rowsI]
structure Sl where
 a:Int
 b:Int
 c:Int
 d:Int
 deriving DecidableEq,Inhabited
structure Te where
 k:Int
 a:Int
 b:Int
 c:Int
 d:Int
 deriving DecidableEq,Inhabited
abbrev Sl.cells(s:Sl):List D:=[.raw (.int .i64 s.a),.raw (.int .i64 s.b),.raw (.int .i64 s.c),.raw (.int .i64 s.d)]
abbrev Te.cells(t:Te):List D:=[.raw (.int .i64 t.k),.raw (.int .i64 t.a),.raw (.int .i64 t.b),.raw (.int .i64 t.c),.raw (.int .i64 t.d)]
abbrev slots(l:List Sl):D:=.sl 4 (l.map Sl.cells)
abbrev tests(l:List Te):D:=.sl 5 (l.map Te.cells)
inductive Cd where
 | mk (kind:Int) (kids:List Cd) (m:Mo) (g:Gr) (sl:List Sl) (vars:Int) (te:List Te)
def Cd.kind:Cd->Int|.mk k _ _ _ _ _ _=>k
def Cd.kids:Cd->List Cd|.mk _ c _ _ _ _ _=>c
def Cd.m:Cd->Mo|.mk _ _ m _ _ _ _=>m
def Cd.g:Cd->Gr|.mk _ _ _ g _ _ _=>g
def Cd.sl:Cd->List Sl|.mk _ _ _ _ s _ _=>s
def Cd.vars:Cd->Int|.mk _ _ _ _ _ v _=>v
def Cd.te:Cd->List Te|.mk _ _ _ _ _ _ t=>t
mutual
def Cd.cells:Cd->List D
 | .mk k c m g s v t=>[.raw (.int .i64 k),.sl 9 (Cd.rows c),ints m.nodes,ints m.edges,ints g.nodes,AM.edges g.edges,slots s,.raw (.int .i64 v),tests t]
def Cd.rows:List Cd->List (List D)
 | []=>[]
 | x::r=>Cd.cells x::Cd.rows r
end
theorem Cd.rows_map:∀l:List Cd,Cd.rows l=l.map Cd.cells
 | []=>by simp[Cd.rows]
 | x::r=>by simp[Cd.rows,Cd.rows_map r]
theorem Cd.cells_eq(c:Cd):c.cells=[.raw (.int .i64 c.kind),.sl 9 (c.kids.map Cd.cells),ints c.m.nodes,ints c.m.edges,ints c.g.nodes,AM.edges c.g.edges,slots c.sl,.raw (.int .i64 c.vars),tests c.te]:=by
 cases c;simp[Cd.cells,Cd.rows_map,Cd.kind,Cd.kids,Cd.m,Cd.g,Cd.sl,Cd.vars,Cd.te]
abbrev conds(l:List Cd):D:=.sl 9 (l.map Cd.cells)
abbrev Cd.row(c:Cd):List AV:=[I c.kind,.d (conds c.kids),.d (ints c.m.nodes),.d (ints c.m.edges),.d (ints c.g.nodes),.d (AM.edges c.g.edges),.d (slots c.sl),I c.vars,.d (tests c.te)]
abbrev Cd.av(c:Cd):AV:=.agg c.row
def z0(n:Int):Bool:=n==0
variable {P:Program}
open Go Go.Proofs Go.RowKit
open Go.Proofs.Tryz
def wantX(p:Gr)(N:List Int)(i:Nat):E:=⟨(p.edges.getD i default).ty,N.getD (p.edges.getD i default).fr.toNat 0,N.getD (p.edges.getD i default).to.toNat 0⟩
def cdOf(k:Int)(kids:List Cd):Cd:=.mk k kids ⟨[],[]⟩ ⟨[],[]⟩ [] 0 []
section
end
variable {P:Program}
def FarP(S:AS):List (Operand × Operand)->Prop
 | []=>True
 | (p,q)::r=>NK (S.ev p) (S.ev q)/\FarP S r
def StopW(P:Program)(o:Oper)(fid:FuncId)(args:List AV)(S:AS)(K:AS->Prop):Prop :=
 (∃v tok' nt',RCall P fid args S.box S.tok S.nt v tok' nt'/\K ⟨putT S.tmps o.dst v,S.box,tok',nt'⟩) ∨
 ∃x k i off rows v tok' nt',callPtr o.op=some x/\S.ev x=.ptr k i off/\S.box k≠none/\WCall P fid args k S.box S.tok S.nt v rows tok' nt'/\K ⟨putT S.tmps o.dst v,upd S.box k (some rows),tok',nt'⟩
def FOneW(P:Program)(cx:Cx)(o:Oper)(K:AS->Prop)(S:AS):Prop:=match callFn o S.ev with
 | some (fid,args)=>StopW P o fid args S K
 | none=>FOne P cx true o K S
def FOpsW(P:Program)(cx:Cx)(ops:Array Oper):List Oper->(AS->Prop)->AS->Prop
 | [],K,S=>K S
 | o::r,K,S=>match o.guard with
  | none=>FOneW P cx o (FOpsW P cx ops r K) S
  | some (j,want)=>match yieldA ops S j with
   | some (some b)=>Gd b want (FOneW P cx o (FOpsW P cx ops r K)) (FSkip o.dst (FOpsW P cx ops r K)) S
   | some none=>FSkip o.dst (FOpsW P cx ops r K) S
   | none=>False
def FRegW(P:Program)(cx:Cx)(ops:Array Oper)(K:AS->Prop)(S:AS):Prop:=match preF P cx.base ops.toList S.box with
 | some b=>FOpsW P cx ops ops.toList K ⟨S.tmps,b,S.tok,S.nt⟩
 | none=>False
attribute [simp] FRegW FOneW callFn FarP
@[simp] theorem FOpsW_nil{cx:Cx}{ops:Array Oper}{K:AS->Prop}{t:Nat->AV}{b:Bxs}{k:Nat->Bool}{n:Nat}:FOpsW P cx ops [] K ⟨t,b,k,n⟩=K ⟨t,b,k,n⟩:=by simp only[FOpsW]
@[simp] theorem FOpsW_cons{cx:Cx}{ops:Array Oper}{o:Oper}{r:List Oper}{K:AS->Prop}{t:Nat->AV}{b:Bxs}{k:Nat->Bool}{n:Nat}:FOpsW P cx ops (o::r) K ⟨t,b,k,n⟩=match o.guard with
  | none=>FOneW P cx o (FOpsW P cx ops r K) ⟨t,b,k,n⟩
  | some (j,want)=>match yieldA ops ⟨t,b,k,n⟩ j with
   | some (some g)=>Gd g want (FOneW P cx o (FOpsW P cx ops r K)) (FSkip o.dst (FOpsW P cx ops r K)) ⟨t,b,k,n⟩
   | some none=>FSkip o.dst (FOpsW P cx ops r K) ⟨t,b,k,n⟩
   | none=>False:=by
 simp only[FOpsW]
abbrev nilS:AV:=.osl 0 [] .full
abbrev z0i:AV:=.d (.raw (.int .i64 0))
theorem fit_nilM:Mo.Fit ⟨[],[]⟩:=⟨by simp,by simp⟩
def lst{β:Type}(ok:Nat->Nat->Bool)(m:Nat)(fin:List Int->List β):Nat->List Int->List β
 | 0,L=>fin L
 | r+1,L=>(List.range m).flatMap fun (k:Nat)=>if (!decide ((k:Int)∈L)&&ok L.length k)=true then lst ok m fin r (L++[(k:Int)]) else []
def atB(by' of:List Int)(i k:Nat):Bool:=decide (indexI by' i<0)||decide (of.getD (indexI by' i).toNat 0=k)
def okXE(p g:Gr)(x m:Mo)(N:List Int)(i k:Nat):Bool:=decide (g.edges.getD k default=wantX p N i)&&atB x.edges m.edges i k
def okXN(p g:Gr)(x m:Mo)(i k:Nat):Bool:=decide (g.nodes.getD k 0=p.nodes.getD i 0)&&atB x.nodes m.nodes i k
def exE(p g:Gr)(x m:Mo)(N:List Int)(r:Nat)(L:List Int):List Mo:=lst (okXE p g x m N) g.edges.length (fun E=>[⟨N,E⟩]) r L
def exN(p g:Gr)(x m:Mo)(r:Nat)(L:List Int):List Mo:=lst (okXN p g x m) g.nodes.length (fun N=>exE p g x m N p.edges.length []) r L
def exts(p g:Gr)(x m:Mo):List Mo:=exN p g x m p.nodes.length []
@[simp] theorem lb_base(base:Nat)(out:Bxs)(loc:List (Nat × List (List AV))):lb base out loc base=lk loc 0:=lb_at base 0 out loc
@[simp] theorem upd_lb_base(base:Nat)(out:Bxs)(loc:List (Nat × List (List AV)))(rows:List (List AV)):upd (lb base out loc) base (some rows)=lb base out ((0,rows)::loc):=upd_lb base 0 out loc rows
@[simp] theorem to_ptr_base{q:Nat->Prop}{fz:Option (Nat × Nat × List (List D))}{base i off:Nat}{out:Bxs}{loc:List (Nat × List (List AV))}:To (fun k=>lb base out loc k≠none) q fz (.ptr base i off) (.ptr base i off)↔lk loc 0≠none:=to_ptr_lb (s:=0)
abbrev bytes(l:List Int):D:=.sl 1 (l.map fun n=>[u8 n])
def U8s(l:List Int):Prop:=∀c∈l,0<=c/\c<256
theorem bytes_at{l:List Int}{i:Nat}(h:i<l.length):(l.map fun n=>[u8 n])[i]?=some [u8 l[i]]:=by simp[h]
theorem AL.midT{cx:Cx}{nt0:Nat}{K:Exit->AS->Prop}{r:List CI}{S:AS}{x y:Code}{α:Type}(T:α->AS)(inv:α->Prop)(h1:AL prog cx nt0 (fun e S'=>match e with
   | .normal=>∃a,inv a/\Weaks cx nt0 S' (T a)
   | e=>AU prog cx nt0 K (.c y::r) e S') [.c x] S)(h2:∀a,inv a->AL prog cx nt0 K (.c y::r) (T a)):AL prog cx nt0 K (.c x::.c y::r) S:=by
 have h3:=AL.start h1;simp only[AL] at h2 ⊢;refine h3.mono fun e S' h=>?_
 cases e with
 | normal =>
  obtain⟨a,ha,hw⟩:=h;exact AT.weaks hw (h2 a ha)
 | _=>exact h
structure At where
 name:ByteArray
 lo:Int
 hi:Int
 names:List ByteArray
structure NT where
 name:ByteArray
 par:Int
 abs:Bool
 own:List At
structure ET where
 name:ByteArray
 fr:Int
 to:Int
 ol:Int
 oh:Int
 il:Int
 ih:Int
structure Ty where
 nodes:List NT
 edges:List ET
abbrev At.cells(a:At):List D:=[.raw (.string a.name),.raw (.int .i64 a.lo),.raw (.int .i64 a.hi),strs a.names]
abbrev atts(l:List At):D:=.sl 4 (l.map At.cells)
abbrev NT.cells(n:NT):List D:=[.raw (.string n.name),.raw (.int .i64 n.par),.raw (.bool n.abs),atts n.own]
abbrev ET.cells(e:ET):List D:=[.raw (.string e.name),.raw (.int .i64 e.fr),.raw (.int .i64 e.to),.raw (.int .i64 e.ol),.raw (.int .i64 e.oh),.raw (.int .i64 e.il),.raw (.int .i64 e.ih)]
abbrev nts(l:List NT):D:=.sl 4 (l.map NT.cells)
abbrev ets(l:List ET):D:=.sl 7 (l.map ET.cells)
abbrev Ty.av(t:Ty):AV:=.agg [.d (nts t.nodes),.d (ets t.edges)]
instance:Inhabited ByteArray:=⟨⟨#[]⟩⟩
abbrev eB:ByteArray:=⟨#[]⟩
def nmsAt(l:List ByteArray)(i:Nat):Int:=if nameB (l.getD i eB)=false then 2 else if memS (l.take i) (l.getD i eB)=true then 5 else 0
def nmsE(l:List ByteArray):Int:=if 20<l.length then 3 else firstE (nmsAt l) l.length
structure NmFit (l:List ByteArray):Prop where
 n:l.length<=1000000
 s:∀x∈l,x.size<=1000000000000
theorem strs_take(l:List ByteArray)(i:Nat):strs (l.take i)=.sl 1 (List.take i (l.map fun s=>[D.raw (.string s)])):=by rw[strs,List.map_take]
def stNm(l:List ByteArray)(nb:Nat)(box:Bxs)(tok:Tks)(nt:Nat)(i:Nat):AS:=⟨tl [(10,I i),(9,I l.length),(8,.d (strs l)),(0,.d (strs l))],lb nb box [],tok,nt⟩
theorem names_c(l:List ByteArray)(hl:NmFit l):DC 262 [.d (strs l)] (I (nmsE l)):=by
 intro tok nt box nb;have hln:=hl.n;by_cases h20:20<l.length
 .have h20':(20:Int)<l.length:=by omega
  rw[show nmsE l=3 from if_pos h20];refine sI func262 ntmps262 fun Hb Ht=>?_
  repeat first|simp[h20']|refine sR ?_
  refine sC ?_;repeat first|simp|refine sR ?_
  refine sT (sH Hb Ht ?_);simp
 .have h20':¬(20:Int)<l.length:=by omega
  have hE:nmsE l=firstE (nmsAt l) l.length:=if_neg h20
  refine sI func262 ntmps262 fun Hb Ht=>?_
  repeat first|simp[h20']|refine sR ?_
  refine sC ?_;repeat first|simp|refine sR ?_
  refine sN ?_;refine sL (stNm l nb box tok nt) (fun i=>i<=l.length/\firstE (nmsAt l) i=0) (fun i=>l.length-i) 0 ⟨Nat.zero_le _,rfl⟩ (wM (nr _) rfl (by simp[ToL,lk]) trivial) ?_;rintro i S' ⟨hi,hok⟩ hS;simp only[stNm] at hS;subst hS;have hw:=sW (i:=i) (by omega);have hR:i<l.length->nmsAt l i≠0->firstE (nmsAt l) l.length=nmsAt l i:=fun hlt h0=>firstE_stop hok h0 l.length hlt
  repeat first|simp|refine sR ?_|refine sC ?_
  refine⟨fun hlt=>?_,fun hge=>?_⟩
  .have hg:l.getD i eB=l[i]:=by simp[hlt]
   have hA:nmsAt l i=if nameB l[i]=false then 2 else if memS (l.take i) l[i]=true then 5 else 0:=by rw[nmsAt,hg]
   have hn:=isName_c l[i] (Nat.le_trans (hl.s _ (List.getElem_mem hlt)) (by decide));have hc:=containsS_c (l.take i) l[i] (by simp;omega);have hR:=hR hlt;repeat first|simp[hlt,strs_at hlt]|refine sR ?_
   refine sD (hn _ _) ?_;simp;cases e1:nameB l[i]
   .rw[e1,if_pos rfl] at hA;rw[hA] at hR;have hR:=hR (by decide);repeat first|simp|refine sR ?_
    refine sC ?_;repeat first|simp|refine sR ?_
    refine sT (sH Hb Ht ?_);simp[hE,hR]
   .rw[e1,if_neg (by simp)] at hA;repeat first|simp|refine sR ?_
    refine sC ?_;repeat first|simp|refine sR ?_
    refine⟨by omega,?_⟩;rw[strs_take] at hc;refine sD (hc _ _) ?_;simp;cases e2:memS (l.take i) l[i]
    .rw[e2,if_neg (by simp)] at hA;repeat first|simp[hw]|refine sR ?_|refine sC ?_
     refine sE ?_;exact⟨i+1,⟨hlt,by simp only[firstE,hok,hA,↓reduceIte]⟩,by omega,wM (nr _) rfl (by simp[ToL,lk]) trivial⟩
    .rw[e2,if_pos rfl] at hA;rw[hA] at hR;have hR:=hR (by decide);repeat first|simp|refine sR ?_
     refine sC ?_;repeat first|simp|refine sR ?_
     refine sT (sH Hb Ht ?_);simp[hE,hR]
  .refine sX ?_;simp only[AU,↓reduceIte];repeat first|simp|refine sR ?_
   have:i=l.length:=by omega
   subst this;refine sT (sH Hb Ht ?_);simp[hE,hok]
abbrev At.av(a:At):AV:=.agg [Sb a.name,I a.lo,I a.hi,.d (strs a.names)]
abbrev NT.av(n:NT):AV:=.agg [Sb n.name,I n.par,B n.abs,.d (atts n.own)]
abbrev ET.av(e:ET):AV:=.agg [Sb e.name,I e.fr,I e.to,I e.ol,I e.oh,I e.il,I e.ih]
theorem any_takeG{α:Type}{p:α->Bool}{xs:List α}{i:Nat}(h:i<xs.length)(h1:∀x∈xs.take i,p x=false)(h2:p xs[i]=true):anyB p xs=true/\xs.findIdx p=i:=by
 refine⟨List.any_eq_true.2 ⟨_,List.getElem_mem h,h2⟩,?_⟩;rw[List.findIdx_eq h];refine⟨h2,fun j hj=>?_⟩;have:=h1 xs[j] (by
  rw[List.mem_take_iff_getElem];exact⟨j,by omega,rfl⟩)
 simpa using this
def stIA(xs:List At)(f:FuncId)(caps:List AV)(nb:Nat)(box:Bxs)(tok:Tks)(nt:Nat)(i:Nat):AS:=⟨tl [(0,.d (atts xs)),(1,.fn (.func f) caps),(7,I xs.length),(8,I i)],lb nb box [],tok,nt⟩
theorem indexFuncA_c(xs:List At)(f:FuncId)(caps:List AV)(p:At->Bool)(hx:xs.length<=1000000)(box:Bxs)(nb:Nat)(tok:Tks)(nt:Nat)(hc:∀c∈caps,OkIn (fun k=>box k≠none) (fun _=>True) c)(hf:∀x∈xs,∀box' nb',Ext box box'->ACalls prog f (x.av::caps) ⟨box',nb',tok,nt⟩ fun v m=>v=B (p x)/\m=⟨box',nb',tok,nt⟩):
  ACalls prog 292 [.d (atts xs),.fn (.func f) caps] ⟨box,nb,tok,nt⟩ fun v m=>v=I (if anyB p xs=true then (xs.findIdx p:Nat) else -1)/\m=⟨box,nb,tok,nt⟩:=by
 refine sI func292 ntmps292 fun Hb Ht=>?_
 repeat first|simp|refine sR ?_
 refine sN ?_;refine sL (stIA xs f caps nb box tok nt) (fun i=>i<=xs.length/\∀x∈xs.take i,p x=false) (fun i=>xs.length-i) 0 ⟨Nat.zero_le _,by simp⟩ (wM (nr _) rfl (by simp[ToL];exact .same (okFn hc Hb [] (by simp) rfl _)) trivial) ?_;rintro i S' ⟨hi,htk⟩ hS;simp only[stIA] at hS;subst hS;have hw:=sW (i:=i) (by omega);repeat first|simp|refine sR ?_|refine sC ?_
 refine⟨fun hlt=>?_,fun hge=>?_⟩
 .have hfx:=hf xs[i] (List.getElem_mem _);have hpx:p xs[i]=true->anyB p xs=true/\(xs.findIdx p=i):=fun he=>any_takeG hlt htk he
  have hmore:p xs[i]=false->∀x∈xs.take (i+1),p x=false:=fun he x hx=>by
   rw[List.take_succ_eq_append_getElem hlt] at hx;rcases List.mem_append.1 hx with hx|hx
   .exact htk x hx
   .simp at hx;rw[hx];exact he
  repeat first|simp[hlt]|refine sR ?_
  generalize xs[i]=x at *;refine Stop.of_b (hfx _ _ ((Ext.refl box).lb Hb [])) ?_;simp;cases he:p x
  .refine sC ?_;simp;repeat first|simp[hw]|refine sR ?_
   refine sE ?_;refine⟨i+1,⟨hlt,?_⟩,by omega,wM (nr _) rfl (by simp[ToL];exact .same (okFn hc Hb [] (by simp) rfl _)) trivial⟩;exact hmore he
  .obtain⟨h1,h2⟩:=hpx he;refine sC ?_;repeat first|simp|refine sR ?_
   refine sT (sH Hb Ht ?_);simp[h1,h2]
 .have hn:anyB p xs=false:=by
   rw[List.take_of_length_le hge] at htk;simpa[anyB] using htk
  refine sX ?_;simp only[AU,↓reduceIte];repeat first|simp|refine sR ?_
  refine sT (sH Hb Ht ?_);simp[hn]
theorem containsFuncA_c(xs:List At)(f:FuncId)(caps:List AV)(p:At->Bool)(hx:xs.length<=1000000)(box:Bxs)(nb:Nat)(tok:Tks)(nt:Nat)(hc:∀c∈caps,OkIn (fun k=>box k≠none) (fun _=>True) c)(hf:∀x∈xs,∀box' nb',Ext box box'->ACalls prog f (x.av::caps) ⟨box',nb',tok,nt⟩ fun v m=>v=B (p x)/\m=⟨box',nb',tok,nt⟩):
  ACalls prog 260 [.d (atts xs),.fn (.func f) caps] ⟨box,nb,tok,nt⟩ fun v m=>v=B (anyB p xs)/\m=⟨box,nb,tok,nt⟩:=by
 obtain⟨A,hany⟩:∃A,anyB p xs=A:=⟨_,rfl⟩
 have hi:=fun b nb' h1 h2=>indexFuncA_c xs f caps p hx b nb' tok nt h1 h2
 rw[hany];simp only[hany] at hi;refine sI func260 ntmps260 fun Hb Ht=>?_
 repeat first|simp|refine sR ?_
 refine Stop.of_b (hi (lb nb box []) _ (fun c h=>(hc c h).mono (fun k hk=>by rw[Hb];exact hk) fun _ h=>h) (fun x hx' box' nb' he=>hf x hx' box' nb' (by rw[Hb] at he;exact he))) ?_;simp;cases A
 .repeat first|simp|refine sR ?_
  refine sT (sH Hb Ht ?_);simp
 .have h0:(0:Int)<=(xs.findIdx p:Nat):=by omega
  repeat first|simp|refine sR ?_
  refine sT (sH Hb Ht ?_);simp[h0]
def stIN(xs:List NT)(f:FuncId)(caps:List AV)(nb:Nat)(box:Bxs)(tok:Tks)(nt:Nat)(i:Nat):AS:=⟨tl [(0,.d (nts xs)),(1,.fn (.func f) caps),(7,I xs.length),(8,I i)],lb nb box [],tok,nt⟩
theorem indexFuncN_c(xs:List NT)(f:FuncId)(caps:List AV)(p:NT->Bool)(hx:xs.length<=1000000)(box:Bxs)(nb:Nat)(tok:Tks)(nt:Nat)(hc:∀c∈caps,OkIn (fun k=>box k≠none) (fun _=>True) c)(hf:∀x∈xs,∀box' nb',Ext box box'->ACalls prog f (x.av::caps) ⟨box',nb',tok,nt⟩ fun v m=>v=B (p x)/\m=⟨box',nb',tok,nt⟩):
  ACalls prog 234 [.d (nts xs),.fn (.func f) caps] ⟨box,nb,tok,nt⟩ fun v m=>v=I (if anyB p xs=true then (xs.findIdx p:Nat) else -1)/\m=⟨box,nb,tok,nt⟩:=by
 refine sI func234 ntmps234 fun Hb Ht=>?_
 repeat first|simp|refine sR ?_
 refine sN ?_;refine sL (stIN xs f caps nb box tok nt) (fun i=>i<=xs.length/\∀x∈xs.take i,p x=false) (fun i=>xs.length-i) 0 ⟨Nat.zero_le _,by simp⟩ (wM (nr _) rfl (by simp[ToL];exact .same (okFn hc Hb [] (by simp) rfl _)) trivial) ?_;rintro i S' ⟨hi,htk⟩ hS;simp only[stIN] at hS;subst hS;have hw:=sW (i:=i) (by omega);repeat first|simp|refine sR ?_|refine sC ?_
 refine⟨fun hlt=>?_,fun hge=>?_⟩
 .have hfx:=hf xs[i] (List.getElem_mem _);have hpx:p xs[i]=true->anyB p xs=true/\(xs.findIdx p=i):=fun he=>any_takeG hlt htk he
  have hmore:p xs[i]=false->∀x∈xs.take (i+1),p x=false:=fun he x hx=>by
   rw[List.take_succ_eq_append_getElem hlt] at hx;rcases List.mem_append.1 hx with hx|hx
   .exact htk x hx
   .simp at hx;rw[hx];exact he
  repeat first|simp[hlt]|refine sR ?_
  generalize xs[i]=x at *;refine Stop.of_b (hfx _ _ ((Ext.refl box).lb Hb [])) ?_;simp;cases he:p x
  .refine sC ?_;simp;repeat first|simp[hw]|refine sR ?_
   refine sE ?_;refine⟨i+1,⟨hlt,?_⟩,by omega,wM (nr _) rfl (by simp[ToL];exact .same (okFn hc Hb [] (by simp) rfl _)) trivial⟩;exact hmore he
  .obtain⟨h1,h2⟩:=hpx he;refine sC ?_;repeat first|simp|refine sR ?_
   refine sT (sH Hb Ht ?_);simp[h1,h2]
 .have hn:anyB p xs=false:=by
   rw[List.take_of_length_le hge] at htk;simpa[anyB] using htk
  refine sX ?_;simp only[AU,↓reduceIte];repeat first|simp|refine sR ?_
  refine sT (sH Hb Ht ?_);simp[hn]
theorem containsFuncN_c(xs:List NT)(f:FuncId)(caps:List AV)(p:NT->Bool)(hx:xs.length<=1000000)(box:Bxs)(nb:Nat)(tok:Tks)(nt:Nat)(hc:∀c∈caps,OkIn (fun k=>box k≠none) (fun _=>True) c)(hf:∀x∈xs,∀box' nb',Ext box box'->ACalls prog f (x.av::caps) ⟨box',nb',tok,nt⟩ fun v m=>v=B (p x)/\m=⟨box',nb',tok,nt⟩):
  ACalls prog 169 [.d (nts xs),.fn (.func f) caps] ⟨box,nb,tok,nt⟩ fun v m=>v=B (anyB p xs)/\m=⟨box,nb,tok,nt⟩:=by
 obtain⟨A,hany⟩:∃A,anyB p xs=A:=⟨_,rfl⟩
 have hi:=fun b nb' h1 h2=>indexFuncN_c xs f caps p hx b nb' tok nt h1 h2
 rw[hany];simp only[hany] at hi;refine sI func169 ntmps169 fun Hb Ht=>?_
 repeat first|simp|refine sR ?_
 refine Stop.of_b (hi (lb nb box []) _ (fun c h=>(hc c h).mono (fun k hk=>by rw[Hb];exact hk) fun _ h=>h) (fun x hx' box' nb' he=>hf x hx' box' nb' (by rw[Hb] at he;exact he))) ?_;simp;cases A
 .repeat first|simp|refine sR ?_
  refine sT (sH Hb Ht ?_);simp
 .have h0:(0:Int)<=(xs.findIdx p:Nat):=by omega
  repeat first|simp|refine sR ?_
  refine sT (sH Hb Ht ?_);simp[h0]
def stIE2(xs:List ET)(f:FuncId)(caps:List AV)(nb:Nat)(box:Bxs)(tok:Tks)(nt:Nat)(i:Nat):AS:=⟨tl [(0,.d (ets xs)),(1,.fn (.func f) caps),(7,I xs.length),(8,I i)],lb nb box [],tok,nt⟩
theorem indexFuncE2_c(xs:List ET)(f:FuncId)(caps:List AV)(p:ET->Bool)(hx:xs.length<=1000000)(box:Bxs)(nb:Nat)(tok:Tks)(nt:Nat)(hc:∀c∈caps,OkIn (fun k=>box k≠none) (fun _=>True) c)(hf:∀x∈xs,∀box' nb',Ext box box'->ACalls prog f (x.av::caps) ⟨box',nb',tok,nt⟩ fun v m=>v=B (p x)/\m=⟨box',nb',tok,nt⟩):
  ACalls prog 263 [.d (ets xs),.fn (.func f) caps] ⟨box,nb,tok,nt⟩ fun v m=>v=I (if anyB p xs=true then (xs.findIdx p:Nat) else -1)/\m=⟨box,nb,tok,nt⟩:=by
 refine sI func263 ntmps263 fun Hb Ht=>?_
 repeat first|simp|refine sR ?_
 refine sN ?_;refine sL (stIE2 xs f caps nb box tok nt) (fun i=>i<=xs.length/\∀x∈xs.take i,p x=false) (fun i=>xs.length-i) 0 ⟨Nat.zero_le _,by simp⟩ (wM (nr _) rfl (by simp[ToL];exact .same (okFn hc Hb [] (by simp) rfl _)) trivial) ?_;rintro i S' ⟨hi,htk⟩ hS;simp only[stIE2] at hS;subst hS;have hw:=sW (i:=i) (by omega);repeat first|simp|refine sR ?_|refine sC ?_
 refine⟨fun hlt=>?_,fun hge=>?_⟩
 .have hfx:=hf xs[i] (List.getElem_mem _);have hpx:p xs[i]=true->anyB p xs=true/\(xs.findIdx p=i):=fun he=>any_takeG hlt htk he
  have hmore:p xs[i]=false->∀x∈xs.take (i+1),p x=false:=fun he x hx=>by
   rw[List.take_succ_eq_append_getElem hlt] at hx;rcases List.mem_append.1 hx with hx|hx
   .exact htk x hx
   .simp at hx;rw[hx];exact he
  repeat first|simp[hlt]|refine sR ?_
  generalize xs[i]=x at *;refine Stop.of_b (hfx _ _ ((Ext.refl box).lb Hb [])) ?_;simp;cases he:p x
  .refine sC ?_;simp;repeat first|simp[hw]|refine sR ?_
   refine sE ?_;refine⟨i+1,⟨hlt,?_⟩,by omega,wM (nr _) rfl (by simp[ToL];exact .same (okFn hc Hb [] (by simp) rfl _)) trivial⟩;exact hmore he
  .obtain⟨h1,h2⟩:=hpx he;refine sC ?_;repeat first|simp|refine sR ?_
   refine sT (sH Hb Ht ?_);simp[h1,h2]
 .have hn:anyB p xs=false:=by
   rw[List.take_of_length_le hge] at htk;simpa[anyB] using htk
  refine sX ?_;simp only[AU,↓reduceIte];repeat first|simp|refine sR ?_
  refine sT (sH Hb Ht ?_);simp[hn]
theorem containsFuncE2_c(xs:List ET)(f:FuncId)(caps:List AV)(p:ET->Bool)(hx:xs.length<=1000000)(box:Bxs)(nb:Nat)(tok:Tks)(nt:Nat)(hc:∀c∈caps,OkIn (fun k=>box k≠none) (fun _=>True) c)(hf:∀x∈xs,∀box' nb',Ext box box'->ACalls prog f (x.av::caps) ⟨box',nb',tok,nt⟩ fun v m=>v=B (p x)/\m=⟨box',nb',tok,nt⟩):
  ACalls prog 215 [.d (ets xs),.fn (.func f) caps] ⟨box,nb,tok,nt⟩ fun v m=>v=B (anyB p xs)/\m=⟨box,nb,tok,nt⟩:=by
 obtain⟨A,hany⟩:∃A,anyB p xs=A:=⟨_,rfl⟩
 have hi:=fun b nb' h1 h2=>indexFuncE2_c xs f caps p hx b nb' tok nt h1 h2
 rw[hany];simp only[hany] at hi;refine sI func215 ntmps215 fun Hb Ht=>?_
 repeat first|simp|refine sR ?_
 refine Stop.of_b (hi (lb nb box []) _ (fun c h=>(hc c h).mono (fun k hk=>by rw[Hb];exact hk) fun _ h=>h) (fun x hx' box' nb' he=>hf x hx' box' nb' (by rw[Hb] at he;exact he))) ?_;simp;cases A
 .repeat first|simp|refine sR ?_
  refine sT (sH Hb Ht ?_);simp
 .have h0:(0:Int)<=(xs.findIdx p:Nat):=by omega
  repeat first|simp|refine sR ?_
  refine sT (sH Hb Ht ?_);simp[h0]
abbrev At.row(a:At):List AV:=[Sb a.name,I a.lo,I a.hi,.d (strs a.names)]
theorem attr1_c(x y:At)(box:Bxs)(nb k:Nat)(tok:Tks)(nt:Nat)(h1:box k=some [x.row]):
  ACalls prog 261 [y.av,.ptr k 0 0] ⟨box,nb,tok,nt⟩ fun v m=>v=B (decide (y.name=x.name))/\m=⟨box,nb,tok,nt⟩:=by
 refine sI func261 ntmps261 fun Hb Ht=>?_
 have k1n:=key_lt Hb h1;rw[<-seq_dec];repeat first|simp[lO k1n,h1]|refine sR ?_
 refine sT (sH Hb Ht ?_);simp
def rngA(x:At):Bool:=if x.names.length=0 then decide (-1000000<=x.lo/\x.lo<=x.hi/\x.hi<=1000000) else decide (x.lo=0/\x.hi=(x.names.length:Int)-1)
def attE(x:At)(before:List At):Int:=if nameB x.name=false then 2 else if anyB (fun y=>decide (y.name=x.name)) before=true then 5 else if nmsE x.names≠0 then nmsE x.names else if rngA x=true then 0 else 6
structure At.Fit (a:At):Prop where
 n:a.name.size<=1000000000000
 l:NmFit a.names
theorem attribute_c(x:At)(before:List At)(hx:x.Fit)(hb:before.length<=1000000):DC 213 [x.av,.d (atts before)] (I (attE x before)):=by
 intro tok nt box nb;have h1:=isName_c x.name (Nat.le_trans hx.n (by decide));have h3:=names_c x.names hx.l;cases e1:nameB x.name
 .rw[e1] at h1;rw[show attE x before=2 by rw[attE,if_pos e1]];refine sI func213 ntmps213 fun Hb Ht=>?_
  repeat first|simp|refine sR ?_
  refine sD (h1 _ _) ?_;repeat first|simp|refine sR ?_
  refine sC ?_;repeat first|simp|refine sR ?_
  refine sT (sH Hb Ht ?_);simp
 .rw[e1] at h1;have hA:attE x before=if anyB (fun y=>decide (y.name=x.name)) before=true then 5 else if nmsE x.names≠0 then nmsE x.names else if rngA x=true then 0 else 6:=by rw[attE,if_neg (by simp[e1])]
  obtain⟨N,hN⟩:∃N,attE x before=N:=⟨_,rfl⟩
  rw[hN] at hA ⊢;obtain⟨p,hp⟩:∃p:At->Bool,(fun y=>decide (y.name=x.name))=p:=⟨_,rfl⟩
  have h2:=fun y box nb k h=>attr1_c x y box nb k tok nt h
  have hpp:∀y:At,decide (y.name=x.name)=p y:=fun y=>by rw[<-hp]
  simp only[hpp] at h2;rw[hp] at hA;have hcap:∀c∈[AV.ptr (nb+2) 0 0],OkIn (fun k=>(lb nb box [(2,[x.row])]) k≠none) (fun _=>True) c:=by
   intro c hc;rw[List.mem_singleton.1 hc];simp[lb_at]
  refine sI func213 ntmps213 fun Hb Ht=>?_
  repeat first|simp|refine sR ?_
  refine sD (h1 _ _) ?_;repeat first|simp|refine sR ?_
  refine sC ?_;repeat first|simp|refine sR ?_
  refine Stop.of_b (containsFuncA_c before 261 [.ptr (nb+2) 0 0] p hb _ _ _ _ hcap (fun y hy box' nb' he=>h2 y box' nb' _ (he _ _ (by simp[lb_at])))) ?_;repeat first|simp|refine sR ?_
  cases e2:anyB p before
  .rw[e2,if_neg (by simp)] at hA;refine sC ?_;repeat first|simp|refine sR ?_
   refine sD (h3 _ _) ?_;repeat first|simp|refine sR ?_
   by_cases e3:nmsE x.names=0
   .rw[if_neg (by simp[e3])] at hA;simp only[e3];refine sC ?_;simp;by_cases c1 : -1000000<=x.lo
    .by_cases c2:x.lo<=x.hi
     .by_cases c3:x.hi<=1000000
      .repeat first|simp[c1,c2,c3]|refine sR ?_
       by_cases z:x.names.length=0
       .have z2:¬0<x.names.length:=by omega
        have hr:rngA x=true:=by rw[rngA,if_pos z];simp only[decide_eq_true_eq,decide_eq_false_iff_not];omega
        rw[hr] at hA;refine sC ?_;simp[z2];repeat first|simp|refine sR ?_
        refine sC ?_;repeat first|simp|refine sR ?_
        refine sT (sH Hb Ht ?_);simp[hA]
       .have z2:0<x.names.length:=by omega
        have hr:rngA x=decide (x.lo=0/\x.hi=(x.names.length:Int)-1):=if_neg z
        rw[hr] at hA;have hln:=hx.l.n;have w:IntKind.i64.wrap ((x.names.length:Int)-1)=(x.names.length:Int)-1:=wrap_in (by omega) (by omega)
        by_cases l0:x.lo=0
        .have b0:(x.lo==0)=true:=by simp[l0]
         by_cases h0:x.hi=(x.names.length:Int)-1
         .have b1:(x.hi==(x.names.length:Int)-1)=true:=by simp[h0]
          refine sC ?_;simp[z2];repeat first|simp[w,b0,b1]|refine sR ?_
          refine sC ?_;repeat first|simp|refine sR ?_
          refine sT (sH Hb Ht ?_);simp[hA,l0,h0]
         .have b1:(x.hi==(x.names.length:Int)-1)=false:=by simp[h0]
          refine sC ?_;simp[z2];repeat first|simp[w,b0,b1]|refine sR ?_
          refine sC ?_;repeat first|simp|refine sR ?_
          refine sT (sH Hb Ht ?_);simp[hA,l0,h0]
        .have b0:(x.lo==0)=false:=by simp[l0]
         refine sC ?_;simp[z2];repeat first|simp[w,b0]|refine sR ?_
         refine sC ?_;repeat first|simp|refine sR ?_
         refine sT (sH Hb Ht ?_);simp[hA,l0]
      .repeat first|simp[c1,c2,c3]|refine sR ?_
       by_cases z:x.names.length=0
       .have z2:¬0<x.names.length:=by omega
        have hr:rngA x=false:=by rw[rngA,if_pos z];simp only[decide_eq_true_eq,decide_eq_false_iff_not];omega
        rw[hr] at hA;refine sC ?_;simp[z2];repeat first|simp|refine sR ?_
        refine sC ?_;repeat first|simp|refine sR ?_
        refine sT (sH Hb Ht ?_);simp[hA]
       .have z2:0<x.names.length:=by omega
        have hr:rngA x=decide (x.lo=0/\x.hi=(x.names.length:Int)-1):=if_neg z
        rw[hr] at hA;have hln:=hx.l.n;have w:IntKind.i64.wrap ((x.names.length:Int)-1)=(x.names.length:Int)-1:=wrap_in (by omega) (by omega)
        by_cases l0:x.lo=0
        .have b0:(x.lo==0)=true:=by simp[l0]
         by_cases h0:x.hi=(x.names.length:Int)-1
         .have b1:(x.hi==(x.names.length:Int)-1)=true:=by simp[h0]
          refine sC ?_;simp[z2];repeat first|simp[w,b0,b1]|refine sR ?_
          refine sC ?_;repeat first|simp|refine sR ?_
          refine sT (sH Hb Ht ?_);simp[hA,l0,h0]
         .have b1:(x.hi==(x.names.length:Int)-1)=false:=by simp[h0]
          refine sC ?_;simp[z2];repeat first|simp[w,b0,b1]|refine sR ?_
          refine sC ?_;repeat first|simp|refine sR ?_
          refine sT (sH Hb Ht ?_);simp[hA,l0,h0]
        .have b0:(x.lo==0)=false:=by simp[l0]
         refine sC ?_;simp[z2];repeat first|simp[w,b0]|refine sR ?_
         refine sC ?_;repeat first|simp|refine sR ?_
         refine sT (sH Hb Ht ?_);simp[hA,l0]
     .repeat first|simp[c1,c2]|refine sR ?_
      by_cases z:x.names.length=0
      .have z2:¬0<x.names.length:=by omega
       have hr:rngA x=false:=by rw[rngA,if_pos z];simp only[decide_eq_true_eq,decide_eq_false_iff_not];omega
       rw[hr] at hA;refine sC ?_;simp[z2];repeat first|simp|refine sR ?_
       refine sC ?_;repeat first|simp|refine sR ?_
       refine sT (sH Hb Ht ?_);simp[hA]
      .have z2:0<x.names.length:=by omega
       have hr:rngA x=decide (x.lo=0/\x.hi=(x.names.length:Int)-1):=if_neg z
       rw[hr] at hA;have hln:=hx.l.n;have w:IntKind.i64.wrap ((x.names.length:Int)-1)=(x.names.length:Int)-1:=wrap_in (by omega) (by omega)
       by_cases l0:x.lo=0
       .have b0:(x.lo==0)=true:=by simp[l0]
        by_cases h0:x.hi=(x.names.length:Int)-1
        .have b1:(x.hi==(x.names.length:Int)-1)=true:=by simp[h0]
         refine sC ?_;simp[z2];repeat first|simp[w,b0,b1]|refine sR ?_
         refine sC ?_;repeat first|simp|refine sR ?_
         refine sT (sH Hb Ht ?_);simp[hA,l0,h0]
        .have b1:(x.hi==(x.names.length:Int)-1)=false:=by simp[h0]
         refine sC ?_;simp[z2];repeat first|simp[w,b0,b1]|refine sR ?_
         refine sC ?_;repeat first|simp|refine sR ?_
         refine sT (sH Hb Ht ?_);simp[hA,l0,h0]
       .have b0:(x.lo==0)=false:=by simp[l0]
        refine sC ?_;simp[z2];repeat first|simp[w,b0]|refine sR ?_
        refine sC ?_;repeat first|simp|refine sR ?_
        refine sT (sH Hb Ht ?_);simp[hA,l0]
    .repeat first|simp[c1]|refine sR ?_
     by_cases z:x.names.length=0
     .have z2:¬0<x.names.length:=by omega
      have hr:rngA x=false:=by rw[rngA,if_pos z];simp only[decide_eq_true_eq,decide_eq_false_iff_not];omega
      rw[hr] at hA;refine sC ?_;simp[z2];repeat first|simp|refine sR ?_
      refine sC ?_;repeat first|simp|refine sR ?_
      refine sT (sH Hb Ht ?_);simp[hA]
     .have z2:0<x.names.length:=by omega
      have hr:rngA x=decide (x.lo=0/\x.hi=(x.names.length:Int)-1):=if_neg z
      rw[hr] at hA;have hln:=hx.l.n;have w:IntKind.i64.wrap ((x.names.length:Int)-1)=(x.names.length:Int)-1:=wrap_in (by omega) (by omega)
      by_cases l0:x.lo=0
      .have b0:(x.lo==0)=true:=by simp[l0]
       by_cases h0:x.hi=(x.names.length:Int)-1
       .have b1:(x.hi==(x.names.length:Int)-1)=true:=by simp[h0]
        refine sC ?_;simp[z2];repeat first|simp[w,b0,b1]|refine sR ?_
        refine sC ?_;repeat first|simp|refine sR ?_
        refine sT (sH Hb Ht ?_);simp[hA,l0,h0]
       .have b1:(x.hi==(x.names.length:Int)-1)=false:=by simp[h0]
        refine sC ?_;simp[z2];repeat first|simp[w,b0,b1]|refine sR ?_
        refine sC ?_;repeat first|simp|refine sR ?_
        refine sT (sH Hb Ht ?_);simp[hA,l0,h0]
      .have b0:(x.lo==0)=false:=by simp[l0]
       refine sC ?_;simp[z2];repeat first|simp[w,b0]|refine sR ?_
       refine sC ?_;repeat first|simp|refine sR ?_
       refine sT (sH Hb Ht ?_);simp[hA,l0]
   .rw[if_pos e3] at hA;have b3:(nmsE x.names != 0)=true:=by simp[e3]
    simp only[b3];refine sC ?_;repeat first|simp|refine sR ?_
    refine sT (sH Hb Ht ?_);simp[hA]
  .rw[e2,if_pos rfl] at hA;refine sC ?_;repeat first|simp|refine sR ?_
   refine sT (sH Hb Ht ?_);simp[hA]
instance:Inhabited NT:=⟨⟨eB,0,false,[]⟩⟩
def Ty.nd(t:Ty)(i:Nat):NT:=t.nodes.getD i default
def atsL(t:Ty)(i:Nat):List At:=if h:0<=(t.nd i).par/\(t.nd i).par.toNat<i then atsL t (t.nd i).par.toNat++(t.nd i).own else (t.nd i).own
termination_by i
decreasing_by exact h.2
theorem atsL_up{t:Ty}{i:Nat}(h:0<=(t.nd i).par)(h2:(t.nd i).par.toNat<i):atsL t i=atsL t (t.nd i).par.toNat++(t.nd i).own:=by rw[atsL,dif_pos ⟨h,h2⟩]
theorem atsL_top{t:Ty}{i:Nat}(h:¬0<=(t.nd i).par):atsL t i=(t.nd i).own:=by rw[atsL,dif_neg fun h2=>h h2.1]
theorem atsL_len{t:Ty}{M:Nat}(hM:∀i,(t.nd i).own.length<=M):∀n i,i<n->(atsL t i).length<=(i+1)*M
 | 0,i,hi=>absurd hi (Nat.not_lt_zero _)
 | n+1,i,hi=>by
  have hm:=hM i;by_cases h:0<=(t.nd i).par/\(t.nd i).par.toNat<i
  .have ih:=atsL_len hM n (t.nd i).par.toNat (by omega);rw[atsL_up h.1 h.2,List.length_append];have:((t.nd i).par.toNat+1)*M<=i*M:=Nat.mul_le_mul_right _ (by omega)
   rw[Nat.add_mul,Nat.one_mul];omega
  .rw[atsL,dif_neg h];have:M<=(i+1)*M:=Nat.le_mul_of_pos_left _ (by omega)
   omega
structure Ty.Fit (t:Ty):Prop where
 n:t.nodes.length<=1000
 e:t.edges.length<=1000
 nn:∀x∈t.nodes,x.name.size<=1000000000000
 en:∀x∈t.edges,x.name.size<=1000000000000
 a:∀x∈t.nodes,x.own.length<=1000/\∀y∈x.own,y.Fit
theorem nd_at{t:Ty}{i:Nat}(h:i<t.nodes.length):t.nd i=t.nodes[i]:=by simp[Ty.nd,h]
theorem attrs_c(t:Ty)(ht:t.Fit)(hM:∀i,(t.nd i).own.length<=1000):∀(n i:Nat),i<n->i<t.nodes.length->(∀j,j<=i->(t.nd j).par<j)->∀(tok:Tks) (nt:Nat),∃tok' nt' o,((∀q,tok q=true->q<nt)->TK tok nt tok' nt' [o]) /\
  DCall prog 212 [t.av,I i] tok nt (.osl 4 ((atsL t i).map At.cells) o) tok' nt'
 | 0,i,hi,_,_,_,_=>absurd hi (Nat.not_lt_zero _)
 | n+1,i,hi,hlt,hp,tok,nt=>by
  have hnd:=nd_at hlt;by_cases h0:0<=(t.nd i).par
  .have hpi:=hp i (nr _);obtain⟨tok1,nt1,o1,hk,hc⟩:=attrs_c t ht hM n (t.nd i).par.toNat (by omega) (by omega) (fun j hj=>hp j (by omega)) tok nt;have hL:=atsL_up h0 (by omega);have hl1:=atsL_len hM (i+1) (t.nd i).par.toNat (by omega);have hl2:=hM i;have hb:((t.nd i).par.toNat+1)*1000<=1000*1000:=Nat.mul_le_mul_right _ (by have:=ht.n;omega)
   refine⟨_,_,.tok nt1,fun h=>(hk h).app,?_⟩;rw[hL];rw[Int.toNat_of_nonneg h0] at hc;generalize atsL t (t.nd i).par.toNat=Q at *;rw[hnd] at h0 hc hl2 ⊢;intro box nb;have hc:=hc;refine sI func212 ntmps212 fun Hb Ht=>?_
   have hkk:=hk Ht;repeat first|simp[hlt]|refine sR ?_
   refine sC ?_;simp[h0];repeat first|simp|refine sR ?_
   refine sD (hc) ?_;simp;repeat first|simp[hlt]|refine sR ?_
   refine⟨⟨by omega,hkk.live⟩,?_⟩;refine sN ?_;refine AL.ret ?_;try simp only[AU]
   refine⟨by simp,Fin.own (by simp[resAs,resA];rfl) Hb rfl hkk.app.le ?_⟩;simp
  .have hL:=atsL_top h0;have hl2:=hM i;refine⟨_,_,.tok nt,fun h=>(TK.start h).full.app,?_⟩;rw[hL];rw[hnd] at h0 hl2 ⊢;intro box nb;refine sI func212 ntmps212 fun Hb Ht=>?_
   have hkk:=(TK.start Ht).full;repeat first|simp[hlt]|refine sR ?_
   refine sC ?_;simp[h0];repeat first|simp[hlt]|refine sR ?_
   refine⟨by omega,?_⟩;refine sN ?_;refine AL.ret ?_;try simp only[AU]
   refine⟨by simp,Fin.own (by simp[resAs,resA];rfl) Hb rfl (by simp) ?_⟩;simp
def bndB(lo hi:Int):Bool:=decide (0<=lo/\lo<=40)&&(hi == -1||decide (lo<=hi/\hi<=40))
theorem bounded_c(lo hi:Int):DC 217 [I lo,I hi] (B (bndB lo hi)):=by
 intro tok nt box nb;by_cases h1:0<=lo
 .by_cases h2:lo<=40
  .cases h3:(hi == -1)
   .by_cases h4:lo<=hi
    .by_cases h5:hi<=40
     .refine sI func217 ntmps217 fun Hb Ht=>?_
      repeat first|simp[h1,h2,h3,h4,h5]|refine sR ?_
      refine sT (sH Hb Ht ?_);simp[bndB,h1,h2,h3,h4,h5]
     .refine sI func217 ntmps217 fun Hb Ht=>?_
      repeat first|simp[h1,h2,h3,h4,h5]|refine sR ?_
      refine sT (sH Hb Ht ?_);simp[bndB,h1,h2,h3,h4,h5]
    .refine sI func217 ntmps217 fun Hb Ht=>?_
     repeat first|simp[h1,h2,h3,h4]|refine sR ?_
     refine sT (sH Hb Ht ?_);simp[bndB,h1,h2,h3,h4]
   .refine sI func217 ntmps217 fun Hb Ht=>?_
    repeat first|simp[h1,h2,h3]|refine sR ?_
    refine sT (sH Hb Ht ?_);simp[bndB,h1,h2,h3]
  .refine sI func217 ntmps217 fun Hb Ht=>?_
   repeat first|simp[h1,h2]|refine sR ?_
   refine sT (sH Hb Ht ?_);simp[bndB,h1,h2]
 .refine sI func217 ntmps217 fun Hb Ht=>?_
  repeat first|simp[h1]|refine sR ?_
  refine sT (sH Hb Ht ?_);simp[bndB,h1]
abbrev NT.row(n:NT):List AV:=[Sb n.name,I n.par,B n.abs,.d (atts n.own)]
abbrev ET.row(e:ET):List AV:=[Sb e.name,I e.fr,I e.to,I e.ol,I e.oh,I e.il,I e.ih]
theorem node1_c(x y:NT)(box:Bxs)(nb k:Nat)(tok:Tks)(nt:Nat)(h1:box k=some [x.row]):
  ACalls prog 211 [y.av,.ptr k 0 0] ⟨box,nb,tok,nt⟩ fun v m=>v=B (decide (y.name=x.name))/\m=⟨box,nb,tok,nt⟩:=by
 refine sI func211 ntmps211 fun Hb Ht=>?_
 have k1n:=key_lt Hb h1;rw[<-seq_dec];repeat first|simp[lO k1n,h1]|refine sR ?_
 refine sT (sH Hb Ht ?_);simp
theorem edge2_c(x y:ET)(box:Bxs)(nb k:Nat)(tok:Tks)(nt:Nat)(h1:box k=some [x.row]):
  ACalls prog 216 [y.av,.ptr k 0 0] ⟨box,nb,tok,nt⟩ fun v m=>v=B (decide (y.name=x.name))/\m=⟨box,nb,tok,nt⟩:=by
 refine sI func216 ntmps216 fun Hb Ht=>?_
 have k1n:=key_lt Hb h1;rw[<-seq_dec];repeat first|simp[lO k1n,h1]|refine sR ?_
 refine sT (sH Hb Ht ?_);simp
def insB(t:Ty)(n:Int):Bool:=decide (0<=n/\n<t.nodes.length)
theorem edge1_c(t:Ty)(n:Int)(box:Bxs)(nb k:Nat)(tok:Tks)(nt:Nat)(h1:box k=some [[.d (nts t.nodes),.d (ets t.edges)]]):
  ACalls prog 214 [I n,.ptr k 0 0] ⟨box,nb,tok,nt⟩ fun v m=>v=B (insB t n)/\m=⟨box,nb,tok,nt⟩:=by
 by_cases h0:0<=n
 .refine sI func214 ntmps214 fun Hb Ht=>?_
  have k1n:=key_lt Hb h1;repeat first|simp[lO k1n,h1,h0]|refine sR ?_
  refine sT (sH Hb Ht ?_);simp[insB,h0]
 .refine sI func214 ntmps214 fun Hb Ht=>?_
  have k1n:=key_lt Hb h1;repeat first|simp[lO k1n,h1,h0]|refine sR ?_
  refine sT (sH Hb Ht ?_);simp[insB,h0]
end Go.AM
