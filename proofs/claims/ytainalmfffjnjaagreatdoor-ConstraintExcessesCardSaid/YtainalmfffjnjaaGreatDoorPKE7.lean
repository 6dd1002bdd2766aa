/-
 Parts of the proof, as merged from many texts: a machine over data, what the functions compute, plain laws.
-/
import Derived.Test.YtainalmfffjnjaaGreatDoorPKE6
import Derived.Shelf.Sort.Plain
import Derived.Ground.Names2Prog
import Derived.Shelf.Slices.Clone
import Derived.Shelf.Slices.CompactI
import Derived.Shelf.Slices.In.SortNone
import Derived.Test.YtainalmfffjnjaaGreatDoorProg
import Derived.Test.YtainalmfffjnjaaGreatDoorChecked
import Derived.WalkKit
import Derived.Deep.LoopGhost
import Derived.Sort.OwnSortedInts
import Derived.Lib.OwnBridge
import Derived.RangeFuncBox
import Derived.RangeFuncLeaves
import Derived.Shelf.Abstract
import Derived.OwnWalkIn
import Derived.TacticsInMore
import Derived.LoopNIn
import Derived.LoopIn
import Derived.Maps.AppendAt
import Derived.Sort.EveryDepth
import Derived.Shelf.Small.Strs
import Derived.Shelf.Strings.Search1
import Derived.Shelf.Slices.Reverse
import Derived.Laws.Strings
import Derived.WideShapes
set_option linter.unusedSimpArgs false
set_option linter.unusedVariables false
namespace Go.AM
open Go Go.Proofs
def firstE (f:Nat→Int):Nat→Int
 | 0=>0
 | n+1=>if firstE f n=0 then f n else firstE f n
theorem firstE_stop {f:Nat→Int} {i:Nat} (h0:firstE f i=0) (h:f i≠0):∀ n,i<n→firstE f n=f i
 | 0,hn=>by omega
 | n+1,hn=>by
  simp only [firstE];by_cases e:i=n
  ·subst e; rw [if_pos h0]
  ·rw [firstE_stop h0 h n (by omega),if_neg h]
def nodeE (a b:Gr) (m:Mo) (i:Nat):Int :=
 if m.nodes.getD i 0<0∨(b.nodes.length:Int)≤m.nodes.getD i 0 then 6 else if b.nodes.getD (m.nodes.getD i 0).toNat 0=a.nodes.getD i 0 then 0 else 13
def edgeE (a b:Gr) (m:Mo) (i:Nat):Int :=
 if m.edges.getD i 0<0∨(b.edges.length:Int)≤m.edges.getD i 0 then 6 else
  let x:=a.edges.getD i default
  let y:=b.edges.getD (m.edges.getD i 0).toNat default
  if x.ty≠y.ty then 13 else if m.nodes.getD x.fr.toNat 0≠y.fr∨m.nodes.getD x.to.toNat 0≠y.to then 11 else 0
def validM (a b:Gr) (m:Mo):Int :=
 if validG a≠0 then validG a else if validG b≠0 then validG b else if m.nodes.length≠a.nodes.length∨m.edges.length≠a.edges.length then 20
 else if firstE (nodeE a b m) a.nodes.length≠0 then firstE (nodeE a b m) a.nodes.length else firstE (edgeE a b m) a.edges.length
def st51a (a b:Gr) (m:Mo) (nb:Nat) (box:Bxs) (tok:Tks) (nt:Nat) (i:Nat):AState :=
 ⟨tl [(3,.ptr (nb+3) 0 0),(4,.ptr (nb+4) 0 0),(5,.ptr (nb+5) 0 0),(42,.d (ints m.nodes)),(43,I m.nodes.length),(44,I i)],
  lb nb box [(3,[[.d (ints a.nodes),.d (AM.edges a.edges)]]),(4,[[.d (ints b.nodes),.d (AM.edges b.edges)]]),(5,[[.d (ints m.nodes),.d (ints m.edges)]])],tok,nt⟩
def st51b (a b:Gr) (m:Mo) (nb:Nat) (box:Bxs) (tok:Tks) (nt:Nat) (i:Nat):AState :=
 ⟨tl [(3,.ptr (nb+3) 0 0),(4,.ptr (nb+4) 0 0),(5,.ptr (nb+5) 0 0),(71,.d (ints m.edges)),(72,I m.edges.length),(73,I i)],
  lb nb box [(3,[[.d (ints a.nodes),.d (AM.edges a.edges)]]),(4,[[.d (ints b.nodes),.d (AM.edges b.edges)]]),(5,[[.d (ints m.nodes),.d (ints m.edges)]])],tok,nt⟩
theorem valid51_c (a b:Gr) (m:Mo) (ha:a.Fit) (hb:b.Fit) (tok:Tks) (nt:Nat):DCall Tryz.prog 124 [a.av,b.av,m.av] tok nt (I (validM a b m)) tok nt:=by
 intro box nb;have han:=ha.n;have hae:=ha.e;have hbn:=hb.n;have hbe:=hb.e;refine sI Tryz.func124 Tryz.ntmps124 fun hbox htok=>?_
 refine sR ?_;simp;refine sR ?_;simp;refine Stop.of_d (graphValid_c a ha _ _) ?_;simp;by_cases hva:validG a=0
 ·refine sR ?_;simp [hva];refine sC ?_;simp;refine sR ?_;simp;refine Stop.of_d (graphValid_c b hb _ _) ?_;simp;by_cases hvb:validG b=0
  ·refine sR ?_;simp [hvb];refine sC ?_;simp;have hxa:=validG_edges hva;have hxb:=validG_edges hvb;refine sR ?_;simp;by_cases hl1:m.nodes.length=a.nodes.length
   ·simp [hl1];refine sC ?_;simp;refine ⟨fun hl2=>?_,fun hl2=>?_⟩
    ·refine sR ?_;simp;have hR:validM a b m=20:=by
      have:¬ m.edges.length=a.edges.length:=by omega
      simp [validM,hva,hvb,this]
     refine sT (sH hbox htok ?_);simp [packA,hR]
    ·refine sR ?_;simp;refine sN ?_;have hl2':m.edges.length=a.edges.length:=by omega
     have hRn:∀ i,i<a.nodes.length→firstE (nodeE a b m) i=0→nodeE a b m i≠0→validM a b m=nodeE a b m i:=fun i hi h0 hne=>by
      have:=firstE_stop h0 hne a.nodes.length hi
      simp [validM,hva,hvb,hl1,hl2',this,hne]
     refine AL.loopT (st51a a b m nb box tok nt) (fun i=>i≤m.nodes.length∧firstE (nodeE a b m) i=0) (fun i=>m.nodes.length - i) 0 ⟨Nat.zero_le _,rfl⟩ wkA ?_;rintro i S ⟨hi,hok⟩ hS;simp only [st51a] at hS;subst hS;have hw:=sW (i:=i) (by omega);refine sR ?_;simp;refine sC ?_;simp;refine ⟨fun hlt=>?_,fun hge=>?_⟩
     ·have hia:i<a.nodes.length:=by omega
      have hgm:m.nodes.getD i 0=m.nodes[i]:=by simp [hlt]
      have hga:a.nodes.getD i 0=a.nodes[i]:=by simp [hia]
      refine sR ?_;simp [hlt];by_cases hneg:m.nodes[i]<0
      ·refine sR ?_;simp [hneg];refine sC ?_;simp;refine sR ?_;simp;have hN:nodeE a b m i=6:=by simp only [nodeE,hgm]; rw [if_pos (.inl hneg)]
       have hR:=hRn i hia hok (by rw [hN]; decide);refine sT (sH hbox htok ?_);simp [packA,hR,hN]
      ·refine sR ?_;simp [hneg];refine sC ?_;simp;refine ⟨fun hbig=>?_,fun hsm=>?_⟩
       ·refine sR ?_;simp;have hN:nodeE a b m i=6:=by simp only [nodeE,hgm]; rw [if_pos (.inr (by omega))]
        have hR:=hRn i hia hok (by rw [hN]; decide);refine sT (sH hbox htok ?_);simp [packA,hR,hN]
       ·have hkb:m.nodes[i].toNat<b.nodes.length:=by omega
        have h0:0≤m.nodes[i]:=by omega
        have hgb:b.nodes.getD m.nodes[i].toNat 0=b.nodes[m.nodes[i].toNat]:=by simp [hkb]
        have hnb:¬ (b.nodes.length:Int)≤m.nodes[i]:=by omega
        refine sR ?_;simp [hkb,h0,hsm,hia];refine sC ?_;simp;refine ⟨fun hne=>?_,fun heq=>?_⟩
        ·refine sR ?_;simp;have hN:nodeE a b m i=13:=by simp only [nodeE,hgm,hga,hgb]; rw [if_neg (by omega),if_neg hne]
         have hR:=hRn i hia hok (by rw [hN]; decide);refine sT (sH hbox htok ?_);simp [packA,hR,hN]
        ·refine sR ?_;simp [hw];refine sE ?_;refine ⟨i+1,⟨hlt,?_⟩,by omega,wkA⟩;have hN:nodeE a b m i=0:=by simp only [nodeE,hgm,hga,hgb]; rw [if_neg (by omega),if_pos heq]
         simp only [firstE,hok,hN, ↓reduceIte]
     ·refine sX ?_;simp only [AU, ↓reduceIte];have hin:i=a.nodes.length:=by omega
      subst hin;refine sR ?_;simp;refine sN ?_;have hRe:∀ i,i<a.edges.length→firstE (edgeE a b m) i=0→edgeE a b m i≠0→validM a b m=edgeE a b m i:=fun i hi h0 hne=>by
       have:=firstE_stop h0 hne a.edges.length hi
       simp [validM,hva,hvb,hl1,hl2',hok,this]
      refine AL.loopT (st51b a b m nb box tok nt) (fun i=>i≤m.edges.length∧firstE (edgeE a b m) i=0) (fun i=>m.edges.length - i) 0 ⟨Nat.zero_le _,rfl⟩ wkA ?_;rintro i S ⟨hi,hoke⟩ hS;simp only [st51b] at hS;subst hS;have hw:=sW (i:=i) (by omega);refine sR ?_;simp;refine sC ?_;simp;refine ⟨fun hlt=>?_,fun hge=>?_⟩
      ·have hia:i<a.edges.length:=by omega
       have hgm:m.edges.getD i 0=m.edges[i]:=by simp [hlt]
       have hga:a.edges.getD i default=a.edges[i]:=by simp [hia]
       obtain ⟨x1,x2,x3,x4⟩:=hxa _ (List.getElem_mem hia);rw [←hl1] at x2 x4;have y1:a.edges[i].fr.toNat<m.nodes.length:=by omega
       have y2:a.edges[i].to.toNat<m.nodes.length:=by omega
       have hg1:m.nodes.getD a.edges[i].fr.toNat 0=m.nodes[a.edges[i].fr.toNat]:=by simp [y1]
       have hg2:m.nodes.getD a.edges[i].to.toNat 0=m.nodes[a.edges[i].to.toNat]:=by simp [y2]
       refine sR ?_;simp [hlt];by_cases hneg:m.edges[i]<0
       ·refine sR ?_;simp [hneg];refine sC ?_;simp;refine sR ?_;simp;have hN:edgeE a b m i=6:=by simp only [edgeE,hgm]; rw [if_pos (.inl hneg)]
        have hR:=hRe i hia hoke (by rw [hN]; decide);refine sT (sH hbox htok ?_);simp [packA,hR,hN]
       ·refine sR ?_;simp [hneg];refine sC ?_;simp;refine ⟨fun hbig=>?_,fun hsm=>?_⟩
        ·refine sR ?_;simp;have hN:edgeE a b m i=6:=by simp only [edgeE,hgm]; rw [if_pos (.inr (by omega))]
         have hR:=hRe i hia hoke (by rw [hN]; decide);refine sT (sH hbox htok ?_);simp [packA,hR,hN]
        ·have hkb:m.edges[i].toNat<b.edges.length:=by omega
         have h0:0≤m.edges[i]:=by omega
         have hgb:b.edges.getD m.edges[i].toNat default=b.edges[m.edges[i].toNat]:=by simp [hkb]
         have hnn:¬ (m.edges[i]<0∨(b.edges.length:Int)≤m.edges[i]):=by omega
         refine sN ?_;refine AL.region2 follows_Tryz (Nat.le_refl _) (by kernel_rfl) (Side.of (by simp)) ?_;simp [hkb,h0,hsm,hia];generalize hy:b.edges[m.edges[i].toNat]=y at *;refine sR ?_;simp;refine sC ?_;simp;refine ⟨fun hty=>?_,fun hty=>?_⟩
         ·refine sR ?_;simp;have hN:edgeE a b m i=13:=by simp only [edgeE,hgm,hga,hgb]; rw [if_neg hnn,if_pos hty]
          have hR:=hRe i hia hoke (by rw [hN]; decide);refine sT (sH hbox htok ?_);simp [packA,hR,hN]
         ·refine sR ?_;simp [x1,x2,x3,x4,y1,y2];by_cases hfr:m.nodes[a.edges[i].fr.toNat]=y.fr
          ·have hb1:(m.nodes[a.edges[i].fr.toNat] != y.fr)=false:=by simp [hfr]
           simp only [hb1];simp [x1,x2,x3,x4,y1,y2];refine sC ?_;simp;refine ⟨fun hto=>?_,fun hto=>?_⟩
           ·refine sR ?_;simp;have hN:edgeE a b m i=11:=by simp only [edgeE,hgm,hga,hgb,hg1,hg2]; rw [if_neg hnn,if_neg (by simp [hty]),if_pos (.inr hto)]
            have hR:=hRe i hia hoke (by rw [hN]; decide);refine sT (sH hbox htok ?_);simp [packA,hR,hN]
           ·refine sR ?_;simp [hw];refine sE ?_;refine ⟨i+1,⟨hlt,?_⟩,by omega,wkA⟩;have hN:edgeE a b m i=0:=by simp only [edgeE,hgm,hga,hgb,hg1,hg2]; rw [if_neg hnn,if_neg (by simp [hty]),if_neg (by simp [hfr,hto])]
            simp only [firstE,hoke,hN, ↓reduceIte]
          ·have hb1:(m.nodes[a.edges[i].fr.toNat] != y.fr)=true:=by simp [hfr]
           simp only [hb1];simp;refine sC ?_;simp;refine sR ?_;simp;have hN:edgeE a b m i=11:=by simp only [edgeE,hgm,hga,hgb,hg1,hg2]; rw [if_neg hnn,if_neg (by simp [hty]),if_pos (.inl hfr)]
           have hR:=hRe i hia hoke (by rw [hN]; decide);refine sT (sH hbox htok ?_);simp [packA,hR,hN]
      ·refine sX ?_;simp only [AU, ↓reduceIte];have hin:i=a.edges.length:=by omega
       subst hin;refine sR ?_;simp;have hR:validM a b m=0:=by simp [validM,hva,hvb,hl1,hl2',hok,hoke]
       refine sT (sH hbox htok ?_);simp [packA,hR]
   ·have hb1:((m.nodes.length:Int) != (a.nodes.length:Int))=true:=by simp; omega
    simp only [hb1];simp;refine sC ?_;simp;refine sR ?_;simp;have hR:validM a b m=20:=by simp [validM,hva,hvb,hl1]
    refine sT (sH hbox htok ?_);simp [packA,hR]
  ·refine sR ?_;simp;refine sC ?_;simp [hvb];refine sR ?_;simp;refine sT (sH hbox htok ?_);simp [packA,validM,hva,hvb]
 ·refine sR ?_;simp;refine sC ?_;simp [hva];refine sR ?_;simp;refine sT (sH hbox htok ?_);simp [packA,validM,hva]
theorem indexI_spec (x:List Int) (k:Int):(indexI x k = -1∧k∉x)∨∃ i:Nat,indexI x k=i∧i<x.length∧x.getD i 0=k:=by
 unfold indexI;by_cases h:k∈x
 ·right;rw [if_pos h];have h1:=List.idxOf_lt_length_of_mem h;refine ⟨x.idxOf k,rfl,h1,?_⟩;rw [List.getD_eq_getElem?_getD,List.getElem?_eq_getElem h1];simp
 ·left;rw [if_neg h];exact ⟨rfl,h⟩
def okN (a b:Gr) (i k:Nat):Bool:=decide (a.nodes.getD k 0=b.nodes.getD i 0)
def okE (a b:Gr) (x:List Int) (i k:Nat):Bool:=decide (a.edges.getD k default=⟨(b.edges.getD i default).ty,x.getD (b.edges.getD i default).fr.toNat 0,x.getD (b.edges.getD i default).to.toNat 0⟩)
structure Dr where
 nodes:List Int
 edges:List (Int × Int × Int)
abbrev u8 (n:Int):D:=.raw (.int .u8 n)
def distK (l:List Int) (i:Nat):Bool:=(List.range i).all fun j=>(List.range j).all fun k=>decide (l.getD j 0≠l.getD k 0)
def injM (a b:Gr) (m:Mo):Bool:=decide (validM a b m=0)&&(distK m.nodes m.nodes.length&&distK m.edges m.edges.length)
def mN (x:Dr) (i:Nat):List Int:=(x.nodes.take i).map fun n=>n % 3
@[simp] theorem mN_len (x:Dr) (i:Nat):(mN x i).length=min i x.nodes.length:=by simp [mN]
def mE (x:Dr) (n:Int) (i:Nat):List E:=(x.edges.take i).map fun e=>⟨e.1 % 2,e.2.1 % n,e.2.2 % n⟩
@[simp] theorem mE_len (x:Dr) (n:Int) (i:Nat):(mE x n i).length=min i x.edges.length:=by simp [mE]
theorem getD_mem {α:Type} {r:List α} {d:α} {j:Nat} (h:j<r.length):r.getD j d∈r:=by
 simp [List.getD_eq_getElem?_getD,List.getElem?_eq_getElem h]
theorem validG_types {g:Gr} (h:validG g=0):(g.nodes.length≤40∧g.edges.length≤80)∧(∀ n∈g.nodes,withinB n 99=true)∧∀ e∈g.edges,fitsB e g.nodes.length=true:=by
 unfold validG at h;split at h
 ·cases h
 ·rename_i h0;split at h
  ·cases h
  ·rename_i h1;split at h
   ·cases h
   ·rename_i h2;simp only [anyB,List.any_eq_true,not_exists,not_and,Bool.not_eq_true',Bool.not_eq_false] at h1 h2;exact ⟨by omega,h1,h2⟩
end Go.AM
namespace Go.Proofs
open Go.Shelf
def Tryz.lays189_ren:Go.Shelf.Ren:=⟨fun|189=>156|125=>232|257=>231|128=>275|129=>276|294=>266|295=>267|296=>268|297=>269|298=>270|299=>271|216=>272|300=>273|301=>274|328=>294|329=>295|330=>296|331=>297|332=>298|215=>299|343=>312|n=>n,fun|28=>26|3=>3|46=>310|0=>0|51=>283|53=>352|4=>4|183=>344|182=>343|131=>348|5=>5|9=>9|218=>367|222=>371|228=>383|229=>244|n=>n,fun|n=>n⟩
theorem Tryz.lays189:Go.Proofs.Lays.n189 Tryz.prog Tryz.lays189_ren:={
 mixed:=by kernel_rfl
 f125:=Tryz.func232.trans (congrArg some (by kernel_rfl))
 f128:=Tryz.func275.trans (congrArg some (by kernel_rfl))
 f129:=Tryz.func276.trans (congrArg some (by kernel_rfl))
 f189:=Tryz.func156.trans (congrArg some (by kernel_rfl))
 f215:=Tryz.func299.trans (congrArg some (by kernel_rfl))
 f216:=Tryz.func272.trans (congrArg some (by kernel_rfl))
 f257:=Tryz.func231.trans (congrArg some (by kernel_rfl))
 f294:=Tryz.func266.trans (congrArg some (by kernel_rfl))
 f295:=Tryz.func267.trans (congrArg some (by kernel_rfl))
 f296:=Tryz.func268.trans (congrArg some (by kernel_rfl))
 f297:=Tryz.func269.trans (congrArg some (by kernel_rfl))
 f298:=Tryz.func270.trans (congrArg some (by kernel_rfl))
 f299:=Tryz.func271.trans (congrArg some (by kernel_rfl))
 f300:=Tryz.func273.trans (congrArg some (by kernel_rfl))
 f301:=Tryz.func274.trans (congrArg some (by kernel_rfl))
 f328:=Tryz.func294.trans (congrArg some (by kernel_rfl))
 f329:=Tryz.func295.trans (congrArg some (by kernel_rfl))
 f330:=Tryz.func296.trans (congrArg some (by kernel_rfl))
 f331:=Tryz.func297.trans (congrArg some (by kernel_rfl))
 f332:=Tryz.func298.trans (congrArg some (by kernel_rfl))
 f343:=Tryz.func312.trans (congrArg some (by kernel_rfl))
 t0:=Tryz.underlying0
 a0:=Tryz.isAgg0
 z0:=Tryz.sizeOf0
 v0:=Tryz.zeroValue0
 t3:=Tryz.underlying3
 a3:=Tryz.isAgg3
 z3:=Tryz.sizeOf3
 v3:=Tryz.zeroValue3
 t4:=Tryz.underlying4
 a4:=Tryz.isAgg4
 z4:=Tryz.sizeOf4
 v4:=Tryz.zeroValue4
 t5:=Tryz.underlying5
 a5:=Tryz.isAgg5
 z5:=Tryz.sizeOf5
 v5:=Tryz.zeroValue5
 t9:=Tryz.underlying9
 a9:=Tryz.isAgg9
 z9:=Tryz.sizeOf9
 v9:=Tryz.zeroValue9
 t28:=Tryz.underlying26
 a28:=Tryz.isAgg26
 z28:=Tryz.sizeOf26
 v28:=Tryz.zeroValue26
 t46:=Tryz.underlying310
 a46:=Tryz.isAgg310
 z46:=Tryz.sizeOf310
 v46:=Tryz.zeroValue310
 t51:=Tryz.underlying283
 a51:=Tryz.isAgg283
 z51:=Tryz.sizeOf283
 v51:=Tryz.zeroValue283
 t53:=Tryz.underlying352
 a53:=Tryz.isAgg352
 z53:=Tryz.sizeOf352
 v53:=Tryz.zeroValue352
 t131:=Tryz.underlying348
 a131:=Tryz.isAgg348
 z131:=Tryz.sizeOf348
 v131:=Tryz.zeroValue348
 t182:=Tryz.underlying343
 a182:=Tryz.isAgg343
 z182:=Tryz.sizeOf343
 v182:=Tryz.zeroValue343
 t183:=Tryz.underlying344
 a183:=Tryz.isAgg344
 z183:=Tryz.sizeOf344
 v183:=Tryz.zeroValue344
 t218:=Tryz.underlying367
 a218:=Tryz.isAgg367
 z218:=Tryz.sizeOf367
 v218:=Tryz.zeroValue367
 t222:=Tryz.underlying371
 a222:=Tryz.isAgg371
 z222:=Tryz.sizeOf371
 v222:=Tryz.zeroValue371
 t228:=Tryz.underlying383
 a228:=Tryz.isAgg383
 z228:=Tryz.sizeOf383
 v228:=Tryz.zeroValue383
 t229:=Tryz.underlying244
 a229:=Tryz.isAgg244
 z229:=Tryz.sizeOf244
 v229:=Tryz.zeroValue244 }
open Go.Sort Go.RowKit in
theorem Tryz.slices_Sort_int (blk off cap:Nat) (zs:List Int) (w:World) (hH:Holds (Value.int .i64) w blk off zs.toArray) (hblk:blk<w.heap.size) (hsz:zs.length<4611686018427387904) :
  Calls Tryz.prog 156 #[.slice (some ⟨blk,off,none⟩) zs.length cap] w fun e w' =>
   e=.returned (.tuple #[])∧∃ n os,w'=grow (putRow (Value.int .i64) (Sort.ahead w n) blk off (zs.mergeSort fun x y=>decide (x≤y)).toArray) os:=Any.slices_Sort_int Tryz.lays189 blk off cap zs w hH hblk hsz
def Tryz.laysNm215_ren:Go.Shelf.Ren:=⟨fun|15=>126|n=>n,fun|22=>26|3=>3|4=>4|n=>n,fun|n=>n⟩
theorem Tryz.laysNm215:Go.Proofs.Lays2.n15 Tryz.prog Tryz.laysNm215_ren:={
 mixed:=by kernel_rfl
 f15:=Tryz.func126.trans (congrArg some (by kernel_rfl))
 t3:=Tryz.underlying3
 a3:=Tryz.isAgg3
 z3:=Tryz.sizeOf3
 v3:=Tryz.zeroValue3
 t4:=Tryz.underlying4
 a4:=Tryz.isAgg4
 z4:=Tryz.sizeOf4
 v4:=Tryz.zeroValue4
 t22:=Tryz.underlying26
 a22:=Tryz.isAgg26
 z22:=Tryz.sizeOf26
 v22:=Tryz.zeroValue26
 i3:=by kernel_rfl }
open Go.RowKit Go.Lib in
theorem Tryz.slices_Clone_int (b off n c:Nat) (zs:List Int) (w:World) (hz:n≤zs.length) (hbig:n * 8≤140737488355328) (hc:∀ j,j<zs.length→w.cell? ⟨b,off+j,none⟩=some (.int .i64 (zs.getD j 0))) :
  Calls Tryz.prog 126 #[.slice (some ⟨b,off,none⟩) n c] w fun e w'=>∃ v',e=.returned v'∧w'.ownsRow w.heap.size 3 1 v' n ((zs.take n).map (Value.int .i64))∧v'≠.slice none 0 0∧Below w.heap.size w w':=Any.slices_Clone_int Tryz.laysNm215 b off n c zs w hz hbig hc
open Go.RowKit Go.Lib in
theorem Tryz.slices_Clone_int_nil (n c:Nat) (w:World) :
  Calls Tryz.prog 126 #[.slice none n c] w fun e w'=>e=.returned (.slice none 0 0)∧w'=w:=Any.slices_Clone_int_nil Tryz.laysNm215 n c w
open Go.RowKit Go.Lib in
theorem Tryz.slices_Clone_int_zero (a:Addr) (c:Nat) (w:World) :
  Calls Tryz.prog 126 #[.slice (some a) 0 c] w fun e w'=>∃ v',e=.returned v'∧w'.ownsRow w.heap.size 3 1 v' 0 []∧v'≠.slice none 0 0∧Below w.heap.size w w':=Any.slices_Clone_int_zero Tryz.laysNm215 a c w
def Tryz.laysNm220_ren:Go.Shelf.Ren:=⟨fun|20=>258|n=>n,fun|22=>26|3=>3|4=>4|0=>0|n=>n,fun|n=>n⟩
theorem Tryz.laysNm220:Go.Proofs.Lays2.n20 Tryz.prog Tryz.laysNm220_ren:={
 mixed:=by kernel_rfl
 f20:=Tryz.func258.trans (congrArg some (by kernel_rfl))
 t0:=Tryz.underlying0
 a0:=Tryz.isAgg0
 z0:=Tryz.sizeOf0
 v0:=Tryz.zeroValue0
 t3:=Tryz.underlying3
 a3:=Tryz.isAgg3
 z3:=Tryz.sizeOf3
 v3:=Tryz.zeroValue3
 t4:=Tryz.underlying4
 a4:=Tryz.isAgg4
 z4:=Tryz.sizeOf4
 v4:=Tryz.zeroValue4
 t22:=Tryz.underlying26
 a22:=Tryz.isAgg26
 z22:=Tryz.sizeOf26
 v22:=Tryz.zeroValue26
 i3:=by kernel_rfl }
open Go.RowKit Go.Lib Go.Sort in
theorem Tryz.slices_Compact_int (blk off cap:Nat) (zs:List Int) (w:World) (hH:Holds (Value.int .i64) w blk off zs.toArray) (hsz:zs.length≤9223372036854775807) (hcap:zs.length≤cap) :
  Calls Tryz.prog 258 #[.slice (some ⟨blk,off,none⟩) zs.length cap] w fun e w'=>e=.returned (.slice (some ⟨blk,off,none⟩) (Lib.compact zs).length cap)∧∃ q,w'=putRow (Value.int .i64) (Sort.ahead w q) blk off (Lib.compact zs++List.replicate (zs.length - (Lib.compact zs).length) 0).toArray:=Any.slices_Compact_int Tryz.laysNm220 blk off cap zs w hH hsz hcap
open Go.RowKit Go.Lib Go.Sort in
theorem Tryz.slices_Compact_int_empty (a:Option Addr) (cap:Nat) (w:World) :
  Calls Tryz.prog 258 #[.slice a 0 cap] w fun e w'=>e=.returned (.slice a 0 cap)∧w'=w:=Any.slices_Compact_int_empty Tryz.laysNm220 a cap w
open Go.RowKit Go.Sort in
theorem Tryz.slices_Sort_int_none (p:Option Addr) (cap:Nat) (w:World) :
  Calls Tryz.prog 156 #[.slice p 0 cap] w fun e w'=>e=.returned (.tuple #[])∧w'=w:=Any.slices_Sort_int_none Tryz.lays189 p cap w
end Go.Proofs
namespace Go.Proofs.YtainalmfffjnjaaGreatDoorX.images
open Go Go.Proofs Go.RowKit Go.Shelf Go.Sort
theorem below_grow {B:Nat} {w0 w:World} {os:Array Obj} (h:Below B w0 w) (hB:B≤w.heap.size):Below B w0 (grow w os) :=
 ⟨h.os,h.tape,h.output,by simp [grow]; have:=h.size; omega,fun k hk=>by
  rw [←h.block k hk];exact heap_grow_old _ _ (by omega)⟩
set_option maxHeartbeats 2000000 in
set_option maxRecDepth 100000 in
theorem any (b off n c:Nat) (zs:List Int) (w:World) (hz:zs.length=n) (hbig:n * 8≤140737488355328) (hc:∀ j,j<zs.length→w.cell? ⟨b,off+j,none⟩=some (.int .i64 (zs.getD j 0))) :
    Calls Tryz.prog 205 #[.slice (some ⟨b,off,none⟩) n c] w fun e w'=>e=.returned (.int .i64 (Lib.compact (zs.mergeSort fun x y=>decide (x≤y))).length)∧Below w.heap.size w w':=by
  have hclone:=Tryz.slices_Clone_int b off n c zs w (by omega) hbig hc;rw [List.take_of_length_le (by omega)] at hclone;clear hc
  go_enter Tryz.func205,Tryz.ntmps205
  go_wp2_with (first
    | (go_at_call 126; refine hclone.mono ?_; rintro e w1 ⟨v1,rfl,hown,hnn,hbel⟩
       obtain ⟨g,cap,rfl,hbg,hgl,hncap,hcm,hlen,hH⟩:=Lib.holds_of_ownsRow hown hnn;have hsort:=Tryz.slices_Sort_int g 0 cap zs w1 hH hgl (by omega);rw [hlen] at hsort;have X:Aside (Below w.heap.size w w1∧w.heap.size≤g∧g<w1.heap.size∧n≤cap∧cap≤maxLen∧Holds (Value.int .i64) w1 g 0 zs.toArray):=⟨hbel,hbg,hgl,hncap,hcm,hH⟩
       clear hown hbel hH hnn)
    | (go_at_call 156; refine hsort.mono ?_; rintro e w2 ⟨rfl,nn,os,rfl⟩
       have hl2:(zs.mergeSort fun x y=>decide (x≤y)).length=n:=by rw [List.length_mergeSort]; exact hz
       have hH2:Holds (Value.int .i64) (grow (putRow (Value.int .i64) (Sort.ahead w1 nn) g 0 (zs.mergeSort fun x y=>decide (x≤y)).toArray) os) g 0 (zs.mergeSort fun x y=>decide (x≤y)).toArray :=
         holds_grow _ _ os g 0 _ (by simpa [putRow,mapBlock,Sort.ahead] using X.out.2.2.1) (holds_putRow _ _ g 0 _ _ (holds_ahead _ w1 nn g 0 _ X.out.2.2.2.2.2) (by simp))
       have hcomp:=Tryz.slices_Compact_int g 0 cap (zs.mergeSort fun x y=>decide (x≤y)) _ hH2 (by omega) (by have:=X.out.2.2.2.1; omega);rw [hl2] at hcomp;clear hH2 hsort)
    | (go_at_call 258; refine hcomp.mono ?_; rintro e w3 ⟨rfl,q,rfl⟩))
  go_ret
  exact ⟨rfl,Lib.below_putRow (below_grow (Lib.below_putRow X.out.1 X.out.2.1) (by have:=X.out.1.size; simp [putRow,mapBlock,Sort.ahead]; omega)) X.out.2.1⟩
set_option maxHeartbeats 2000000 in
set_option maxRecDepth 100000 in
theorem zero (a:Addr) (c:Nat) (w:World):Calls Tryz.prog 205 #[.slice (some a) 0 c] w fun e w'=>e=.returned (.int .i64 0)∧Below w.heap.size w w':=by
  have hclone:=Tryz.slices_Clone_int_zero a c w
  go_enter Tryz.func205,Tryz.ntmps205
  go_wp2_with (first
    | (go_at_call 126; refine hclone.mono ?_; rintro e w1 ⟨v1,rfl,hown,hnn,hbel⟩
       obtain ⟨g,cap,rfl,_,_,_,_,_,_⟩:=Lib.holds_of_ownsRow (enc:=Value.int .i64) (zs:=[]) hown hnn;have X:Aside (Below w.heap.size w w1):=hbel
       clear hown hbel hnn)
    | (go_at_call 156; refine (Tryz.slices_Sort_int_none _ _ _).mono ?_; rintro e w2 ⟨rfl,rfl⟩)
    | (go_at_call 258; refine (Tryz.slices_Compact_int_empty _ _ _).mono ?_; rintro e w3 ⟨rfl,rfl⟩))
  go_ret
  exact ⟨rfl,X.out⟩
set_option maxHeartbeats 2000000 in
set_option maxRecDepth 100000 in
theorem none (n c:Nat) (w:World):Calls Tryz.prog 205 #[.slice none n c] w fun e w'=>e=.returned (.int .i64 0)∧Below w.heap.size w w':=by
 go_enter Tryz.func205,Tryz.ntmps205
 go_wp2_with (first
  | (go_at_call 126; refine (Tryz.slices_Clone_int_nil n c _).mono ?_; rintro e w1 ⟨rfl,rfl⟩)
  | (go_at_call 156; refine (Tryz.slices_Sort_int_none _ _ _).mono ?_; rintro e w2 ⟨rfl,rfl⟩)
  | (go_at_call 258; refine (Tryz.slices_Compact_int_empty _ _ _).mono ?_; rintro e w3 ⟨rfl,rfl⟩))
 go_ret
 exact ⟨rfl,Below.refl _ _⟩
end Go.Proofs.YtainalmfffjnjaaGreatDoorX.images
namespace Go.AM
open Go Go.Proofs Go.RowKit
theorem le_below {G:Gh} {w w':World} {m:AMem} (hm:RelM G m w) (h:Below w.heap.size w w'):Le G w G w' where
 os:=h.os
 tape:=h.tape
 output:=h.output
 size:=h.size
 whole b hb hk:=⟨hk,h.block b hb⟩
 part b f c hk:=⟨⟨f,Nat.le_refl _,hk⟩,fun a ha _=>by
  have hb:a.block<w.heap.size:=by
   rcases Nat.lt_or_ge a.block w.heap.size with hb|hb
   ·exact hb
   ·have:=hm.fresh a.block hb
    rw [ha,hk] at this;cases this
  exact World.cell?_of_block (w:=w) (h.block _ hb)⟩
 bx _ _ h:=h
 ty b c0 T f0 hb:=⟨c0,f0,(h.block b (Array.getElem?_eq_some_iff.1 hb).1).trans hb⟩
 nt:=Nat.le_refl _
 tk t _:=.inr ⟨rfl,fun g hg=>⟨rfl,fun _=>h.block g (hm.tlt t g hg)⟩⟩
theorem lt_of_obj {w:World} {b:Nat} {o:Obj} (h:w.heap[b]?=some o):b<w.heap.size:=by
 rcases Nat.lt_or_ge b w.heap.size with hb|hb
 ·exact hb
 ·rw [Array.getElem?_eq_none hb] at h; cases h
theorem relM_below {G:Gh} {w w':World} {m:AMem} (hm:RelM G m w) (h:Below w.heap.size w w'):RelM G m w':=by
 have hle:=le_below hm h;constructor
 case box =>
  intro k rows b sz h1 h2;obtain ⟨g1,cs,e,g2,g3,g4,g5⟩:=hm.box k rows b sz h1 h2;exact ⟨g1,cs,e,by rw [h.block b (lt_of_obj g2)]; exact g2,g3,g4.mono hle,g5⟩
 case nobox=>exact hm.nobox
 case inj=>exact hm.inj
 case nb=>exact hm.nb
 case nt=>exact hm.nt
 case toks=>exact hm.toks
 case tokb =>
  intro t g hg;obtain ⟨f,cur,e,g1,g2⟩:=hm.tokb t g hg;exact ⟨f,cur,e,g1,by rw [h.block g (lt_of_obj g2)]; exact g2⟩
 case tinj=>exact hm.tinj
 case tnt=>exact hm.tnt
 case glob=>exact hm.glob.mono hle.cells fun g hg hk=>hle.whole g hg hk
 case fresh=>intro b hb; exact hm.fresh b (Nat.le_trans h.size hb)
theorem DCall.of_below {P:Program} {f:FuncId} {args:List AV} {tok:Nat→Bool} {nt:Nat} {v:Value} (hE:Enters P f) (h1:v.oneCell'=true)
  (h:∀ G w vals,RVs G w args vals→Calls P f vals.toArray w fun e w'=>e=.returned v∧Below w.heap.size w w'):DCall P f args tok nt (.d (.raw v)) tok nt:=by
 intro box nb;refine ⟨hE,fun G w vals hm hr=>(h G w vals hr).mono ?_⟩;rintro e w' ⟨rfl,hb⟩;exact ⟨v,_,_,G,rfl,⟨rfl,rfl⟩,rfl,relM_below hm hb,.d (.raw h1),le_below hm hb,fun k hk=>⟨hk,rfl⟩⟩
theorem rvd_ints {c:Addr→Option Value} {ps:Addr→Prop} {l:List Int} {v:Value} (h:RVd c ps (ints l) v) :
  ∃ A cap,v=.slice A l.length cap∧l.length≤cap∧cap≤maxLen∧(l≠[]→∃ a,A=some a)∧∀ a,A=some a→∀ i,i<l.length→c (a.add i)=some (.int .i64 (l.getD i 0)):=by
 unfold ints at h;generalize hes:(l.map fun n=>[D.raw (.int .i64 n)])=es at h;cases h with
 | @sl _ _ A cap u hcap hmax hsz hA hc hr =>
  have hl:es.length=l.length:=by rw [←hes]; simp
  refine ⟨A,cap,by rw [hl],by omega,hmax,fun hne=>hA (by intro e; rw [e] at hl; exact hne (List.length_eq_zero_iff.1 hl.symm)),fun a ha i hi=>?_⟩;have g:=(hc a ha i 0 (by omega) (by decide)).2;have r:=hr i 0 (by omega) (by rw [hsz _ (List.getElem_mem _)]; decide);have e1:es[i][0]'(by rw [hsz _ (List.getElem_mem _)]; decide)=D.raw (.int .i64 l[i]):=by
   subst hes;simp
  rw [e1] at r;have e2:u i 0=.int .i64 l[i]:=by
   generalize hu:u i 0=x at r;cases r;rfl
  rw [Nat.mul_one,Nat.add_zero,e2] at g;rw [g];simp [hi]
def imagesN (l:List Int):Nat:=(Lib.compact (l.mergeSort fun x y=>decide (x≤y))).length
theorem imagesN_nil:imagesN []=0:=by
 simp [imagesN,List.mergeSort,Lib.compact];rfl
theorem images88_c (l:List Int) (hl:l.length≤1000000) (tok:Tks) (nt:Nat):DCall Tryz.prog 205 [.d (ints l)] tok nt (I (imagesN l)) tok nt:=by
 refine DCall.of_below (Enters.mk Tryz.func205 rfl (by kernel_rfl)) rfl fun G w vals hr=>?_
 obtain ⟨hlen,hrv⟩:=hr
 match vals,hlen with
 | [v],_ =>
  have h0:=hrv 0 (by simp) (by simp);simp only [List.getElem_cons_zero] at h0;cases h0 with
  | d h0 =>
   obtain ⟨A,cap,rfl,hcap,hmax,hA,hc⟩:=rvd_ints h0;cases A with
   | none =>
    have:l=[]:=by
     by_cases e:l=[]
     ·exact e
     ·obtain ⟨a,ha⟩:=hA e; cases ha
    subst this;exact (YtainalmfffjnjaaGreatDoorX.images.none _ cap w).mono fun e w' h=>by rw [imagesN_nil]; exact h
   | some a =>
    by_cases e:l=[]
    ·subst e;exact (YtainalmfffjnjaaGreatDoorX.images.zero a cap w).mono fun e w' h=>by rw [imagesN_nil]; exact h
    ·have hp:0<l.length:=List.length_pos_iff.2 e
     have hc':=hc a rfl
     have hs:a.spot=none:=by
      cases hsp:a.spot with
      | none=>rfl
      | some q =>
       exfalso
       have:=hc' 0 hp
       simp only [World.cell?,Addr.add,hsp,Option.isSome_some, ↓reduceIte] at this;split at this <;> simp at this
     obtain ⟨b,off,sp⟩:=a;simp only at hs;subst hs;refine (YtainalmfffjnjaaGreatDoorX.images.any b off l.length cap l w rfl (by omega) fun j hj=>?_).mono fun e w' h=>h
     have h1:=hc' j hj;unfold Addr.add at h1;split at h1
     ·rename_i e; subst e; exact h1
     ·exact h1
theorem upTo_facts (d:Array Int) (hs:∀ i j,i≤j→j<d.size→d[i]!≤d[j]!):∀ m,m≤d.size→(Lib.compactUpTo d m).Pairwise (· < ·)∧∀ x,x∈Lib.compactUpTo d m↔∃ j,j<m∧d[j]! =x
 | 0,_=>⟨List.Pairwise.nil,fun x=>⟨fun h=>by simp [Lib.compactUpTo] at h,fun ⟨j,hj,_⟩=>absurd hj (Nat.not_lt_zero _)⟩⟩
 | m+1,hm=>by
  obtain ⟨h1,h2⟩:=upTo_facts d hs m (by omega);rw [Lib.compactUpTo_succ];by_cases hk:Lib.keeps d m=true
  ·rw [if_pos hk];refine ⟨List.pairwise_append.2 ⟨h1,List.pairwise_singleton _ _,fun x hx y hy=>?_⟩,fun x=>?_⟩
   ·rw [List.mem_singleton] at hy;subst hy;obtain ⟨j,hj,rfl⟩:=(h2 x).1 hx;simp only [Lib.keeps,decide_eq_true_eq] at hk;have a1:=hs j (m - 1) (by omega) (by omega);have a2:=hs (m - 1) m (by omega) (by omega);have a3:d[m]!≠d[m - 1]!:=by rcases hk with hk|hk; omega; exact hk
    omega
   ·rw [List.mem_append,List.mem_singleton,h2];constructor
    ·rintro (⟨j,hj,e⟩|e)
     ·exact ⟨j,by omega,e⟩
     ·exact ⟨m,by omega,e.symm⟩
    ·rintro ⟨j,hj,e⟩;by_cases ej:j=m
     ·subst ej; exact .inr e.symm
     ·exact .inl ⟨j,by omega,e⟩
  ·rw [if_neg hk,List.append_nil];refine ⟨h1,fun x=>?_⟩;rw [h2];constructor
   ·rintro ⟨j,hj,e⟩; exact ⟨j,by omega,e⟩
   ·rintro ⟨j,hj,e⟩;by_cases ej:j=m
    ·subst ej;simp only [Lib.keeps,decide_eq_true_eq,not_or,Decidable.not_not] at hk;exact ⟨j - 1,by omega,by rw [←hk.2]; exact e⟩
    ·exact ⟨j,by omega,e⟩
def sortI (l:List Int):List Int:=l.mergeSort fun x y=>decide (x≤y)
theorem sortI_perm (l:List Int):(sortI l).Perm l:=List.mergeSort_perm l _
theorem sortI_sorted (l:List Int):(sortI l).Pairwise (· ≤ ·):=by
 have:=List.pairwise_mergeSort (le:=fun x y:Int=>decide (x≤y)) (fun a b c h1 h2=>by simp only [decide_eq_true_eq] at *; omega) (fun a b=>by simp only [Bool.or_eq_true,decide_eq_true_eq]; omega) l
 exact this.imp fun h=>by simpa using h
theorem sortI_arr (l:List Int) (i j:Nat) (hij:i≤j) (hj:j<(sortI l).toArray.size):(sortI l).toArray[i]!≤(sortI l).toArray[j]!:=by
 simp only [List.size_toArray] at hj;rw [getElem!_pos _ i (by simp; omega),getElem!_pos _ j (by simpa using hj)];by_cases e:i=j
 ·subst e; omega
 ·exact List.pairwise_iff_getElem.1 (sortI_sorted l) i j (by omega) hj (by omega)
def imagesI (l:List Int):List Int:=Lib.compact (sortI l)
theorem imagesI_sorted (l:List Int):(imagesI l).Pairwise (· < ·):=(upTo_facts (sortI l).toArray (sortI_arr l) (sortI l).length (by simp)).1
theorem imagesN_len (l:List Int):imagesN l=(imagesI l).length:=rfl
theorem imagesN_iff (l:List Int):imagesN l=l.length↔l.Nodup:=by
 have hl:(sortI l).length=l.length:=(sortI_perm l).length_eq
 rw [imagesN_len,←(sortI_perm l).nodup_iff,←hl];constructor
 ·intro h;have h2:∀ j,j<(sortI l).length→Lib.keeps (sortI l).toArray j=true:=by
   unfold imagesI Lib.compact Lib.compactUpTo at h;rw [List.length_map] at h;have h3:(List.range (sortI l).length).filter (Lib.keeps (sortI l).toArray)=List.range (sortI l).length:=List.filter_sublist.eq_of_length (by rw [h,List.length_range])
   intro j hj;exact (List.filter_eq_self.1 h3) j (List.mem_range.2 hj)
  have h4:imagesI l=sortI l:=Lib.compact_all _ h2
  have h5:=imagesI_sorted l;rw [h4] at h5;exact h5.imp fun h=>by omega
 ·intro h;have h4:imagesI l=sortI l:=Lib.compact_all _ fun j hj=>by
   by_cases e:j=0
   ·simp [Lib.keeps,e]
   ·apply Lib.keeps_pos;rw [getElem!_pos _ j (by simpa using hj),getElem!_pos _ (j - 1) (by simp; omega)];intro e2;exact List.pairwise_iff_getElem.1 h (j - 1) j (by omega) hj (by omega) e2.symm
  rw [h4]
theorem distK_nodup (l:List Int):distK l l.length=true↔l.Nodup:=by
 simp only [distK,List.all_eq_true,List.mem_range,decide_eq_true_eq];rw [List.Nodup,List.pairwise_iff_getElem];constructor
 ·intro h i j hi hj hij e;apply h j hj i hij;rw [List.getD_eq_getElem?_getD,List.getD_eq_getElem?_getD,List.getElem?_eq_getElem hj,List.getElem?_eq_getElem hi];exact e.symm
 ·intro h j hj k hkj e;rw [List.getD_eq_getElem?_getD,List.getD_eq_getElem?_getD,List.getElem?_eq_getElem hj,List.getElem?_eq_getElem (show k<l.length by omega)] at e;exact h k j (by omega) hj hkj e.symm
theorem images_dist (l:List Int):decide (imagesN l=l.length)=distK l l.length:=by
 rw [Bool.eq_iff_iff,decide_eq_true_eq,imagesN_iff,distK_nodup]
theorem images_beq (l:List Int):((imagesN l:Int)==(l.length:Int))=distK l l.length:=by
 rw [←images_dist,beqD];simp;omega
theorem injective56_c (a b:Gr) (m:Mo) (ha:a.Fit) (hb:b.Fit) (hm:m.Fit) (tok:Tks) (nt:Nat):DCall Tryz.prog 125 [a.av,b.av,m.av] tok nt (B (injM a b m)) tok nt:=by
 intro box nb;have i1:=images_beq m.nodes;have i2:=images_beq m.edges;refine sI Tryz.func125 Tryz.ntmps125 fun hbox htok=>?_
 refine sR ?_;simp;refine sR ?_;simp;refine Stop.of_d (valid51_c a b m ha hb _ _) ?_;simp;by_cases h1:validM a b m=0
 ·simp [h1];refine Stop.of_d (images88_c m.nodes hm.n _ _) ?_;simp [h1];simp only [i1];by_cases h2:distK m.nodes m.nodes.length=true
  ·simp [h2];refine Stop.of_d (images88_c m.edges hm.e _ _) ?_;simp [h1,h2,i2];refine sT (sH hbox htok ?_);simp [packA,injM,h1,h2]
  ·have h3:distK m.nodes m.nodes.length=false:=by simpa using h2
   simp only [h3];simp;refine sT (sH hbox htok ?_);simp [packA,injM,h1,h3]
 ·have hb1:(validM a b m==0)=false:=by simp [h1]
  simp only [hb1];try simp
  refine sT (sH hbox htok ?_);simp [packA,injM,h1]
def placesK (l h:List Int) (i:Nat):List Int:=(l.take i).map (indexI h)
@[simp] theorem placesK_len (l h:List Int) (i:Nat):(placesK l h i).length=min i l.length:=by simp [placesK]
def byK (l by':List Int) (i:Nat):List Int:=(l.take i).map fun x=>by'.getD x.toNat 0
@[simp] theorem byK_len (l h:List Int) (i:Nat):(byK l h i).length=min i l.length:=by simp [byK]
theorem firstE_all {f:Nat→Int}:∀ n,firstE f n=0→∀ i,i<n→f i=0
 | 0,_,i,hi=>absurd hi (Nat.not_lt_zero _)
 | n+1,h,i,hi=>by
  simp only [firstE] at h;split at h
  ·rename_i h0;by_cases e:i=n
   ·subst e; exact h
   ·exact firstE_all n h0 i (by omega)
  ·contradiction
structure VM (a b:Gr) (m:Mo):Prop where
 va:validG a=0
 vb:validG b=0
 ln:m.nodes.length=a.nodes.length
 le:m.edges.length=a.edges.length
 n:∀ x∈m.nodes,0≤x∧x<b.nodes.length
 e:∀ x∈m.edges,0≤x∧x<b.edges.length
 nt:∀ i,i<a.nodes.length→b.nodes.getD (m.nodes.getD i 0).toNat 0=a.nodes.getD i 0
 et:∀ i,i<a.edges.length→b.edges.getD (m.edges.getD i 0).toNat default=⟨(a.edges.getD i default).ty,m.nodes.getD (a.edges.getD i default).fr.toNat 0,m.nodes.getD (a.edges.getD i default).to.toNat 0⟩
theorem validM_VM {a b:Gr} {m:Mo} (h:validM a b m=0):VM a b m:=by
 unfold validM at h;split at h
 ·omega
 ·rename_i h1;split at h
  ·omega
  ·rename_i h2;split at h
   ·cases h
   ·rename_i h3;have hl1:m.nodes.length=a.nodes.length:=by omega
    have hl2:m.edges.length=a.edges.length:=by omega
    split at h
    ·contradiction
    ·rename_i h4;have h4':firstE (nodeE a b m) a.nodes.length=0:=Decidable.not_not.1 h4
     have n1:=firstE_all _ h4';have n2:=firstE_all _ h;refine ⟨by omega,by omega,hl1,hl2,fun x hx=>?_,fun x hx=>?_,fun i hi=>?_,fun i hi=>?_⟩
     ·obtain ⟨i,hi,rfl⟩:=List.getElem_of_mem hx;have:=n1 i (by omega)
      have e:m.nodes.getD i 0=m.nodes[i]:=by simp [hi]
      unfold nodeE at this;rw [e] at this;split at this
      ·cases this
      ·omega
     ·obtain ⟨i,hi,rfl⟩:=List.getElem_of_mem hx;have:=n2 i (by omega)
      have e:m.edges.getD i 0=m.edges[i]:=by simp [hi]
      unfold edgeE at this;rw [e] at this;split at this
      ·cases this
      ·omega
     ·have:=n1 i hi
      unfold nodeE at this;split at this
      ·cases this
      ·split at this
       ·assumption
       ·cases this
     ·have:=n2 i hi
      unfold edgeE at this;split at this
      ·cases this
      ·simp only at this;split at this
       ·cases this
       ·rename_i t1;split at this
        ·cases this
        ·rename_i t2;have t1':=Decidable.not_not.1 t1
         simp only [ne_eq,not_or,Decidable.not_not] at t2;rw [t1',t2.1,t2.2]
theorem getD_inj {h:List Int} (hn:h.Nodup) {i j:Nat} (hi:i<h.length) (hj:j<h.length) (e:h.getD i 0=h.getD j 0):i=j:=by
 rw [List.getD_eq_getElem?_getD,List.getD_eq_getElem?_getD,List.getElem?_eq_getElem hi,List.getElem?_eq_getElem hj] at e;rcases Nat.lt_trichotomy i j with h1|h1|h1
 ·exact absurd e (List.pairwise_iff_getElem.1 hn i j hi hj h1)
 ·exact h1
 ·exact absurd e.symm (List.pairwise_iff_getElem.1 hn j i hj hi h1)
def chN (ns:List Int) (bit:Nat→Bool):Nat→List Int × List Int
 | 0=>([],[])
 | i+1=>if bit i=true then ((chN ns bit i).1++[ns.getD i 0],(chN ns bit i).2++[(i:Int)]) else chN ns bit i
def atK (ns:List Int) (bit:Nat→Bool):Nat→List Int
 | 0=>[]
 | i+1=>if bit i=true then atK ns bit i++[((chN ns bit i).1.length:Int)] else atK ns bit i++[-1]
def atR (ns:List Int) (bit:Nat→Bool) (i:Nat):List Int:=atK ns bit i++List.replicate (ns.length - i) 0
theorem atK_len (ns:List Int) (bit:Nat→Bool):∀ i,(atK ns bit i).length=i
 | 0=>rfl
 | i+1=>by
  simp only [atK];split <;> simp [atK_len ns bit i]
@[simp] theorem atR_len (ns:List Int) (bit:Nat→Bool) {i:Nat} (h:i≤ns.length):(atR ns bit i).length=ns.length:=by simp [atR,atK_len]; omega
end Go.AM
namespace Go.Proofs.YtainalmfffjnjaaGreatDoorX.values
open Go Go.Proofs Go.RowKit Go.Shelf
attribute [local go_sem] Oper.semAt_some
def upto {α:Type} (f:Nat→α) (k:Nat):List α:=(List.range k).map f
theorem upto_length {α:Type} (f:Nat→α) (k:Nat):(upto f k).length=k:=by simp [upto]
theorem upto_all (zs:List Int):upto (fun j=>zs[j]?.getD 0) zs.length=zs:=by
 apply List.ext_getElem
 ·simp [upto]
 ·intro i h1 h2;simp [upto,h2]
theorem info3:(Tryz.prog.info? 3).map (fun i=>(i.zero,i.size,i.bytes))=some (some (.int .i64 0),1,8):=by kernel_rfl
end Go.Proofs.YtainalmfffjnjaaGreatDoorX.values
namespace Go.Proofs.YtainalmfffjnjaaGreatDoorX.values
open Go Go.Proofs Go.RowKit Go.Shelf Go.Sort
end Go.Proofs.YtainalmfffjnjaaGreatDoorX.values
namespace Go.AM
open Go Go.Proofs Go.RowKit
theorem rvd_owns {G:Gh} {w w':World} {m:AMem} (hm:RelM G m w) {v:Value} {xs:List Int} (h:w'.ownsRow w.heap.size 3 1 v xs.length (xs.map (Value.int .i64))):RVd w'.cell? G.ps (ints xs) v:=by
 rcases h.2 with ⟨rfl,h0⟩|⟨g,cap,cur,rfl,hb,hg,h1,h2,h3,h4⟩
 ·obtain rfl:xs=[]:=List.length_eq_zero_iff.1 h0;exact .sl (es:=[]) (fun _ _=>default) (Nat.le_refl _) (by decide) (by simp) (by simp) (by simp) (by simp)
 ·have hl:xs.length=(xs.map fun n=>[D.raw (.int .i64 n)]).length:=by simp
  have hat:∀ i,i<xs.length→cur[i]?=some (.int .i64 (xs.getD i 0)):=fun i hi=>by
   have e:(cur.toList.take (xs.length * 1))[i]?=(xs.map (Value.int .i64))[i]?:=by rw [h4]
   rw [List.getElem?_take,if_pos (by omega),Array.getElem?_toList,List.getElem?_map,List.getElem?_eq_getElem hi] at e;rw [e];simp [hi]
  unfold ints
  conv=>rhs; rw [hl]
  refine .sl (fun i _=>.int .i64 (xs.getD i 0)) (by simpa using h1) h2 (fun e he=>?_) (fun _=>⟨_,rfl⟩) (fun a ha i j hi hj=>?_) (fun i j hi hj=>?_)
  ·obtain ⟨y,_,rfl⟩:=List.mem_map.1 he;rfl
  ·cases ha;have hi':i<xs.length:=by simpa using hi
   have hj0:j=0:=by omega
   subst hj0;refine ⟨?_,?_⟩
   ·unfold Gh.ps;have hbl:(Addr.add ⟨g,0,none⟩ (i * 1+0)).block=g:=by unfold Addr.add; split <;> rfl
    rw [hbl,hm.fresh g hb];trivial
   ·have ha:Addr.add ⟨g,0,none⟩ (i * 1+0)=⟨g,i,none⟩:=by
     unfold Addr.add;split
     ·rename_i h0; congr 1; omega
     ·simp
    rw [ha];simp only [World.cell?,hg,Option.isSome_none,Bool.false_eq_true,if_false];exact hat i hi'
  ·simp only [List.length_map] at hi;simp only [List.getElem_map,List.length_cons,List.length_nil] at hj ⊢;have hj0:j=0:=by omega
   subst hj0;have e:xs.getD i 0=xs[i]:=by simp [hi]
   simp only [List.getElem_cons_zero,e];exact .raw rfl
end Go.AM
namespace Go.Proofs.YtainalmfffjnjaaGreatDoorX.sorted34
open Go Go.Proofs Go.RowKit Go.Shelf Go.Sort
end Go.Proofs.YtainalmfffjnjaaGreatDoorX.sorted34
namespace Go.AM
open Go Go.Proofs Go.RowKit
abbrev Ub (n:Int):AV:=.d (.raw (.int .u8 n))
abbrev Sb (s:ByteArray):AV:=.d (.raw (.string s))
def letB (c:Int):Bool:=decide (97≤c∧c≤122∨65≤c∧c≤90)
def digB (c:Int):Bool:=decide (48≤c∧c≤57)
def parB (c:Int):Bool:=letB c||digB c||c==95
def byteAt (s:ByteArray) (i:Nat):Int:=(s.data.toList.getD i 0).toNat
theorem letter_c (c:Int) (tok:Tks) (nt:Nat):DCall Tryz.prog 243 [Ub c] tok nt (B (letB c)) tok nt:=by
 intro box nb;by_cases h1:97≤c
 ·by_cases h2:c≤122
  ·refine sI Tryz.func243 Tryz.ntmps243 fun hbox htok=>?_
   repeat (first|simp [h1,h2]|refine sR ?_)
   refine sT (sH hbox htok ?_);simp [packA,letB,h1,h2]
  ·have h3:¬ c≤90:=by omega
   have h4:65≤c:=by omega
   refine sI Tryz.func243 Tryz.ntmps243 fun hbox htok=>?_
   repeat (first|simp [h1,h2,h3,h4]|refine sR ?_)
   refine sT (sH hbox htok ?_);simp [packA,letB,h1,h2,h3,h4]
 ·by_cases h3:65≤c
  ·by_cases h4:c≤90
   ·refine sI Tryz.func243 Tryz.ntmps243 fun hbox htok=>?_
    repeat (first|simp [h1,h3,h4]|refine sR ?_)
    refine sT (sH hbox htok ?_);simp [packA,letB,h1,h3,h4]
   ·refine sI Tryz.func243 Tryz.ntmps243 fun hbox htok=>?_
    repeat (first|simp [h1,h3,h4]|refine sR ?_)
    refine sT (sH hbox htok ?_);simp [packA,letB,h1,h3,h4]
  ·refine sI Tryz.func243 Tryz.ntmps243 fun hbox htok=>?_
   repeat (first|simp [h1,h3]|refine sR ?_)
   refine sT (sH hbox htok ?_);simp [packA,letB,h1,h3]
theorem digit_c (c:Int) (tok:Tks) (nt:Nat):DCall Tryz.prog 245 [Ub c] tok nt (B (digB c)) tok nt:=by
 intro box nb;by_cases h1:48≤c
 ·by_cases h2:c≤57
  ·refine sI Tryz.func245 Tryz.ntmps245 fun hbox htok=>?_
   repeat (first|simp [h1,h2]|refine sR ?_)
   refine sT (sH hbox htok ?_);simp [packA,digB,h1,h2]
  ·refine sI Tryz.func245 Tryz.ntmps245 fun hbox htok=>?_
   repeat (first|simp [h1,h2]|refine sR ?_)
   refine sT (sH hbox htok ?_);simp [packA,digB,h1,h2]
 ·refine sI Tryz.func245 Tryz.ntmps245 fun hbox htok=>?_
  repeat (first|simp [h1]|refine sR ?_)
  refine sT (sH hbox htok ?_);simp [packA,digB,h1]
theorem part_c1 (c:Int) (tok:Tks) (nt:Nat):DCall Tryz.prog 244 [Ub c] tok nt (B (parB c)) tok nt:=by
 intro box nb;have h1:=letter_c c;have h2:=digit_c c;cases e1:letB c
 ·cases e2:digB c
  ·rw [e1] at h1;rw [e2] at h2;refine sI Tryz.func244 Tryz.ntmps244 fun hbox htok=>?_
   repeat (first|simp|refine sR ?_)
   refine Stop.of_d (h1 _ _) ?_;repeat (first|simp|refine sR ?_)
   refine Stop.of_d (h2 _ _) ?_;repeat (first|simp|refine sR ?_)
   refine sT (sH hbox htok ?_);simp [packA,parB,e1,e2]
  ·rw [e1] at h1;rw [e2] at h2;refine sI Tryz.func244 Tryz.ntmps244 fun hbox htok=>?_
   repeat (first|simp|refine sR ?_)
   refine Stop.of_d (h1 _ _) ?_;repeat (first|simp|refine sR ?_)
   refine Stop.of_d (h2 _ _) ?_;repeat (first|simp|refine sR ?_)
   refine sT (sH hbox htok ?_);simp [packA,parB,e1,e2]
 ·rw [e1] at h1;refine sI Tryz.func244 Tryz.ntmps244 fun hbox htok=>?_
  repeat (first|simp|refine sR ?_)
  refine Stop.of_d (h1 _ _) ?_;repeat (first|simp|refine sR ?_)
  refine sT (sH hbox htok ?_);simp [packA,parB,e1]
def runN (p:Int→Bool) (s:ByteArray) (at':Nat):Nat:=((s.data.toList.drop at').takeWhile fun b=>p (b.toNat:Int)).length
theorem takeW_len {α:Type} (q:α→Bool) (d:α):∀ (l:List α) (i:Nat),i≤l.length→(∀ j,j<i→q (l.getD j d)=true)→(i=l.length∨q (l.getD i d)=false)→(l.takeWhile q).length=i
 | [],i,hi,_,_=>by simp at hi; subst hi; rfl
 | x::l,0,_,_,h=>by
  have h2:q x=false:=by simpa using h
  simp [List.takeWhile_cons,h2]
 | x::l,i+1,hi,h1,h2=>by
  have hx:q x=true:=by simpa using h1 0 (by omega)
  have ih:=takeW_len q d l i (by simpa using hi) (fun j hj=>by simpa using h1 (j+1) (by omega)) (by simpa using h2);simp [List.takeWhile_cons,hx,ih]
theorem size_toList (s:ByteArray):s.data.toList.length=s.size:=by rw [Array.length_toList]; rfl
theorem byteAt_lt {s:ByteArray} {i:Nat} (h:i<s.size):(s.data[i].toNat:Int)=byteAt s i:=by
 have h2:i<s.data.toList.length:=by rw [size_toList]; exact h
 rw [byteAt,List.getD_eq_getElem?_getD,List.getElem?_eq_getElem h2,Option.getD_some,Array.getElem_toList]
theorem runN_eq {p:Int→Bool} {s:ByteArray} {a i:Nat} (hi:a+i≤s.size) (h1:∀ j,j<i→p (byteAt s (a+j))=true) (h2:a+i=s.size∨p (byteAt s (a+i))=false):runN p s a=i:=by
 have hl:=size_toList s;have g:∀ j,(s.data.toList.drop a).getD j 0=s.data.toList.getD (a+j) 0:=fun j=>by simp [List.getD_eq_getElem?_getD,List.getElem?_drop]
 refine takeW_len _ 0 _ i (by rw [List.length_drop]; omega) (fun j hj=>?_) ?_
 ·rw [g]; exact h1 j hj
 ·rcases h2 with h2|h2
  ·left; rw [List.length_drop]; omega
  ·right; rw [g]; exact h2
def stRu (s:ByteArray) (f:FuncId) (nb:Nat) (box:Bxs) (tok:Tks) (nt:Nat) (i:Nat):AState:=⟨tl [(0,Sb s),(1,.fn (.func f) []),(5,I i)],lb nb box [],tok,nt⟩
theorem run_c (s:ByteArray) (f:FuncId) (p:Int→Bool) (hs:s.size≤200000000000000) (tok:Tks) (nt:Nat) (hf:∀ c,DCall Tryz.prog f [Ub c] tok nt (B (p c)) tok nt):DCall Tryz.prog 182 [Sb s,.fn (.func f) []] tok nt (I (runN p s 0)) tok nt:=by
 intro box nb;refine sI Tryz.func182 Tryz.ntmps182 fun hbox htok=>?_
 repeat (first|simp|refine sR ?_)
 refine sN ?_;have hc:∀ c∈([]:List AV),OkIn (fun k=>box k≠none) (fun _=>True) c:=by simp
 refine AL.loopT (stRu s f nb box tok nt) (fun i=>i≤s.size∧∀ j,j<i→p (byteAt s j)=true) (fun i=>s.size - i) 0 ⟨Nat.zero_le _,by omega⟩ (Weaks.mk (Nat.le_refl _) rfl (by simp [ToL,lk]; exact .same (okFn hc hbox [] (by simp) rfl _)) trivial) ?_;rintro i S' ⟨hi,hok⟩ hS;simp only [stRu] at hS;subst hS;have hw:=sW (i:=i) (by omega);by_cases hlt:i<s.size
 ·have hbb:=byteAt_lt hlt;have hr:=runN_eq (p:=p) (s:=s) (a:=0) (i:=i) (by omega) (fun j hj=>by rw [Nat.zero_add]; exact hok j hj);rw [Nat.zero_add,←hbb] at hr;have hok2:p (s.data[i].toNat)=true→∀ j,j<i+1→p (byteAt s j)=true:=fun h j hj=>by
   by_cases e:j=i
   ·rw [e,←hbb]; exact h
   ·exact hok j (by omega)
  repeat (first|simp [hlt]|refine sR ?_)
  refine Stop.of_d (hf _) ?_;repeat (first|simp|refine sR ?_)
  generalize (s.data[i].toNat:Int)=c at *;cases e:p c
  ·have hr:=hr (.inr e);refine sC ?_;simp;refine sX ?_;simp only [AU, ↓reduceIte];repeat (first|simp|refine sR ?_)
   refine sT (sH hbox htok ?_);simp [packA,hr]
  ·refine sC ?_;simp;repeat (first|simp [hw]|refine sR ?_)
   refine sE ?_;exact ⟨i+1,⟨hlt,hok2 e⟩,by omega,Weaks.mk (Nat.le_refl _) rfl (by simp [ToL,lk]; exact .same (okFn hc hbox [] (by simp) rfl _)) trivial⟩
 ·have hie:i=s.size:=by omega
  have hr:=runN_eq (p:=p) (s:=s) (a:=0) (i:=i) (by omega) (fun j hj=>by rw [Nat.zero_add]; exact hok j hj) (.inl (by omega));repeat (first|simp [hlt]|refine sR ?_|refine sC ?_)
  refine sX ?_;simp only [AU, ↓reduceIte];repeat (first|simp|refine sR ?_)
  refine sT (sH hbox htok ?_);simp [packA,hr]
end Go.AM
namespace Go.Proofs
open Go.Shelf
def Tryz.lays137_ren:Go.Shelf.Ren:=⟨fun|137=>248|217=>290|266=>310|n=>n,fun|9=>9|5=>5|3=>3|n=>n,fun|n=>n⟩
theorem Tryz.lays137:Go.Proofs.Lays.n137 Tryz.prog Tryz.lays137_ren:={
 mixed:=by kernel_rfl
 f137:=Tryz.func248.trans (congrArg some (by kernel_rfl))
 f217:=Tryz.func290.trans (congrArg some (by kernel_rfl))
 f266:=Tryz.func310.trans (congrArg some (by kernel_rfl))
 t3:=Tryz.underlying3
 a3:=Tryz.isAgg3
 z3:=Tryz.sizeOf3
 v3:=Tryz.zeroValue3
 t5:=Tryz.underlying5
 a5:=Tryz.isAgg5
 z5:=Tryz.sizeOf5
 v5:=Tryz.zeroValue5
 t9:=Tryz.underlying9
 a9:=Tryz.isAgg9
 z9:=Tryz.sizeOf9
 v9:=Tryz.zeroValue9 }
open Go.RowKit in
theorem Tryz.strings_IndexByte (s:ByteArray) (c:Int) (w:World) :
  Calls Tryz.prog 248 #[.string s,.int .u8 c] w fun e w'=>e=.returned (.int .i64 (Lib.indexByte s.data.toList c.toNat.toUInt8))∧w'=w:=Any.strings_IndexByte Tryz.lays137 s c w
def Tryz.lays112_ren:Go.Shelf.Ren:=⟨fun|112=>277|n=>n,fun|28=>26|3=>3|4=>4|0=>0|n=>n,fun|n=>n⟩
theorem Tryz.lays112:Go.Proofs.Lays.n112 Tryz.prog Tryz.lays112_ren:={
 mixed:=by kernel_rfl
 f112:=Tryz.func277.trans (congrArg some (by kernel_rfl))
 t0:=Tryz.underlying0
 a0:=Tryz.isAgg0
 z0:=Tryz.sizeOf0
 v0:=Tryz.zeroValue0
 t3:=Tryz.underlying3
 a3:=Tryz.isAgg3
 z3:=Tryz.sizeOf3
 v3:=Tryz.zeroValue3
 t4:=Tryz.underlying4
 a4:=Tryz.isAgg4
 z4:=Tryz.sizeOf4
 v4:=Tryz.zeroValue4
 t28:=Tryz.underlying26
 a28:=Tryz.isAgg26
 z28:=Tryz.sizeOf26
 v28:=Tryz.zeroValue26 }
open Go.RowKit Go.Lib Go.Sort in
theorem Tryz.slices_Reverse_int (blk off cap:Nat) (zs:List Int) (w:World) (hH:Holds (Value.int .i64) w blk off zs.toArray) (hsz:zs.length≤9223372036854775807) :
  Calls Tryz.prog 277 #[.slice (some ⟨blk,off,none⟩) zs.length cap] w fun e w'=>e=.returned (.tuple #[])∧∃ n,w'=putRow (Value.int .i64) (Sort.ahead w n) blk off zs.reverse.toArray:=Any.slices_Reverse_int Tryz.lays112 blk off cap zs w hH hsz
open Go.RowKit Go.Lib Go.Sort in
theorem Tryz.slices_Reverse_int_empty (a:Option Addr) (cap:Nat) (w:World) :
  Calls Tryz.prog 277 #[.slice a 0 cap] w fun e w'=>e=.returned (.tuple #[])∧w'=w:=Any.slices_Reverse_int_empty Tryz.lays112 a cap w
end Go.Proofs
namespace Go.AM
open Go Go.Proofs Go.Shelf
theorem seq_iff {a b:ByteArray}:a.toList=b.toList↔a=b:=⟨fun h=>by rw [ByteArray.toList_eq,ByteArray.toList_eq] at h; exact Go.WideShapes.bytes_inj h,fun h=>by rw [h]⟩
theorem seq_dec (a b:ByteArray):(a.toList==b.toList)=decide (a=b):=by rw [Bool.eq_iff_iff,beq_iff_eq,decide_eq_true_eq,seq_iff]
abbrev strs (l:List ByteArray):D:=.sl 1 (l.map fun s=>[.raw (.string s)])
def memS (xs:List ByteArray) (v:ByteArray):Bool:=xs.any fun x=>decide (v=x)
theorem memS_iff {xs:List ByteArray} {v:ByteArray}:memS xs v=true↔v∈xs:=by simp [memS]
def indexB (xs:List ByteArray) (v:ByteArray):Int:=if memS xs v=true then (xs.findIdx (fun x=>decide (v=x)):Int) else -1
theorem indexB_nonneg (xs:List ByteArray) (v:ByteArray):(0≤indexB xs v)↔memS xs v=true:=by
 unfold indexB;split <;> simp [*]
def stIs (xs:List ByteArray) (v:ByteArray) (nb:Nat) (box:Bxs) (tok:Tks) (nt:Nat) (i:Nat):AState:=⟨tl [(0,.d (strs xs)),(1,Sb v),(7,I xs.length),(8,I i)],lb nb box [],tok,nt⟩
theorem strs_at {l:List ByteArray} {i:Nat} (h:i<l.length):(l.map fun s=>[D.raw (.string s)])[i]?=some [D.raw (.string l[i])]:=by simp [h]
theorem indexS_c (xs:List ByteArray) (v:ByteArray) (hx:xs.length≤1000000) (tok:Tks) (nt:Nat):DCall Tryz.prog 230 [.d (strs xs),Sb v] tok nt (I (indexB xs v)) tok nt:=by
 intro box nb;refine sI Tryz.func230 Tryz.ntmps230 fun hbox htok=>?_
 repeat (first|simp|refine sR ?_)
 refine sN ?_;refine AL.loopT (stIs xs v nb box tok nt) (fun i=>i≤xs.length∧v∉xs.take i) (fun i=>xs.length - i) 0 ⟨Nat.zero_le _,by simp⟩ (Weaks.mk (Nat.le_refl _) rfl (by simp [ToL,lk]) trivial) ?_;rintro i S' ⟨hi,htk⟩ hS;simp only [stIs] at hS;subst hS;have hw:=sW (i:=i) (by omega);repeat (first|simp|refine sR ?_|refine sC ?_)
 refine ⟨fun hlt=>?_,fun hge=>?_⟩
 ·have hsp:xs=xs.take i++xs[i]::xs.drop (i+1):=by simp
  by_cases he:v=xs[i]
  ·have b:(v.toList==xs[i].toList)=true:=by rw [seq_dec]; simpa using he
   have hmem:memS xs v=true:=memS_iff.2 (by rw [he]; exact List.getElem_mem _)
   have hid:xs.findIdx (fun x=>decide (v=x))=i:=by
    rw [List.findIdx_eq hlt];refine ⟨by simpa using he,fun j hj=>?_⟩;have:¬ v=xs[j]:=fun e=>htk (by rw [e,List.mem_take_iff_getElem]; exact ⟨j,by omega,rfl⟩)
    simpa using this
   repeat (first|simp [hlt,b]|refine sR ?_)
   refine sC ?_;repeat (first|simp|refine sR ?_)
   refine sT (sH hbox htok ?_);simp [packA,indexB,hmem,hid]
  ·have b:(v.toList==xs[i].toList)=false:=by rw [seq_dec]; simpa using he
   repeat (first|simp [hlt,b]|refine sR ?_)
   refine sC ?_;simp;repeat (first|simp [hw]|refine sR ?_)
   refine sE ?_;refine ⟨i+1,⟨hlt,?_⟩,by omega,Weaks.mk (Nat.le_refl _) rfl (by simp [ToL,lk]) trivial⟩;rw [List.take_succ_eq_append_getElem hlt];simp only [List.mem_append,List.mem_singleton,not_or];exact ⟨htk,he⟩
 ·refine sX ?_;simp only [AU, ↓reduceIte];repeat (first|simp|refine sR ?_)
  have hn:memS xs v=false:=by
   rw [List.take_of_length_le hge] at htk;rw [←Bool.not_eq_true,memS_iff]; exact htk
  refine sT (sH hbox htok ?_);simp [packA,indexB,hn]
theorem containsS_c (xs:List ByteArray) (v:ByteArray) (hx:xs.length≤1000000) (tok:Tks) (nt:Nat):DCall Tryz.prog 155 [.d (strs xs),Sb v] tok nt (B (memS xs v)) tok nt:=by
 intro box nb;refine sI Tryz.func155 Tryz.ntmps155 fun hbox htok=>?_
 repeat (first|simp|refine sR ?_)
 refine Stop.of_d (indexS_c xs v hx _ _) ?_;repeat (first|simp|refine sR ?_)
 refine sT (sH hbox htok ?_);simp [packA,indexB_nonneg]
theorem indexByte_c (s:ByteArray) (c:Int) (tok:Tks) (nt:Nat):DCall Tryz.prog 248 [Sb s,Ub c] tok nt (I (Lib.indexByte s.data.toList c.toNat.toUInt8)) tok nt:=by
 intro box nb;refine ⟨Enters.mk Tryz.func248 rfl (by kernel_rfl),fun G w vals hm hr=>?_⟩;obtain ⟨hlen,hrv⟩:=hr
 match vals,hlen with
 | [v,u],_ =>
  have h0:=hrv 0 (by simp) (by simp);have h1:=hrv 1 (by simp) (by simp);simp only [List.getElem_cons_zero,List.getElem_cons_succ] at h0 h1;cases h0 with
  | d h0 =>
  cases h0 with
  | raw h0 =>
  cases h1 with
  | d h1 =>
  cases h1 with
  | raw h1 =>
   refine (Tryz.strings_IndexByte s c w).mono ?_;rintro e w' ⟨rfl,rfl⟩;exact ⟨_,_,_,G,rfl,⟨rfl,rfl⟩,rfl,hm,.d (.raw rfl),Le.refl _ _,fun k hk=>⟨hk,rfl⟩⟩
def quoB (c:Int):Bool:=decide (32≤c∧c≤126)&&c != 34
theorem quoted1_c (c:Int) (tok:Tks) (nt:Nat):DCall Tryz.prog 289 [Ub c] tok nt (B (quoB c)) tok nt:=by
 intro box nb;by_cases h1:32≤c
 ·by_cases h2:c≤126
  ·refine sI Tryz.func289 Tryz.ntmps289 fun hbox htok=>?_
   repeat (first|simp [h1,h2]|refine sR ?_)
   refine sT (sH hbox htok ?_);simp [packA,quoB,h1,h2]
  ·refine sI Tryz.func289 Tryz.ntmps289 fun hbox htok=>?_
   repeat (first|simp [h1,h2]|refine sR ?_)
   refine sT (sH hbox htok ?_);simp [packA,quoB,h1,h2]
 ·refine sI Tryz.func289 Tryz.ntmps289 fun hbox htok=>?_
  repeat (first|simp [h1]|refine sR ?_)
  refine sT (sH hbox htok ?_);simp [packA,quoB,h1]
theorem runN_le (p:Int→Bool) (s:ByteArray) (a:Nat):runN p s a≤s.size - a:=by
 have h:=(List.takeWhile_sublist (l:=s.data.toList.drop a) fun b=>p (b.toNat:Int)).length_le;rw [List.length_drop,size_toList] at h;exact h
theorem ext1_size {s:ByteArray}:(s.extract 1 s.size).size=s.size - 1:=by simp [ByteArray.size_extract]
def quoR (s:ByteArray):Int × Int :=
 if 1+runN quoB (s.extract 1 s.size) 0=s.size then (0,2) else if byteAt s (1+runN quoB (s.extract 1 s.size) 0)≠34 then (0,2)
 else if 60<runN quoB (s.extract 1 s.size) 0 then (0,3) else ((runN quoB (s.extract 1 s.size) 0:Int)+2,0)
theorem quoted_c (s:ByteArray) (h1:1≤s.size) (hs:s.size≤200000000000000) (tok:Tks) (nt:Nat):DCall Tryz.prog 246 [Sb s] tok nt (.tup [I (quoR s).1,I (quoR s).2]) tok nt:=by
 intro box nb;have hr:=run_c (s.extract 1 s.size) 289 quoB (by rw [ext1_size]; omega) tok nt fun c=>quoted1_c c tok nt
 have hle:=runN_le quoB (s.extract 1 s.size) 0;rw [ext1_size] at hle;have hq:quoR s=if 1+runN quoB (s.extract 1 s.size) 0=s.size then (0,2) else if byteAt s (1+runN quoB (s.extract 1 s.size) 0)≠34 then (0,2) else if 60<runN quoB (s.extract 1 s.size) 0 then (0,3) else ((runN quoB (s.extract 1 s.size) 0:Int)+2,0):=rfl
 generalize runN quoB (s.extract 1 s.size) 0=n at *;have h1':(1:Int)≤s.size:=by omega
 have w1:IntKind.i64.wrap (1+(n:Int))=((1+n:Nat):Int):=by rw [wrap_in (by omega) (by omega)]; omega
 have w2:IntKind.i64.wrap ((n:Int)+2)=(n:Int)+2:=wrap_in (by omega) (by omega)
 refine sI Tryz.func246 Tryz.ntmps246 fun hbox htok=>?_
 repeat (first|simp [h1,h1']|refine sR ?_)
 refine Stop.of_d (hr) ?_;simp;by_cases e1:1+n=s.size
 ·have b1:((1:Int)+n==s.size)=true:=by rw [beq_iff_eq]; omega
  rw [if_pos e1] at hq;rw [hq];repeat (first|simp [w1,b1]|refine sR ?_)
  refine sC ?_;repeat (first|simp|refine sR ?_)
  refine sT (sH hbox htok ?_);simp [packA]
 ·have b1:((1:Int)+n==s.size)=false:=by rw [beq_eq_false_iff_ne]; omega
  have hlt:1+n<s.size:=by omega
  have hb:=byteAt_lt hlt;have l1:(0:Int)≤1+n:=by omega
  have l2:(1:Int)+n<s.size:=by omega
  have t1:((1:Int)+n).toNat=1+n:=by omega
  rw [if_neg e1] at hq;repeat (first|simp [w1,b1,l1,l2,t1,hlt]|refine sR ?_)
  rw [hb];by_cases e2:byteAt s (1+n)=34
  ·have b2:(byteAt s (1+n) != 34)=false:=by simp [e2]
   rw [if_neg (by simp [e2])] at hq;simp only [b2];refine sC ?_;simp;repeat (first|simp [w2]|refine sR ?_)
   by_cases e3:60<n
   ·have e4:(60:Int)<n:=by omega
    rw [if_pos e3] at hq;rw [hq];refine sC ?_;simp [e4];repeat (first|simp|refine sR ?_)
    refine sT (sH hbox htok ?_);simp [packA]
   ·have e4:¬ (60:Int)<n:=by omega
    rw [if_neg e3] at hq;rw [hq];refine sC ?_;simp [e4];repeat (first|simp [w2]|refine sR ?_)
    refine sT (sH hbox htok ?_);simp [packA]
  ·have b2:(byteAt s (1+n) != 34)=true:=by simp [e2]
   rw [if_pos e2] at hq;rw [hq];simp only [b2];refine sC ?_;repeat (first|simp|refine sR ?_)
   refine sT (sH hbox htok ?_);simp [packA]
def pairL:List ByteArray:=[⟨#[45,62]⟩,⟨#[60,61]⟩,⟨#[62,61]⟩,⟨#[61,61]⟩,⟨#[33,61]⟩]
def pairB (s:ByteArray):Bool:=decide (2≤s.size)&&memS pairL (s.extract 0 2)
theorem pair_c (s:ByteArray) (hs:s.size≤200000000000000) (tok:Tks) (nt:Nat):DCall Tryz.prog 247 [Sb s] tok nt (B (pairB s)) tok nt:=by
 intro box nb;by_cases h2:2≤s.size
 ·have h2':(2:Int)≤s.size:=by omega
  refine sI Tryz.func247 Tryz.ntmps247 fun hbox htok=>?_
  have hc:=containsS_c pairL (s.extract 0 2) (by decide);repeat (first|simp [h2,h2']|refine sR ?_)
  refine ⟨rfl,?_⟩;refine Stop.data ?_;refine Stop.of_d (hc _ _) ?_;repeat (first|simp|refine sR ?_)
  refine sT (sH hbox htok ?_);simp [packA,pairB,h2]
 ·have h2':¬ (2:Int)≤s.size:=by omega
  refine sI Tryz.func247 Tryz.ntmps247 fun hbox htok=>?_
  repeat (first|simp [h2,h2']|refine sR ?_)
  refine sT (sH hbox htok ?_);simp [packA,pairB,h2]
def nextR (s:ByteArray):Int × Int × Int :=
 if letB (byteAt s 0)=true then (if 20<runN parB s 0 then (0,0,3) else (1,runN parB s 0,0))
 else if digB (byteAt s 0)=true then (if 9<runN digB s 0 then (0,0,3) else (2,runN digB s 0,0))
 else if byteAt s 0=34 then (3,(quoR s).1,(quoR s).2) else if pairB s=true then (4,2,0)
 else if 0≤Lib.indexByte [123,125,40,41,91,93,44,59,58,61,43,45,42,60,62,33,38,124,46,63] (UInt8.ofNat (byteAt s 0).toNat) then (4,1,0) else (0,0,2)
theorem next_c (s:ByteArray) (h1:1≤s.size) (hs:s.size≤200000000000000) (tok:Tks) (nt:Nat):DCall Tryz.prog 184 [Sb s] tok nt (.tup [I (nextR s).1,I (nextR s).2.1,I (nextR s).2.2]) tok nt:=by
 intro box nb;have hl:=letter_c (byteAt s 0);have hd:=digit_c (byteAt s 0);have r1:=run_c s 244 parB hs tok nt fun c=>part_c1 c tok nt
 have r2:=run_c s 245 digB hs tok nt fun c=>digit_c c tok nt
 have hq:=quoted_c s h1 hs;have hp:=pair_c s hs;have hx:=fun q=>indexByte_c q (byteAt s 0)
 have h0:0<s.size:=h1
 have h0':(0:Int)<s.size:=by omega
 have hb:=byteAt_lt h0;obtain ⟨N,hN⟩:∃ N,nextR s=N:=⟨_,rfl⟩
 rw [hN];unfold nextR at hN;have n1:runN parB s 0≤s.size:=runN_le _ _ _
 have n2:runN digB s 0≤s.size:=runN_le _ _ _
 generalize runN parB s 0=a1 at *;generalize runN digB s 0=a2 at *;refine sI Tryz.func184 Tryz.ntmps184 fun hbox htok=>?_
 repeat (first|simp [h0,h0']|refine sR ?_)
 rw [hb];refine Stop.of_d (hl _ _) ?_;repeat (first|simp|refine sR ?_)
 cases e1:letB (byteAt s 0)
 ·rw [if_neg (by simp [e1])] at hN;refine sC ?_;repeat (first|simp|refine sR ?_)
  refine Stop.of_d (hd _ _) ?_;repeat (first|simp|refine sR ?_)
  cases e2:digB (byteAt s 0)
  ·rw [if_neg (by simp [e2])] at hN;refine sC ?_;repeat (first|simp|refine sR ?_)
   by_cases e3:byteAt s 0=34
   ·rw [if_pos e3] at hN;have b3:(byteAt s 0==34)=true:=by simp [e3]
    simp only [b3];refine sC ?_;repeat (first|simp|refine sR ?_)
    refine Stop.of_d (hq _ _) ?_;repeat (first|simp|refine sR ?_)
    refine sT (sH hbox htok ?_);simp [packA,←hN]
   ·rw [if_neg e3] at hN;have b3:(byteAt s 0==34)=false:=by simp [e3]
    simp only [b3];refine sC ?_;repeat (first|simp|refine sR ?_)
    refine Stop.of_d (hp _ _) ?_;repeat (first|simp|refine sR ?_)
    cases e4:pairB s
    ·rw [if_neg (by simp [e4])] at hN;refine sC ?_;repeat (first|simp|refine sR ?_)
     refine Stop.of_d (hx _ _ _) ?_;repeat (first|simp|refine sR ?_)
     by_cases e5:0≤Lib.indexByte [123,125,40,41,91,93,44,59,58,61,43,45,42,60,62,33,38,124,46,63] (UInt8.ofNat (byteAt s 0).toNat)
     ·rw [if_pos e5] at hN;refine sC ?_;simp [e5];repeat (first|simp|refine sR ?_)
      refine sT (sH hbox htok ?_);simp [packA,←hN]
     ·rw [if_neg e5] at hN;refine sC ?_;simp [e5];repeat (first|simp|refine sR ?_)
      refine sT (sH hbox htok ?_);simp [packA,←hN]
    ·rw [if_pos e4] at hN;refine sC ?_;repeat (first|simp|refine sR ?_)
     refine sT (sH hbox htok ?_);simp [packA,←hN]
  ·rw [if_pos e2] at hN;refine sC ?_;repeat (first|simp|refine sR ?_)
   refine Stop.of_d (r2) ?_;repeat (first|simp|refine sR ?_)
   by_cases e3:9<a2
   ·have e4:(9:Int)<a2:=by omega
    rw [if_pos e3] at hN;refine sC ?_;simp [e4];repeat (first|simp|refine sR ?_)
    refine sT (sH hbox htok ?_);simp [packA,←hN]
   ·have e4:¬ (9:Int)<a2:=by omega
    rw [if_neg e3] at hN;refine sC ?_;simp [e4];repeat (first|simp|refine sR ?_)
    refine sT (sH hbox htok ?_);simp [packA,←hN]
 ·rw [if_pos e1] at hN;refine sC ?_;repeat (first|simp|refine sR ?_)
  refine Stop.of_d (r1) ?_;repeat (first|simp|refine sR ?_)
  by_cases e3:20<a1
  ·have e4:(20:Int)<a1:=by omega
   rw [if_pos e3] at hN;refine sC ?_;simp [e4];repeat (first|simp|refine sR ?_)
   refine sT (sH hbox htok ?_);simp [packA,←hN]
  ·have e4:¬ (20:Int)<a1:=by omega
   rw [if_neg e3] at hN;refine sC ?_;simp [e4];repeat (first|simp|refine sR ?_)
   refine sT (sH hbox htok ?_);simp [packA,←hN]
def nameB (s:ByteArray):Bool:=decide (1≤s.size∧s.size≤20)&&letB (byteAt s 0)&&decide (runN parB s 0=s.size)
theorem nameB_next {s:ByteArray} (h1:1≤s.size):((decide ((nextR s).2.2=0)&&decide ((nextR s).1=1))&&decide ((nextR s).2.1=(s.size:Int)))=nameB s:=by
 unfold nameB nextR;by_cases e1:letB (byteAt s 0)=true
 ·rw [if_pos e1];by_cases e2:20<runN parB s 0
  ·rw [if_pos e2];have:¬ ((1≤s.size∧s.size≤20)∧runN parB s 0=s.size):=by omega
   rw [Bool.eq_iff_iff];simp [e1];omega
  ·rw [if_neg e2];rw [Bool.eq_iff_iff];simp [e1];omega
 ·rw [if_neg e1];have e1':letB (byteAt s 0)=false:=by simpa using e1
  rw [e1'];simp only [Bool.and_false,Bool.false_and];split
  ·split <;> simp
  ·split
   ·simp
   ·split
    ·simp
    ·split <;> simp
theorem empty_dec {s:ByteArray}:(s.toList==(⟨#[]⟩:ByteArray).toList)=decide (s.size=0):=by
 rw [seq_dec,Bool.eq_iff_iff,decide_eq_true_eq,decide_eq_true_eq];constructor
 ·rintro rfl; rfl
 ·intro h;obtain ⟨⟨l⟩⟩:=s;cases l with
  | nil=>rfl
  | cons x r=>simp [ByteArray.size] at h
theorem wholeN_c (s:ByteArray) (hs:s.size≤200000000000000) (tok:Tks) (nt:Nat):DCall Tryz.prog 200 [.agg [I 1,Sb s,I 0]] tok nt (.tup [Sb s,B (nameB s)]) tok nt:=by
 intro box nb;by_cases h0:s.size=0
 ·have b0:(s.toList==(⟨#[]⟩:ByteArray).toList)=true:=by rw [empty_dec]; simp [h0]
  have hse:s=⟨#[]⟩:=by rw [seq_dec] at b0; simpa using b0
  have hn:nameB s=false:=by simp [nameB,h0]
  rw [hn];refine sI Tryz.func200 Tryz.ntmps200 fun hbox htok=>?_
  repeat (first|simp|refine sR ?_)
  refine sC ?_
  repeat (first|simp|refine sR ?_)
  have b1:s.toList=[]:=by simpa using b0
  repeat (first|simp [b1]|refine sR ?_|refine sC ?_)
  refine sT (sH hbox htok ?_);simp [packA,hse]
 ·have b0:(s.toList==(⟨#[]⟩:ByteArray).toList)=false:=by rw [empty_dec]; simp [h0]
  have hx:=next_c s (by omega) hs;have hnb:=nameB_next (s:=s) (by omega);generalize nextR s=N at *;refine sI Tryz.func200 Tryz.ntmps200 fun hbox htok=>?_
  repeat (first|simp|refine sR ?_)
  refine sC ?_
  repeat (first|simp|refine sR ?_)
  have b1:¬ s.toList=[]:=by simpa using b0
  repeat (first|simp [b1]|refine sR ?_|refine sC ?_)
  refine Stop.of_d (hx _ _) ?_;simp;by_cases f1:N.2.2=0
  ·have g1:(N.2.2==0)=true:=by simp [f1]
   by_cases f2:N.1=1
   ·have g2:(N.1==1)=true:=by simp [f2]
    repeat (first|simp [g1,g2]|refine sR ?_)
    by_cases f3:N.2.1=(s.size:Int)
    ·have g3:(N.2.1==(s.size:Int))=true:=by simp [f3]
     rw [←hnb];refine sT (sH hbox htok ?_);simp [packA,f1,f2,f3,g3]
    ·have g3:(N.2.1==(s.size:Int))=false:=by simp [f3]
     rw [←hnb];refine sT (sH hbox htok ?_);simp [packA,f1,f2,f3,g3]
   ·have g2:(N.1==1)=false:=by simp [f2]
    rw [←hnb];repeat (first|simp [g1,g2]|refine sR ?_)
    refine sT (sH hbox htok ?_);simp [packA,f1,f2]
  ·have g1:(N.2.2==0)=false:=by simp [f1]
   rw [←hnb];repeat (first|simp [g1]|refine sR ?_)
   refine sT (sH hbox htok ?_);simp [packA,f1]
theorem isName_c (s:ByteArray) (hs:s.size≤200000000000000) (tok:Tks) (nt:Nat):DCall Tryz.prog 121 [Sb s] tok nt (B (nameB s)) tok nt:=by
 intro box nb;have h:=wholeN_c s hs;refine sI Tryz.func121 Tryz.ntmps121 fun hbox htok=>?_
 repeat (first|simp|refine sR ?_)
 refine Stop.of_d (h _ _) ?_;repeat (first|simp|refine sR ?_)
 refine sT (sH hbox htok ?_);simp [packA]
theorem letter01_c (c:Int) (tok:Tks) (nt:Nat):DCall Tryz.prog 250 [Ub c] tok nt (B (letB c)) tok nt:=by
 intro box nb;by_cases h1:97≤c
 ·by_cases h2:c≤122
  ·refine sI Tryz.func250 Tryz.ntmps250 fun hbox htok=>?_
   repeat (first|simp [h1,h2]|refine sR ?_)
   refine sT (sH hbox htok ?_);simp [packA,letB,h1,h2]
  ·have h3:¬ c≤90:=by omega
   have h4:65≤c:=by omega
   refine sI Tryz.func250 Tryz.ntmps250 fun hbox htok=>?_
   repeat (first|simp [h1,h2,h3,h4]|refine sR ?_)
   refine sT (sH hbox htok ?_);simp [packA,letB,h1,h2,h3,h4]
 ·by_cases h3:65≤c
  ·by_cases h4:c≤90
   ·refine sI Tryz.func250 Tryz.ntmps250 fun hbox htok=>?_
    repeat (first|simp [h1,h3,h4]|refine sR ?_)
    refine sT (sH hbox htok ?_);simp [packA,letB,h1,h3,h4]
   ·refine sI Tryz.func250 Tryz.ntmps250 fun hbox htok=>?_
    repeat (first|simp [h1,h3,h4]|refine sR ?_)
    refine sT (sH hbox htok ?_);simp [packA,letB,h1,h3,h4]
  ·refine sI Tryz.func250 Tryz.ntmps250 fun hbox htok=>?_
   repeat (first|simp [h1,h3]|refine sR ?_)
   refine sT (sH hbox htok ?_);simp [packA,letB,h1,h3]
theorem digit01_c (c:Int) (tok:Tks) (nt:Nat):DCall Tryz.prog 251 [Ub c] tok nt (B (digB c)) tok nt:=by
 intro box nb;by_cases h1:48≤c
 ·by_cases h2:c≤57
  ·refine sI Tryz.func251 Tryz.ntmps251 fun hbox htok=>?_
   repeat (first|simp [h1,h2]|refine sR ?_)
   refine sT (sH hbox htok ?_);simp [packA,digB,h1,h2]
  ·refine sI Tryz.func251 Tryz.ntmps251 fun hbox htok=>?_
   repeat (first|simp [h1,h2]|refine sR ?_)
   refine sT (sH hbox htok ?_);simp [packA,digB,h1,h2]
 ·refine sI Tryz.func251 Tryz.ntmps251 fun hbox htok=>?_
  repeat (first|simp [h1]|refine sR ?_)
  refine sT (sH hbox htok ?_);simp [packA,digB,h1]
def stR01 (s:ByteArray) (d:Bool) (nb:Nat) (box:Bxs) (tok:Tks) (nt:Nat) (i:Nat):AState:=⟨tl [(0,Sb s),(1,I 0),(2,B d),(7,I i)],lb nb box [],tok,nt⟩
def pd (d:Bool) (c:Int):Bool:=digB c||(!d&&(letB c||c==95))
theorem pd_false:pd false=parB:=by
 funext c
 simp only [pd,parB,Bool.not_false,Bool.true_and];cases letB c <;> cases digB c <;> simp
set_option maxRecDepth 100000 in
theorem run01_c (s:ByteArray) (d:Bool) (hs:s.size≤200000000000000) (tok:Tks) (nt:Nat):DCall Tryz.prog 252 [Sb s,I 0,B d] tok nt (I (runN (pd d) s 0)) tok nt:=by
 intro box nb;have hl:=letter01_c;have hd:=digit01_c;refine sI Tryz.func252 Tryz.ntmps252 fun hbox htok=>?_
 repeat (first|simp|refine sR ?_)
 refine sN ?_;refine AL.loopT (stR01 s d nb box tok nt) (fun i=>i≤s.size∧∀ j,j<i→pd d (byteAt s j)=true) (fun i=>s.size - i) 0 ⟨Nat.zero_le _,by omega⟩ (Weaks.mk (Nat.le_refl _) rfl (by simp [ToL,lk]) trivial) ?_;rintro i S' ⟨hi,hok⟩ hS;simp only [stR01] at hS;subst hS;have hw:=sW (i:=i) (by omega);have hwi:IntKind.i64.wrap (i:Int)=i:=wrap_in (by omega) (by omega)
 by_cases hlt:i<s.size
 ·have hbb:=byteAt_lt hlt;have hr:=runN_eq (p:=pd d) (s:=s) (a:=0) (i:=i) (by omega) (fun j hj=>by rw [Nat.zero_add]; exact hok j hj);rw [Nat.zero_add,←hbb] at hr;have hok2:pd d (s.data[i].toNat)=true→∀ j,j<i+1→pd d (byteAt s j)=true:=fun h j hj=>by
   by_cases e:j=i
   ·rw [e,←hbb]; exact h
   ·exact hok j (by omega)
  have hd:=hd (s.data[i].toNat);have hl:=hl (s.data[i].toNat);have fin1:pd d (s.data[i].toNat)=false→runN (pd d) s 0=i:=fun h=>hr (.inr h)
  cases ed:digB (s.data[i].toNat)
  ·rw [ed] at hd;cases d
   ·cases el:letB (s.data[i].toNat)
    ·rw [el] at hl;cases eu:((s.data[i].toNat:Int)==95)
     ·have hr:=fin1 (by simp [pd,ed,el,eu]);repeat (first|simp [hlt,hwi]|refine sR ?_)
      refine Stop.of_d (hd _ _) ?_;simp;repeat (first|simp [hlt,hwi]|refine sR ?_)
      refine Stop.of_d (hl _ _) ?_;simp;repeat (first|simp [hlt,hwi,eu]|refine sR ?_|refine sC ?_)
      refine sX ?_;simp only [AU, ↓reduceIte];repeat (first|simp|refine sR ?_)
      refine sT (sH hbox htok ?_);simp [packA,hr]
     ·have hv:=hok2 (by simp [pd,ed,el,eu]);repeat (first|simp [hlt,hwi]|refine sR ?_)
      refine Stop.of_d (hd _ _) ?_;simp;repeat (first|simp [hlt,hwi]|refine sR ?_)
      refine Stop.of_d (hl _ _) ?_;simp;repeat (first|simp [hlt,hwi,eu]|refine sR ?_)
      refine sC ?_;simp;repeat (first|simp [hw]|refine sR ?_)
      refine sE ?_;exact ⟨i+1,⟨hlt,hv⟩,by omega,Weaks.mk (Nat.le_refl _) rfl (by simp [ToL,lk]) trivial⟩
    ·rw [el] at hl;have hv:=hok2 (by simp [pd,ed,el]);repeat (first|simp [hlt,hwi]|refine sR ?_)
     refine Stop.of_d (hd _ _) ?_;simp;repeat (first|simp [hlt,hwi]|refine sR ?_)
     refine Stop.of_d (hl _ _) ?_;simp;repeat (first|simp [hlt,hwi]|refine sR ?_)
     refine sC ?_;simp;repeat (first|simp [hw]|refine sR ?_)
     refine sE ?_;exact ⟨i+1,⟨hlt,hv⟩,by omega,Weaks.mk (Nat.le_refl _) rfl (by simp [ToL,lk]) trivial⟩
   ·have hr:=fin1 (by simp [pd,ed]);repeat (first|simp [hlt,hwi]|refine sR ?_)
    refine Stop.of_d (hd _ _) ?_;simp;repeat (first|simp [hlt,hwi]|refine sR ?_|refine sC ?_)
    refine sX ?_;simp only [AU, ↓reduceIte];repeat (first|simp|refine sR ?_)
    refine sT (sH hbox htok ?_);simp [packA,hr]
  ·rw [ed] at hd;have hv:=hok2 (by simp [pd,ed]);repeat (first|simp [hlt,hwi]|refine sR ?_)
   refine Stop.of_d (hd _ _) ?_;simp;repeat (first|simp [hlt,hwi]|refine sR ?_)
   refine sC ?_;simp;repeat (first|simp [hw]|refine sR ?_)
   refine sE ?_;exact ⟨i+1,⟨hlt,hv⟩,by omega,Weaks.mk (Nat.le_refl _) rfl (by simp [ToL,lk]) trivial⟩
 ·have hie:i=s.size:=by omega
  have hr:=runN_eq (p:=pd d) (s:=s) (a:=0) (i:=i) (by omega) (fun j hj=>by rw [Nat.zero_add]; exact hok j hj) (.inl (by omega));repeat (first|simp [hlt,hwi]|refine sR ?_|refine sC ?_)
  refine sX ?_;simp only [AU, ↓reduceIte];repeat (first|simp|refine sR ?_)
  refine sT (sH hbox htok ?_);simp [packA,hr]
def quoT (s:ByteArray) (n:Nat):Int :=
 if n<s.size then (if byteAt s n=34 then (n:Int)+1 else if byteAt s n<32∨126<byteAt s n then 0 else quoT s (n+1)) else 0
termination_by s.size - n
theorem quoT_end {s:ByteArray} {n:Nat} (h:¬ n<s.size):quoT s n=0:=by rw [quoT,if_neg h]
theorem quoT_q {s:ByteArray} {n:Nat} (h:n<s.size) (h1:byteAt s n=34):quoT s n=(n:Int)+1:=by rw [quoT,if_pos h,if_pos h1]
theorem quoT_bad {s:ByteArray} {n:Nat} (h:n<s.size) (h1:¬ byteAt s n=34) (h2:byteAt s n<32∨126<byteAt s n):quoT s n=0:=by rw [quoT,if_pos h,if_neg h1,if_pos h2]
theorem quoT_go {s:ByteArray} {n:Nat} (h:n<s.size) (h1:¬ byteAt s n=34) (h2:¬ (byteAt s n<32∨126<byteAt s n)):quoT s n=quoT s (n+1):=by rw [quoT,if_pos h,if_neg h1,if_neg h2]
theorem quoT_rng (s:ByteArray):∀ (k n:Nat),s.size - n=k→1≤n→quoT s n=0∨2≤quoT s n∧quoT s n≤s.size
 | 0,n,hk,_=>.inl (quoT_end (by omega))
 | k+1,n,hk,h1=>by
  have hlt:n<s.size:=by omega
  by_cases e1:byteAt s n=34
  ·rw [quoT_q hlt e1]; right; omega
  ·by_cases e2:byteAt s n<32∨126<byteAt s n
   ·exact .inl (quoT_bad hlt e1 e2)
   ·rw [quoT_go hlt e1 e2]; exact quoT_rng s k (n+1) (by omega) (by omega)
def stQ01 (s:ByteArray) (nb:Nat) (box:Bxs) (tok:Tks) (nt:Nat) (i:Nat):AState:=⟨tl [(0,Sb s),(1,I 0),(5,I i)],lb nb box [],tok,nt⟩
theorem quoted01_c (s:ByteArray) (hs:s.size≤200000000000000) (tok:Tks) (nt:Nat):DCall Tryz.prog 253 [Sb s,I 0] tok nt (I (quoT s 1)) tok nt:=by
 intro box nb;refine sI Tryz.func253 Tryz.ntmps253 fun hbox htok=>?_
 repeat (first|simp|refine sR ?_)
 refine sN ?_;by_cases h0:1≤s.size
 ·refine AL.loopT (stQ01 s nb box tok nt) (fun i=>i≤s.size∧quoT s 1=quoT s i) (fun i=>s.size - i) 1 ⟨h0,rfl⟩ (Weaks.mk (Nat.le_refl _) rfl (by simp [ToL,lk]) trivial) ?_;rintro i S' ⟨hi,hq⟩ hS;simp only [stQ01] at hS;subst hS;have hw:=sW (i:=i) (by omega);have hwi:IntKind.i64.wrap (i:Int)=i:=wrap_in (by omega) (by omega)
  by_cases hlt:i<s.size
  ·have hbb:=byteAt_lt hlt;repeat (first|simp [hlt,hwi]|refine sR ?_)
   refine sC ?_
   repeat (first|simp [hlt,hwi]|refine sR ?_)
   rw [hbb];by_cases e1:byteAt s i=34
   ·have b1:(byteAt s i==34)=true:=by simp [e1]
    have hr:=quoT_q hlt e1;simp only [b1];refine sC ?_;simp;repeat (first|simp [hw]|refine sR ?_)
    refine sT (sH hbox htok ?_);simp [packA,hq,hr]
   ·have b1:(byteAt s i==34)=false:=by simp [e1]
    simp only [b1];refine sC ?_;simp;by_cases e2:byteAt s i<32
    ·have hr:=quoT_bad hlt e1 (.inl e2);repeat (first|simp [e2]|refine sR ?_)
     refine sC ?_;repeat (first|simp|refine sR ?_)
     refine sT (sH hbox htok ?_);simp [packA,hq,hr]
    ·by_cases e3:126<byteAt s i
     ·have hr:=quoT_bad hlt e1 (.inr e3);repeat (first|simp [e2,e3]|refine sR ?_)
      refine sC ?_;repeat (first|simp|refine sR ?_)
      refine sT (sH hbox htok ?_);simp [packA,hq,hr]
     ·have hr:=quoT_go hlt e1 (by omega);repeat (first|simp [e2,e3]|refine sR ?_)
      refine sC ?_;simp;repeat (first|simp [hw]|refine sR ?_)
      refine sE ?_;exact ⟨i+1,⟨hlt,hq.trans hr⟩,by omega,Weaks.mk (Nat.le_refl _) rfl (by simp [ToL,lk]) trivial⟩
  ·have hr:=quoT_end hlt;repeat (first|simp [hlt,hwi]|refine sR ?_|refine sC ?_)
   refine sX ?_;simp only [AU, ↓reduceIte];repeat (first|simp|refine sR ?_)
   refine sT (sH hbox htok ?_);simp [packA,hq,hr]
 ·have hr:=quoT_end (s:=s) (n:=1) (by omega);refine AL.loopT (stQ01 s nb box tok nt) (fun i=>i=1) (fun i=>0) 1 rfl (Weaks.mk (Nat.le_refl _) rfl (by simp [ToL,lk]) trivial) ?_;rintro i S' rfl hS;simp only [stQ01] at hS;subst hS;have h1:¬ (1:Int)<s.size:=by omega
  have hwi:IntKind.i64.wrap (1:Int)=1:=rfl
  repeat (first|simp [hwi,h1]|refine sR ?_|refine sC ?_)
  refine sX ?_;simp only [AU, ↓reduceIte];repeat (first|simp|refine sR ?_)
  refine sT (sH hbox htok ?_);simp [packA,hr]
def signL:List ByteArray:=[⟨#[45,62]⟩,⟨#[60,61]⟩,⟨#[62,61]⟩,⟨#[61,61]⟩,⟨#[33,61]⟩,⟨#[123]⟩,⟨#[125]⟩,⟨#[40]⟩,⟨#[41]⟩,⟨#[91]⟩,⟨#[93]⟩,⟨#[44]⟩,⟨#[59]⟩,⟨#[58]⟩,⟨#[61]⟩,⟨#[43]⟩,⟨#[45]⟩,⟨#[42]⟩,⟨#[60]⟩,⟨#[62]⟩,⟨#[33]⟩,⟨#[38]⟩,⟨#[124]⟩,⟨#[46]⟩,⟨#[63]⟩]
theorem signs01_c (tok:Tks) (nt:Nat):DCall Tryz.prog 254 [] tok nt (.d (strs signL)) tok nt:=by
 intro box nb;refine sI Tryz.func254 Tryz.ntmps254 fun hbox htok=>?_
 repeat (first|simp|refine sR ?_)
 refine ⟨rfl,?_⟩;repeat (first|simp|refine sR ?_)
 refine sT (sH hbox htok ?_);simp [packA,strs,signL]
def sgnT (s:ByteArray):List ByteArray→Int × ByteArray × Int × Int
 | []=>(0,⟨#[]⟩,0,2)
 | x::r=>if x.size≤s.size∧s.extract 0 x.size=x then (4,x,x.size,0) else sgnT s r
theorem sgnT_cons (s x:ByteArray) (r:List ByteArray):sgnT s (x::r)=if x.size≤s.size∧s.extract 0 x.size=x then ((4:Int),x,(x.size:Int),(0:Int)) else sgnT s r:=rfl
theorem sgnT_kind (s:ByteArray):∀ l,(sgnT s l).1=4∧(sgnT s l).2.2.2=0∨(sgnT s l).2.2.2=2
 | []=>.inr rfl
 | x::r=>by
  unfold sgnT;split
  ·exact .inl ⟨rfl,rfl⟩
  ·exact sgnT_kind s r
def oneR (s:ByteArray):Int × ByteArray × Int × Int :=
 if letB (byteAt s 0)=true∨digB (byteAt s 0)=true then
  (if (if digB (byteAt s 0)=true then 9 else 20)<runN (pd (digB (byteAt s 0))) s 0 then (0,⟨#[]⟩,0,3)
   else (if digB (byteAt s 0)=true then 2 else 1,s.extract 0 (runN (pd (digB (byteAt s 0))) s 0),runN (pd (digB (byteAt s 0))) s 0,0))
 else if byteAt s 0=34 then (if quoT s 1=0 then (0,⟨#[]⟩,0,2) else if 60<quoT s 1 - 2 then (0,⟨#[]⟩,0,3) else (3,s.extract 1 ((quoT s 1).toNat - 1),quoT s 1,0))
 else sgnT s signL
def stSg (s:ByteArray) (L:List ByteArray) (nb:Nat) (box:Bxs) (tok:Tks) (nt:Nat) (i:Nat):AState :=
 ⟨tl [(13,I i),(12,.d (strs L)),(4,.ptr (nb+4) 0 0),(0,Sb s),(1,I 0)],lb nb box [(4,[[I 0,Sb ⟨#[]⟩,I 0]])],tok,nt⟩
set_option maxRecDepth 100000 in
theorem one01_c (s:ByteArray) (h1:1≤s.size) (hs:s.size≤200000000000000) (tok:Tks) (nt:Nat):DCall Tryz.prog 191 [Sb s,I 0] tok nt (.tup [.agg [I (oneR s).1,Sb (oneR s).2.1,I 0],I (oneR s).2.2.1,I (oneR s).2.2.2]) tok nt:=by
 intro box nb;obtain ⟨N,hN⟩:∃ N,oneR s=N:=⟨_,rfl⟩
 rw [hN];unfold oneR at hN;have hl:=letter01_c (byteAt s 0);have hd:=digit01_c (byteAt s 0);have hr:=fun d=>run01_c s d hs
 have hq:=quoted01_c s hs;have hqr:=quoT_rng s _ 1 rfl (Nat.le_refl _);have hsg:=signs01_c;have h0:0<s.size:=h1
 have h0':(0:Int)<s.size:=by omega
 have hb:=byteAt_lt h0;have hrl:runN (pd (digB (byteAt s 0))) s 0≤s.size:=runN_le _ _ _
 cases ed:digB (byteAt s 0)
 ·rw [ed] at hd hrl hN;cases el:letB (byteAt s 0)
  ·rw [el] at hl hN;rw [if_neg (by simp)] at hN;refine sI Tryz.func191 Tryz.ntmps191 fun hbox htok=>?_
   repeat (first|simp [h0,h0']|refine sR ?_)
   rw [hb];refine Stop.of_d (hl _ _) ?_;repeat (first|simp|refine sR ?_)
   refine Stop.of_d (hd _ _) ?_;repeat (first|simp|refine sR ?_)
   refine sC ?_
   repeat (first|simp|refine sR ?_)
   by_cases e3:byteAt s 0=34
   ·rw [if_pos e3] at hN;have b3:(byteAt s 0==34)=true:=by simp [e3]
    generalize quoT s 1=q at *;repeat (first|simp [b3]|refine sR ?_)
    refine sC ?_;repeat (first|simp|refine sR ?_)
    refine Stop.of_d (hq _ _) ?_;simp;by_cases q0:q=0
    ·have b4:(q==0)=true:=by simp [q0]
     rw [if_pos q0] at hN;repeat (first|simp [b4]|refine sR ?_)
     refine sC ?_;repeat (first|simp|refine sR ?_)
     refine sT (sH hbox htok ?_);simp [packA,←hN]
    ·have b4:(q==0)=false:=by simp [q0]
     obtain ⟨q1,q2⟩:=hqr.resolve_left q0;rw [if_neg q0] at hN;have w1:IntKind.i64.wrap (q - 2)=q - 2:=wrap_in (by omega) (by omega)
     have w2:IntKind.i64.wrap q=q:=wrap_in (by omega) (by omega)
     have w3:IntKind.i64.wrap (q - 1)=q - 1:=wrap_in (by omega) (by omega)
     have w4:IntKind.i64.wrap 1=1:=rfl
     by_cases q3:60<q - 2
     ·rw [if_pos q3] at hN;repeat (first|simp [b4]|refine sR ?_)
      refine sC ?_;simp;repeat (first|simp [w1]|refine sR ?_)
      refine sC ?_;simp [q3];repeat (first|simp|refine sR ?_)
      refine sT (sH hbox htok ?_);simp [packA,←hN]
     ·rw [if_neg q3] at hN;have q4:(1:Int)≤q - 1:=by omega
      have q5:q - 1≤s.size:=by omega
      have q6:1≤q.toNat - 1:=by omega
      have q7:q.toNat - 1≤s.size:=by omega
      have q8:0≤q - 1:=by omega
      repeat (first|simp [b4]|refine sR ?_)
      refine sC ?_;simp;repeat (first|simp [w1]|refine sR ?_)
      refine sC ?_;simp [q3];repeat (first|simp [w2,w3,w4,q4,q5,q6,q7,q8]|refine sR ?_)
      refine ⟨by omega,?_⟩;repeat (first|simp|refine sR ?_)
      refine sT (sH hbox htok ?_);simp [packA,←hN]
   ·rw [if_neg e3] at hN;have b3:(byteAt s 0==34)=false:=by simp [e3]
    repeat (first|simp [b3]|refine sR ?_)
    refine sC ?_;repeat (first|simp|refine sR ?_)
    refine Stop.of_d (hsg _ _) ?_;repeat (first|simp|refine sR ?_)
    refine sN ?_;refine AL.loopT (stSg s signL nb box tok nt) (fun i=>i≤signL.length∧sgnT s signL=sgnT s (signL.drop i)) (fun i=>signL.length - i) 0 ⟨Nat.zero_le _,rfl⟩ wkA ?_;rintro i S' ⟨hi,hsq⟩ hS;simp only [stSg] at hS;subst hS;have hlen:signL.length≤1000:=by decide
    have hmax:∀ x∈signL,x.size≤2:=by decide
    generalize signL=L at *;have hw:=sW (i:=i) (by omega);repeat (first|simp|refine sR ?_|refine sC ?_)
    refine ⟨fun hlt=>?_,fun hge=>?_⟩
    ·have hx:=hmax _ (List.getElem_mem hlt);have hdr:L.drop i=L[i]::L.drop (i+1):=List.drop_eq_getElem_cons hlt
     have hwx:IntKind.i64.wrap (L[i].size:Int)=L[i].size:=wrap_in (by omega) (by omega)
     rw [hdr] at hsq;rw [sgnT_cons] at hsq;by_cases c1:L[i].size≤s.size
     ·have c1':(L[i].size:Int)≤s.size:=by omega
      by_cases c2:s.extract 0 L[i].size=L[i]
      ·have b2:((s.extract 0 L[i].size).toList==L[i].toList)=true:=by rw [seq_dec]; simp [c2]
       rw [if_pos ⟨c1,c2⟩] at hsq;repeat first|simp [hlt,hwx,c1,c1',b2]|refine sR ?_
       refine sC ?_;simp [hlt,hwx,c1,c1',b2]
       refine sN ?_;refine AL.region2 follows_Tryz (Nat.le_refl _) (by kernel_rfl) (Side.of (by simp)) ?_;simp [hlt];refine sT (sH hbox htok ?_);simp [packA,hsq,←hN]
      ·have b2:((s.extract 0 L[i].size).toList==L[i].toList)=false:=by rw [seq_dec]; simp [c2]
       rw [if_neg fun h=>c2 h.2] at hsq;repeat (first|simp [hlt,hwx,c1,c1',b2]|refine sR ?_)
       refine sC ?_;simp;repeat (first|simp [hw]|refine sR ?_)
       refine sE ?_;exact ⟨i+1,⟨hlt,hsq⟩,by omega,wkA⟩
     ·have c1':¬ (L[i].size:Int)≤s.size:=by omega
      rw [if_neg fun h=>c1 h.1] at hsq;repeat (first|simp [hlt,hwx,c1,c1']|refine sR ?_)
      refine sC ?_;simp;repeat (first|simp [hw]|refine sR ?_)
      refine sE ?_;exact ⟨i+1,⟨hlt,hsq⟩,by omega,wkA⟩
    ·refine sX ?_;simp only [AU, ↓reduceIte];repeat (first|simp|refine sR ?_)
     have hie:i=L.length:=by omega
     rw [hie,List.drop_length] at hsq;refine sT (sH hbox htok ?_);simp [packA,←hN,hsq,sgnT]
  ·rw [el] at hl hN;rw [if_pos (by simp)] at hN;have hr:=hr false;generalize runN (pd false) s 0=n at *;refine sI Tryz.func191 Tryz.ntmps191 fun hbox htok=>?_
   repeat (first|simp [h0,h0']|refine sR ?_)
   rw [hb];refine Stop.of_d (hl _ _) ?_;repeat (first|simp|refine sR ?_)
   refine sC ?_;repeat (first|simp|refine sR ?_)
   refine Stop.of_d (hd _ _) ?_;repeat (first|simp|refine sR ?_)
   refine Stop.of_d (hr _ _) ?_;repeat (first|simp|refine sR ?_)
   refine Stop.of_d (hd _ _) ?_;repeat (first|simp|refine sR ?_)
   refine sC ?_;repeat (first|simp|refine sR ?_)
   by_cases e3:20<n
   ·have e4:(20:Int)<n:=by omega
    simp only [Bool.false_eq_true,if_false] at hN;rw [if_pos e3] at hN;refine sC ?_;simp [e4];repeat (first|simp|refine sR ?_)
    refine sT (sH hbox htok ?_);simp [packA,←hN]
   ·have e4:¬ (20:Int)<n:=by omega
    simp only [Bool.false_eq_true,if_false] at hN;rw [if_neg e3] at hN;have hwn:IntKind.i64.wrap (n:Int)=n:=wrap_in (by omega) (by omega)
    have hns:(n:Int)≤s.size:=by omega
    refine sC ?_;simp [e4];repeat (first|simp [hwn,hns,hrl]|refine sR ?_)
    refine sT (sH hbox htok ?_);simp [packA,←hN]
 ·rw [ed] at hd hrl hN;have el:letB (byteAt s 0)=false:=by
   have:=ed
   unfold digB at this;unfold letB;simp only [decide_eq_true_eq,decide_eq_false_iff_not] at this ⊢;omega
  rw [el] at hl;rw [if_pos (by simp)] at hN;have hr:=hr true;generalize runN (pd true) s 0=n at *;refine sI Tryz.func191 Tryz.ntmps191 fun hbox htok=>?_
  repeat (first|simp [h0,h0']|refine sR ?_)
  rw [hb];refine Stop.of_d (hl _ _) ?_;repeat (first|simp|refine sR ?_)
  refine Stop.of_d (hd _ _) ?_;repeat (first|simp|refine sR ?_)
  refine sC ?_;repeat (first|simp|refine sR ?_)
  refine Stop.of_d (hd _ _) ?_;repeat (first|simp|refine sR ?_)
  refine Stop.of_d (hr _ _) ?_;repeat (first|simp|refine sR ?_)
  refine Stop.of_d (hd _ _) ?_;repeat (first|simp|refine sR ?_)
  refine sC ?_;repeat (first|simp|refine sR ?_)
  by_cases e3:9<n
  ·have e4:(9:Int)<n:=by omega
   simp only [if_true] at hN;rw [if_pos e3] at hN;refine sC ?_;simp [e4];repeat (first|simp|refine sR ?_)
   refine sT (sH hbox htok ?_);simp [packA,←hN]
  ·have e4:¬ (9:Int)<n:=by omega
   simp only [if_true] at hN;rw [if_neg e3] at hN;have hwn:IntKind.i64.wrap (n:Int)=n:=wrap_in (by omega) (by omega)
   have hns:(n:Int)≤s.size:=by omega
   refine sC ?_;simp [e4];repeat (first|simp [hwn,hns,hrl]|refine sR ?_)
   refine sT (sH hbox htok ?_);simp [packA,←hN]
theorem let_dig {c:Int} (h:letB c=true):digB c=false:=by
 unfold letB at h;unfold digB;simp only [decide_eq_true_eq,decide_eq_false_iff_not] at h ⊢;omega
theorem nameB_one {s:ByteArray} (h1:1≤s.size):((decide ((oneR s).2.2.2=0)&&decide ((oneR s).2.2.1=(s.size:Int)))&&decide ((oneR s).1=1))=nameB s:=by
 unfold nameB oneR;by_cases e1:letB (byteAt s 0)=true
 ·have e2:=let_dig e1;rw [if_pos (.inl e1),e2,pd_false];simp only [Bool.false_eq_true,if_false];by_cases e3:20<runN parB s 0
  ·rw [if_pos e3,Bool.eq_iff_iff];simp [e1];omega
  ·rw [if_neg e3,Bool.eq_iff_iff];simp [e1];omega
 ·have e1':letB (byteAt s 0)=false:=by simpa using e1
  rw [e1'];simp only [Bool.and_false,Bool.false_and];split
  ·rename_i h;have hd:digB (byteAt s 0)=true:=h.resolve_left (by simp)
   rw [hd];simp only [if_true];split <;> simp
  ·split
   ·split
    ·simp
    ·split <;> simp
   ·rcases sgnT_kind s signL with ⟨k1,_⟩|k1 <;> simp [k1]
theorem text01_c (s:ByteArray) (tok:Tks) (nt:Nat):DCall Tryz.prog 259 [.agg [I 1,Sb s,I 0]] tok nt (Sb s) tok nt:=by
 intro box nb;refine sI Tryz.func259 Tryz.ntmps259 fun hbox htok=>?_
 repeat (first|simp|refine sR ?_)
 refine sC ?_;repeat (first|simp|refine sR ?_)
 refine sT (sH hbox htok ?_);simp [packA]
theorem right01_c (s:ByteArray) (hs:s.size≤200000000000000) (tok:Tks) (nt:Nat):DCall Tryz.prog 207 [.agg [I 1,Sb s,I 0]] tok nt (B (nameB s)) tok nt:=by
 intro box nb;have ht:=text01_c s;by_cases h0:s.size=0
 ·have b0:(s.toList==(⟨#[]⟩:ByteArray).toList)=true:=by rw [empty_dec]; simp [h0]
  have b1:s.toList=[]:=by simpa using b0
  have hn:nameB s=false:=by simp [nameB,h0]
  rw [hn];refine sI Tryz.func207 Tryz.ntmps207 fun hbox htok=>?_
  repeat (first|simp|refine sR ?_)
  refine Stop.of_d (ht _ _) ?_;repeat (first|simp [b1]|refine sR ?_|refine sC ?_)
  refine sT (sH hbox htok ?_);simp [packA]
 ·have b0:(s.toList==(⟨#[]⟩:ByteArray).toList)=false:=by rw [empty_dec]; simp [h0]
  have b1:¬ s.toList=[]:=by simpa using b0
  have hx:=one01_c s (by omega) hs;have hnb:=nameB_one (s:=s) (by omega);rw [←hnb];generalize oneR s=N at *;refine sI Tryz.func207 Tryz.ntmps207 fun hbox htok=>?_
  repeat (first|simp|refine sR ?_)
  refine Stop.of_d (ht _ _) ?_;repeat (first|simp [b1]|refine sR ?_|refine sC ?_)
  refine Stop.of_d (hx _ _) ?_;simp;by_cases f1:N.2.2.2=0
  ·have g1:(N.2.2.2==0)=true:=by simp [f1]
   by_cases f3:N.2.2.1=(s.size:Int)
   ·have g3:(N.2.2.1==(s.size:Int))=true:=by simp [f3]
    repeat (first|simp [g1,g3]|refine sR ?_)
    by_cases f2:N.1=1
    ·have g2:(N.1==1)=true:=by simp [f2]
     refine sT (sH hbox htok ?_);simp [packA,f1,f2,f3,g2]
    ·have g2:(N.1==1)=false:=by simp [f2]
     refine sT (sH hbox htok ?_);simp [packA,f1,f2,f3,g2]
   ·have g3:(N.2.2.1==(s.size:Int))=false:=by simp [f3]
    repeat (first|simp [g1,g3]|refine sR ?_)
    refine sT (sH hbox htok ?_);simp [packA,f1,f3]
  ·have g1:(N.2.2.2==0)=false:=by simp [f1]
   repeat (first|simp [g1]|refine sR ?_)
   refine sT (sH hbox htok ?_);simp [packA,f1]
theorem isName01_c (s:ByteArray) (hs:s.size≤200000000000000) (tok:Tks) (nt:Nat):DCall Tryz.prog 128 [Sb s] tok nt (B (nameB s)) tok nt:=by
 intro box nb;have h:=right01_c s hs;refine sI Tryz.func128 Tryz.ntmps128 fun hbox htok=>?_
 repeat (first|simp|refine sR ?_)
 refine Stop.of_d (h _ _) ?_;repeat (first|simp|refine sR ?_)
 refine sT (sH hbox htok ?_);simp [packA]
variable {P:Program}
def Trans (cx:Cx) (nt0:Nat) (S S':AState):Prop:=∀ G0 w0 G a w,Entry cx nt0 G0→G0.nt≤nt0→RelS cx.n cx.nb G S a w→LeC cx G0 w0 G w S→∃ G',RelS cx.n cx.nb G' S' a w∧LeC cx G0 w0 G' w S'
theorem AT.trans {cx:Cx} {nt0:Nat} {c:Code} {S S':AState} {K:Exit→AState→Prop} (h:Trans cx nt0 S S') (k:AT P cx nt0 c S' K):AT P cx nt0 c S K:=by
 intro G0 w0 he hn G a w hr hl;obtain ⟨G',hr',hl'⟩:=h G0 w0 G a w he hn hr hl;exact k G0 w0 he hn G' a w hr' hl'
theorem AL.trans {cx:Cx} {nt0:Nat} {K:Exit→AState→Prop} {r:List CI} {S S':AState} {x:Code} (hw:Trans cx nt0 S S') (h:AL P cx nt0 K (.c x::r) S'):AL P cx nt0 K (.c x::r) S:=by
 simp only [AL] at h ⊢;exact AT.trans hw h
inductive ThTo (t k sz:Nat) (es:List (List D)):AV→AV→Prop
 | bot {x}:ThTo t k sz es x .bot
 | same {x}:ThTo t k sz es x x
 | ex:ThTo t k sz es (.ex t sz es) (.msl k 0 es.length sz)
 | agg {cs ds:List AV} (hl:cs.length=ds.length) (h:∀ i (h1:i<cs.length) (h2:i<ds.length),ThTo t k sz es cs[i] ds[i]):ThTo t k sz es (.agg cs) (.agg ds)
def ThR (t k sz:Nat) (es:List (List D)) (r r':List AV):Prop:=r.length=r'.length∧∀ i (h1:i<r.length) (h2:i<r'.length),ThTo t k sz es r[i] r'[i]
def ThRs (t k sz:Nat) (es:List (List D)) (r r':List (List AV)):Prop:=r.length=r'.length∧∀ i (h1:i<r.length) (h2:i<r'.length),ThR t k sz es r[i] r'[i]
def ThL (t k sz:Nat) (es:List (List D)):List (Nat × AV)→List (Nat × AV)→Prop
 | [],[]=>True
 | (i,x)::a,(j,y)::b=>i=j∧ThTo t k sz es x y∧ThL t k sz es a b
 | _,_=>False
def ThB (t k sz:Nat) (es:List (List D)):List (Nat × List (List AV))→List (Nat × List (List AV))→Prop
 | [],[]=>True
 | (i,x)::a,(j,y)::b=>i=j∧ThRs t k sz es x y∧ThB t k sz es a b
 | _,_=>False
theorem ThL.at {t k sz:Nat} {es:List (List D)}:∀ {l l':List (Nat × AV)},ThL t k sz es l l'→∀ i,ThTo t k sz es (tl l i) (tl l' i)
 | [],[],_,i=>.same
 | (i,x)::a,(j,y)::b,h,q=>by
  obtain ⟨rfl,h1,h2⟩:=h;rw [tl_cons,tl_cons];split
  ·exact h1
  ·exact ThL.at h2 q
 | [],_::_,h,_=>h.elim
 | _::_,[],h,_=>h.elim
theorem ThB.at {t k sz:Nat} {es:List (List D)}:∀ {l l':List (Nat × List (List AV))},ThB t k sz es l l'→∀ i,(lk l i=none∧lk l' i=none)∨∃ r r',lk l i=some r∧lk l' i=some r'∧ThRs t k sz es r r'
 | [],[],_,i=>.inl ⟨rfl,rfl⟩
 | (i,x)::a,(j,y)::b,h,q=>by
  obtain ⟨rfl,h1,h2⟩:=h;rw [lk_cons,lk_cons];split
  ·exact .inr ⟨x,y,rfl,rfl,h1⟩
  ·exact ThB.at h2 q
 | [],_::_,h,_=>h.elim
 | _::_,[],h,_=>h.elim
theorem ThRs.flat {t k sz:Nat} {es:List (List D)}:∀ {r r':List (List AV)},ThRs t k sz es r r'→ThR t k sz es r.flatten r'.flatten
 | [],[],_=>⟨rfl,fun i h=>by simp at h⟩
 | x::a,y::b,h=>by
  have h0:=h.2 0 (by simp) (by simp);have ih:ThR t k sz es a.flatten b.flatten:=ThRs.flat ⟨by simpa using h.1,fun i h1 h2=>h.2 (i+1) (by simpa using h1) (by simpa using h2)⟩
  simp only [List.getElem_cons_zero] at h0;refine ⟨by simp [h0.1,ih.1],fun i h1 h2=>?_⟩;have hl:=h0.1;have hi2:=ih.1;simp only [List.flatten_cons] at h1 h2 ⊢;rw [List.length_append] at h1 h2;by_cases hi:i<x.length
  ·have e1:(x++a.flatten)[i]'(by rw [List.length_append]; omega)=x[i]:=List.getElem_append_left hi
   have e2:(y++b.flatten)[i]'(by rw [List.length_append]; omega)=y[i]'(by omega):=List.getElem_append_left (by omega)
   rw [e1,e2];exact h0.2 i hi _
  ·have e1:(x++a.flatten)[i]'(by rw [List.length_append]; omega)=a.flatten[i - x.length]'(by omega):=List.getElem_append_right (by omega)
   have e2:(y++b.flatten)[i]'(by rw [List.length_append]; omega)=b.flatten[i - y.length]'(by omega):=List.getElem_append_right (by omega)
   rw [e1,e2];have:=ih.2 (i - x.length) (by omega) (by omega)
   simp only [hl] at this ⊢;exact this
 | [],_::_,h=>by have:=h.1; simp at this
 | _::_,[],h=>by have:=h.1; simp at this
theorem rowsD_flat (es:List (List D)):(rowsD es).flatten=es.flatten.map AV.d:=by
 induction es with
 | nil=>rfl
 | cons e es ih=>simp only [rowsD,List.map_cons,List.flatten_cons,List.map_append] at ih ⊢; rw [ih]
theorem Trans.thaw {cx:Cx} {nt0 nt:Nat} {l l':List (Nat × AV)} {out:Bxs} {loc loc':List (Nat × List (List AV))} {tok:Nat→Bool} (t s sz:Nat) (es:List (List D)) (r:Nat)
  (hn:cx.nb=cx.base+cx.n) (hs:s<cx.n) (hk:lk loc s=none) (ht:tok t=true) (hr:tl l r=.ex t sz es)
  (hl:ThL t (cx.base+s) sz es l l') (hb:ThB t (cx.base+s) sz es loc loc') :
  Trans cx nt0 ⟨tl l,lb cx.base out loc,tok,nt⟩ ⟨tl l',lb cx.base out ((s,rowsD es)::loc'),upd tok t false,nt⟩:=by
 intro G0 w0 G a w he hn0 hS hL;have hm:=hS.mem;have hwit:=hS.tmps r;simp only at hwit;rw [hr] at hwit;have hex:∀ {v:Value},RV G w (.ex t sz es) v→ExR G w t sz es v:=fun h=>by cases h with|ex h=>exact h
 obtain ⟨hlt,x,hx⟩:=hm.toks t ht;obtain ⟨_,_,hw2⟩:=hex hwit;obtain ⟨g,cap,cs,e,rfl,_,hcap,hmax,hkind,hheap,hrow,hflat,hrd,hone⟩:=hw2 x hx;have hboxk:lb cx.base out loc (cx.base+s)=none:=by rw [lb_at]; exact hk
 have hbxk:G.bx (cx.base+s)=none:=hm.nobox _ hboxk
 let G':Gh:={ bx:=upd G.bx (cx.base+s) (some (g,sz)),kind:=upd G.kind g .box,tk:=upd G.tk t none,nt:=G.nt }
 have hnb:∀ {k b z},G.bx k=some (b,z)→b≠g:=fun h e=>by
  have:=(hm.blt h).2
  rw [e,hkind] at this; cases this
 have hntk:∀ {q j},q≠t→G.tk q=some (some j)→j≠g:=fun hq h e=>by subst e; exact hq (hm.tinj _ _ _ h hx)
 have hle:Le G w G' w:=by
  refine ⟨rfl,rfl,rfl,Nat.le_refl _,fun b _ hb=>⟨?_,rfl⟩,fun b f c hb=>⟨⟨f,Nat.le_refl _,?_⟩,fun _ _ _=>rfl⟩,fun k x hk=>?_,Nat.le_refl _,fun q _=>?_,fun _ _ _ _ h=>⟨_,_,h⟩⟩
  ·simp only [G']; rw [upd_other _ _ (fun e=>by rw [e,hkind] at hb; cases hb)]; exact hb
  ·simp only [G']; rw [upd_other _ _ (fun e=>by rw [e,hkind] at hb; cases hb)]; exact hb
  ·simp only [G']; rw [upd_other _ _ (fun e=>by rw [e,hbxk] at hk; cases hk)]; exact hk
  ·by_cases hq:q=t
   ·subst hq; exact .inl (by simp [G',upd_same])
   ·refine .inr ⟨by simp only [G']; exact upd_other _ _ hq,fun j hj=>⟨?_,fun _=>rfl⟩⟩;simp only [G']; exact upd_other _ _ (hntk hq hj)
 have hto:∀ {x y:AV} {v:Value},ThTo t (cx.base+s) sz es x y→RV G w x v→RV G' w y v:=by
  intro x y v hxy;induction hxy generalizing v with
  | bot=>exact fun _=>.bot
  | same=>exact fun h=>h.mono hle
  | ex =>
   intro h;obtain ⟨_,_,h2⟩:=hex h;obtain ⟨g',cap',cs',e',hg',hv,hc1,hc2,_⟩:=h2 _ hx;cases hg'
   rw [hv];have:=RV.msl (G:=G') (w:=w) (k:=cx.base+s) (off:=0) (n:=es.length) (b:=g) (sz:=sz) (cap:=cap') (by simp [G',upd_same]) hc1 hc2
   simpa using this
  | agg hl _ ih =>
   intro h;cases h with
   | agg hl' hh hone=>exact .agg (hl.symm.trans hl') (fun i h1 h2=>ih i (by omega) h1 (hh i (by omega) h2)) hone
 have hRVs:∀ {xs ys:List AV} {vs:List Value},ThR t (cx.base+s) sz es xs ys→RVs G w xs vs→RVs G' w ys vs:=fun h hr=>⟨h.1.symm.trans hr.1,fun i h1 h2=>hto (h.2 i (by rw [h.1]; exact h1) h1) (hr.2 i _ h2)⟩
 have hlt2:=heap_lt hheap;refine ⟨G',⟨hS.defers,hS.size,fun i=>hto (hl.at i) (hS.tmps i),?_⟩,?_⟩
 ·constructor
  case box =>
   intro k rows b z hk' hb';by_cases e1:k=cx.base+s
   ·subst e1;simp only [lb_at,lk_cons, ↓reduceIte,Option.some.injEq] at hk';simp only [G',upd_same,Option.some.injEq,Prod.mk.injEq] at hb';obtain ⟨rfl,rfl⟩:=hb';subst hk';refine ⟨by simp [G',upd_same],cs,e,hheap,fun q hq=>?_,?_,hone⟩
    ·obtain ⟨p,hp,rfl⟩:=List.mem_map.1 hq;simpa using hrow p hp
    ·rw [rowsD_flat];refine ⟨by rw [List.length_map]; exact hflat,fun i h1 h2=>?_⟩;simp only [List.getElem_map];exact .d ((hrd i (by rw [List.length_map] at h1; exact h1) h2).mono hle.cells)
   ·simp only [G'] at hb';rw [upd_other _ _ e1] at hb';have hold:∃ rows0,lb cx.base out loc k=some rows0∧(rows0=rows∨ThRs t (cx.base+s) sz es rows0 rows):=by
     by_cases hkb:k<cx.base
     ·refine ⟨rows,?_,.inl rfl⟩;simp only at hk';rw [lb_out hkb] at hk' ⊢;exact hk'
     ·have hkk:k=cx.base+(k - cx.base):=by omega
      simp only at hk';rw [hkk,lb_at] at hk' ⊢;rw [lk_cons,if_neg (by omega)] at hk';rcases hb.at (k - cx.base) with ⟨_,h2⟩|⟨r0,r',h1,h2,h3⟩
      ·rw [h2] at hk'; cases hk'
      ·rw [h2] at hk';cases hk'
       exact ⟨r0,h1,.inr h3⟩
    obtain ⟨rows0,h1,h2⟩:=hold;obtain ⟨g1,cs',e',g2,g3,g4,g5⟩:=hm.box k rows0 b z h1 hb';refine ⟨by simp only [G']; rw [upd_other _ _ (hnb hb')]; exact g1,cs',e',g2,?_,?_,g5⟩
    ·rcases h2 with rfl|h2
     ·exact g3
     ·intro q hq;obtain ⟨i,hi,rfl⟩:=List.getElem_of_mem hq;have hi0:i<rows0.length:=by rw [h2.1]; exact hi
      rw [←(h2.2 i hi0 hi).1];exact g3 _ (List.getElem_mem _)
    ·rcases h2 with rfl|h2
     ·exact g4.mono hle
     ·exact hRVs h2.flat g4
  case nobox =>
   intro k hk';have hne:k≠cx.base+s:=fun e=>by subst e; simp [lb_at,lk_cons] at hk'
   simp only [G'];rw [upd_other _ _ hne];refine hm.nobox k ?_;simp only at hk' ⊢;by_cases hkb:k<cx.base
   ·rw [lb_out hkb] at hk' ⊢; exact hk'
   ·have hkk:k=cx.base+(k - cx.base):=by omega
    rw [hkk,lb_at] at hk' ⊢;rw [lk_cons,if_neg (by omega)] at hk';rcases hb.at (k - cx.base) with ⟨h1,_⟩|⟨r0,r',_,h2,_⟩
    ·exact h1
    ·rw [h2] at hk'; cases hk'
  case inj =>
   intro j j' b z z' hj hj';simp only [G'] at hj hj';by_cases e1:j=cx.base+s <;> by_cases e2:j'=cx.base+s
   ·exact e1.trans e2.symm
   ·subst e1;rw [upd_same] at hj; rw [upd_other _ _ e2] at hj';cases hj;exact absurd rfl (hnb hj')
   ·subst e2;rw [upd_same] at hj'; rw [upd_other _ _ e1] at hj;cases hj'
    exact absurd rfl (hnb hj)
   ·rw [upd_other _ _ e1] at hj; rw [upd_other _ _ e2] at hj';exact hm.inj j j' b z z' hj hj'
  case nb =>
   intro k hk';have h0:=hm.nb k hk';simp only at h0 ⊢;have hkb:¬ k<cx.base:=by simp only at hk'; omega
   have hkk:k=cx.base+(k - cx.base):=by omega
   rw [hkk,lb_at] at h0 ⊢;rw [lk_cons,if_neg (by simp only at hk'; omega)];rcases hb.at (k - cx.base) with ⟨_,h2⟩|⟨r0,r',h1,_,_⟩
   ·exact h2
   ·rw [h1] at h0; cases h0
  case nt=>exact hm.nt
  case toks =>
   intro q hq;simp only at hq;by_cases e1:q=t
   ·subst e1; simp [upd_same] at hq
   ·rw [upd_other _ _ e1] at hq;obtain ⟨h1,y,h2⟩:=hm.toks q hq;exact ⟨h1,y,by simp only [G']; rw [upd_other _ _ e1]; exact h2⟩
  case tokb =>
   intro q j hq;simp only [G'] at hq;by_cases e1:q=t
   ·subst e1; simp [upd_same] at hq
   ·rw [upd_other _ _ e1] at hq;obtain ⟨f,cur,e',g1,g2⟩:=hm.tokb q j hq;refine ⟨f,cur,e',?_,g2⟩;simp only [G'];rw [upd_other _ _ (hntk e1 hq)];exact g1
  case tinj =>
   intro q q' j hq hq';simp only [G'] at hq hq';by_cases e1:q=t
   ·subst e1; simp [upd_same] at hq
   ·by_cases e2:q'=t
    ·subst e2; simp [upd_same] at hq'
    ·rw [upd_other _ _ e1] at hq; rw [upd_other _ _ e2] at hq';exact hm.tinj q q' j hq hq'
  case tnt =>
   intro q y hq;simp only [G'] at hq ⊢;by_cases e1:q=t
   ·subst e1; simp [upd_same] at hq
   ·rw [upd_other _ _ e1] at hq;exact hm.tnt q y hq
  case glob=>exact hm.glob.mono hle.cells fun g hg hk=>hle.whole g hg hk
  case fresh =>
   intro b hb';simp only [G'];rw [upd_other _ _ (by omega)];exact hm.fresh b hb'
 ·refine hL.step ⟨hle,fun k hkb hg=>⟨?_,?_⟩⟩
  ·simp only [G']; rw [upd_other _ _ (by omega)]; exact hg
  ·simp only; rw [lb_out hkb,lb_out hkb]
inductive SeTo (t k sz:Nat) (es:List (List D)):AV→AV→Prop
 | bot {x}:SeTo t k sz es x .bot
 | same {x} (h:OkIn (· ≠ k) (fun _=>True) x):SeTo t k sz es x x
 | msl:SeTo t k sz es (.msl k 0 es.length sz) (.ex t sz es)
 | agg {cs ds:List AV} (hl:cs.length=ds.length) (h:∀ i (h1:i<cs.length) (h2:i<ds.length),SeTo t k sz es cs[i] ds[i]):SeTo t k sz es (.agg cs) (.agg ds)
def SeR (t k sz:Nat) (es:List (List D)) (r r':List AV):Prop:=r.length=r'.length∧∀ i (h1:i<r.length) (h2:i<r'.length),SeTo t k sz es r[i] r'[i]
def SeRs (t k sz:Nat) (es:List (List D)) (r r':List (List AV)):Prop:=r.length=r'.length∧∀ i (h1:i<r.length) (h2:i<r'.length),SeR t k sz es r[i] r'[i]
def SeL (t k sz:Nat) (es:List (List D)):List (Nat × AV)→List (Nat × AV)→Prop
 | [],[]=>True
 | (i,x)::a,(j,y)::b=>i=j∧SeTo t k sz es x y∧SeL t k sz es a b
 | _,_=>False
def SeB (t k sz:Nat) (es:List (List D)):List (Nat × List (List AV))→List (Nat × List (List AV))→Prop
 | [],[]=>True
 | (i,x)::a,(j,y)::b=>i=j∧SeRs t k sz es x y∧SeB t k sz es a b
 | _,_=>False
theorem SeL.at {t k sz:Nat} {es:List (List D)}:∀ {l l':List (Nat × AV)},SeL t k sz es l l'→∀ i,SeTo t k sz es (tl l i) (tl l' i)
 | [],[],_,i=>.bot
 | (i,x)::a,(j,y)::b,h,q=>by
  obtain ⟨rfl,h1,h2⟩:=h;rw [tl_cons,tl_cons];split
  ·exact h1
  ·exact SeL.at h2 q
 | [],_::_,h,_=>h.elim
 | _::_,[],h,_=>h.elim
theorem SeB.at {t k sz:Nat} {es:List (List D)}:∀ {l l':List (Nat × List (List AV))},SeB t k sz es l l'→∀ i,(lk l i=none∧lk l' i=none)∨∃ r r',lk l i=some r∧lk l' i=some r'∧SeRs t k sz es r r'
 | [],[],_,i=>.inl ⟨rfl,rfl⟩
 | (i,x)::a,(j,y)::b,h,q=>by
  obtain ⟨rfl,h1,h2⟩:=h;rw [lk_cons,lk_cons];split
  ·exact .inr ⟨x,y,rfl,rfl,h1⟩
  ·exact SeB.at h2 q
 | [],_::_,h,_=>h.elim
 | _::_,[],h,_=>h.elim
theorem SeRs.flat {t k sz:Nat} {es:List (List D)}:∀ {r r':List (List AV)},SeRs t k sz es r r'→SeR t k sz es r.flatten r'.flatten
 | [],[],_=>⟨rfl,fun i h=>by simp at h⟩
 | x::a,y::b,h=>by
  have h0:=h.2 0 (by simp) (by simp);have ih:SeR t k sz es a.flatten b.flatten:=SeRs.flat ⟨by simpa using h.1,fun i h1 h2=>h.2 (i+1) (by simpa using h1) (by simpa using h2)⟩
  simp only [List.getElem_cons_zero] at h0;refine ⟨by simp [h0.1,ih.1],fun i h1 h2=>?_⟩;have hl:=h0.1;have hi2:=ih.1;simp only [List.flatten_cons] at h1 h2 ⊢;rw [List.length_append] at h1 h2;by_cases hi:i<x.length
  ·have e1:(x++a.flatten)[i]'(by rw [List.length_append]; omega)=x[i]:=List.getElem_append_left hi
   have e2:(y++b.flatten)[i]'(by rw [List.length_append]; omega)=y[i]'(by omega):=List.getElem_append_left (by omega)
   rw [e1,e2];exact h0.2 i hi _
  ·have e1:(x++a.flatten)[i]'(by rw [List.length_append]; omega)=a.flatten[i - x.length]'(by omega):=List.getElem_append_right (by omega)
   have e2:(y++b.flatten)[i]'(by rw [List.length_append]; omega)=b.flatten[i - y.length]'(by omega):=List.getElem_append_right (by omega)
   rw [e1,e2];have:=ih.2 (i - x.length) (by omega) (by omega)
   simp only [hl] at this ⊢;exact this
 | [],_::_,h=>by have:=h.1; simp at this
 | _::_,[],h=>by have:=h.1; simp at this
theorem Trans.seal {cx:Cx} {nt0 nt:Nat} {l l':List (Nat × AV)} {out:Bxs} {loc loc':List (Nat × List (List AV))} {tok:Nat→Bool} (s sz:Nat) (es:List (List D)) (r:Nat)
  (ho:out=cx.B0) (hnt:nt0≤nt) (hsz:∀ e∈es,e.length=sz) (hr:tl l r=.msl (cx.base+s) 0 es.length sz) (hk':lk loc' s=none)
  (hl:SeL nt (cx.base+s) sz es l l') (hb:SeB nt (cx.base+s) sz es loc loc') :
  Trans cx nt0 ⟨tl l,lb cx.base out ((s,rowsD es)::loc),tok,nt⟩ ⟨tl l',lb cx.base out loc',upd tok nt true,nt+1⟩:=by
 intro G0 w0 G a w he hn0 hS hL;have hm:=hS.mem;have hgnt:G.nt=nt:=hm.nt
 have hwit:=hS.tmps r;simp only at hwit;rw [hr] at hwit;obtain ⟨b,hbk⟩:∃ b,G.bx (cx.base+s)=some (b,sz):=by
  generalize hq:(AV.msl (cx.base+s) 0 es.length sz)=q at hwit;generalize a.tmps.getD r undef=v0 at hwit;cases hwit with
  | msl h1 h2 h3=>cases hq; exact ⟨_,h1⟩
  | _=>cases hq
 have hboxk:lb cx.base out ((s,rowsD es)::loc) (cx.base+s)=some (rowsD es):=by rw [lb_at,lk_cons,if_pos rfl]
 obtain ⟨hkind,cs,e,hheap,hrows,hR,hone⟩:=hm.box _ _ b sz hboxk hbk
 let G1:Gh:={ bx:=G.bx,kind:=upd G.kind b .ex,tk:=upd G.tk G.nt (some (some b)),nt:=G.nt+1 }
 let G':Gh:={ bx:=upd G.bx (cx.base+s) none,kind:=upd G.kind b .ex,tk:=upd G.tk G.nt (some (some b)),nt:=G.nt+1 }
 have hne:∀ {q j},G.tk q=some (some j)→j≠b:=fun h e=>by
  obtain ⟨f,cur,e',h1,_⟩:=hm.tokb _ _ h;rw [e,hkind] at h1; rcases h1 with ⟨h1,_⟩|h1 <;> cases h1
 have hle:Le G w G1 w:=by
  refine ⟨rfl,rfl,rfl,Nat.le_refl _,fun b' _ hb'=>⟨?_,rfl⟩,fun b' f c hb'=>⟨⟨f,Nat.le_refl _,?_⟩,fun _ _ _=>rfl⟩,fun k x hk=>hk,Nat.le_succ _,fun q hq=>?_,fun _ _ _ _ h=>⟨_,_,h⟩⟩
  ·simp only [G1]; rw [upd_other _ _ (fun e=>by rw [e,hkind] at hb'; cases hb')]; exact hb'
  ·simp only [G1]; rw [upd_other _ _ (fun e=>by rw [e,hkind] at hb'; cases hb')]; exact hb'
  ·refine .inr ⟨by simp only [G1]; exact upd_other _ _ (by omega),fun j hj=>⟨?_,fun _=>rfl⟩⟩;simp only [G1]; exact upd_other _ _ (hne hj)
 have hcells:∀ (q:Addr) (u:Value),G.ps q→w.cell? q=some u→G'.ps q∧w.cell? q=some u:=fun q u h1 h2=>hle.cells q u h1 h2
 -- what does not speak of the box
 have hok:∀ {x:AV} {v:Value},OkIn (· ≠ cx.base+s) (fun _=>True) x→RV G w x v→RV G' w x v:=by
  intro x v hx h;have h1:=h.mono hle;clear h;induction h1 with
  | bot=>exact .bot
  | d h2=>exact .d h2
  | osl h2 h3=>exact .osl h2 h3
  | ptr h2=>cases hx with|ptr hp=>exact .ptr (by simp only [G']; rw [upd_other _ _ hp]; exact h2)
  | buf h2 h3 h4 h5=>exact .buf h2 h3 h4 h5
  | here h2 h3=>cases hx with|here hp=>exact .here (by simp only [G']; rw [upd_other _ _ hp]; exact h2) h3
  | cptr q u hc hr=>exact .cptr q u hc hr
  | msl h2 h3 h4=>cases hx with|msl hp=>exact .msl (by simp only [G']; rw [upd_other _ _ hp]; exact h2) h3 h4
  | fn hl _ ih=>cases hx with|fn hp=>exact .fn hl fun i h1 h2=>ih i h1 h2 (hp _ (List.getElem_mem h1))
  | agg hl _ hone ih=>cases hx with|agg hp=>exact .agg hl (fun i h1 h2=>ih i h1 h2 (hp _ (List.getElem_mem h1))) hone
  | tup hl _ ih=>cases hx with|tup hp=>exact .tup hl fun i h1 h2=>ih i h1 h2 (hp _ (List.getElem_mem h1))
  | ex h2=>exact .ex h2
  | stk h2=>exact .stk h2
  | que h2 h3=>exact .que h2 h3
  | mp h2=>exact .mp h2
  | mpd h2=>exact .mpd h2
 have hto:∀ {x y:AV} {v:Value},SeTo nt (cx.base+s) sz es x y→RV G w x v→RV G' w y v:=by
  intro x y v hxy;induction hxy generalizing v with
  | bot=>exact fun _=>.bot
  | same h=>exact hok h
  | msl =>
   intro h;generalize hq:(AV.msl (cx.base+s) 0 es.length sz)=q at h;cases h with
   | msl h1 h2 h3 =>
    cases hq;rw [hbk] at h1;cases h1;refine .ex ⟨by simp only [G']; omega,⟨_,_,_,rfl⟩,fun x hx=>?_⟩;simp only [G',←hgnt,upd_same,Option.some.injEq] at hx;subst hx;rw [rowsD_flat] at hR;have hlen:es.flatten.length=cs.toList.length:=by have:=hR.1; rw [List.length_map] at this; exact this
    refine ⟨b,_,cs,e,rfl,by simp,h2,h3,by simp [G',upd_same],hheap,hsz,hlen,fun i g1 g2=>?_,hone⟩;have h5:=hR.2 i (by rw [List.length_map]; exact g1) g2;simp only [List.getElem_map] at h5;cases h5 with
    | d h6=>exact h6.mono hcells
   | _=>cases hq
  | agg hl _ ih =>
   intro h;cases h with
   | agg hl' hh hone=>exact .agg (hl.symm.trans hl') (fun i h1 h2=>ih i (by omega) h1 (hh i (by omega) h2)) hone
 have hRVs:∀ {xs ys:List AV} {vs:List Value},SeR nt (cx.base+s) sz es xs ys→RVs G w xs vs→RVs G' w ys vs:=fun h hr=>⟨h.1.symm.trans hr.1,fun i h1 h2=>hto (h.2 i (by rw [h.1]; exact h1) h1) (hr.2 i _ h2)⟩
 refine ⟨G',⟨hS.defers,hS.size,fun i=>hto (hl.at i) (hS.tmps i),?_⟩,?_,?_⟩
 ·constructor
  case box =>
   intro k rows b' z hk hb';have e1:k≠cx.base+s:=fun e=>by
    subst e;simp only at hk;rw [lb_at,hk'] at hk; cases hk
   simp only [G'] at hb';rw [upd_other _ _ e1] at hb';have hbne:b'≠b:=fun e=>by subst e; exact e1 (hm.inj _ _ _ _ _ hb' hbk)
   by_cases hkb:k<cx.base
   ·simp only at hk;rw [lb_out hkb] at hk;obtain ⟨g1,cs',e',g2,g3,g4,g5⟩:=hm.box k rows b' z (by simp only; rw [lb_out hkb]; exact hk) hb';refine ⟨by simp only [G']; rw [upd_other _ _ hbne]; exact g1,cs',e',g2,g3,⟨g4.1,fun i h1 h2=>?_⟩,g5⟩;have hmem:rows.flatten[i]∈rows.flatten:=List.getElem_mem _
    obtain ⟨q,hq,hxq⟩:=List.mem_flatten.1 hmem;have hG0:G0.bx k≠none:=by rw [←hL.1.bx k hkb,hb']; simp
    have:=he k rows hkb (by rw [←ho]; exact hk) hG0 q hq _ hxq
    exact hok (this.imp (fun j hj=>by omega) fun _ _=>trivial) (g4.2 i h1 h2)
   ·have hkk:k=cx.base+(k - cx.base):=by omega
    simp only at hk;rw [hkk,lb_at] at hk;rcases hb.at (k - cx.base) with ⟨_,h2⟩|⟨r0,r',h1,h2,h3⟩
    ·rw [h2] at hk; cases hk
    ·rw [h2] at hk;cases hk;obtain ⟨g1,cs',e',g2,g3,g4,g5⟩:=hm.box k r0 b' z (by simp only; rw [hkk,lb_at,lk_cons,if_neg (by omega)]; exact h1) hb';refine ⟨by simp only [G']; rw [upd_other _ _ hbne]; exact g1,cs',e',g2,fun q hq=>?_,hRVs h3.flat g4,g5⟩;obtain ⟨i,hi,rfl⟩:=List.getElem_of_mem hq;have hi0:i<r0.length:=by rw [h3.1]; exact hi
     rw [←(h3.2 i hi0 hi).1];exact g3 _ (List.getElem_mem _)
  case nobox =>
   intro k hk;simp only [G'];by_cases e1:k=cx.base+s
   ·subst e1; simp [upd_same]
   ·rw [upd_other _ _ e1];refine hm.nobox k ?_;simp only at hk ⊢;by_cases hkb:k<cx.base
    ·rw [lb_out hkb] at hk ⊢; exact hk
    ·have hkk:k=cx.base+(k - cx.base):=by omega
     rw [hkk,lb_at] at hk ⊢;rw [lk_cons,if_neg (by omega)];rcases hb.at (k - cx.base) with ⟨h1,_⟩|⟨r0,r',_,h2,_⟩
     ·exact h1
     ·rw [h2] at hk; cases hk
  case inj =>
   intro j j' b' z z' hj hj';simp only [G'] at hj hj';by_cases e1:j=cx.base+s
   ·subst e1; simp [upd_same] at hj
   ·by_cases e2:j'=cx.base+s
    ·subst e2; simp [upd_same] at hj'
    ·rw [upd_other _ _ e1] at hj; rw [upd_other _ _ e2] at hj';exact hm.inj j j' b' z z' hj hj'
  case nb =>
   intro k hk;have h0:=hm.nb k hk;simp only at h0 ⊢;by_cases hkb:k<cx.base
   ·rw [lb_out hkb] at h0 ⊢; exact h0
   ·have hkk:k=cx.base+(k - cx.base):=by omega
    rw [hkk,lb_at] at h0 ⊢;by_cases e1:k - cx.base=s
    ·rw [e1]; exact hk'
    ·rw [lk_cons,if_neg e1] at h0;rcases hb.at (k - cx.base) with ⟨_,h2⟩|⟨r0,r',h1,_,_⟩
     ·exact h2
     ·rw [h1] at h0; cases h0
  case nt=>simp only [G']; rw [hgnt]
  case toks =>
   intro q hq;simp only at hq;by_cases e1:q=nt
   ·subst e1;exact ⟨Nat.lt_succ_self _,_,by simp only [G']; rw [hgnt,upd_same]⟩
   ·rw [upd_other _ _ e1] at hq;obtain ⟨h1,y,h2⟩:=hm.toks q hq;exact ⟨Nat.lt_succ_of_lt h1,y,by simp only [G']; rw [hgnt,upd_other _ _ e1]; exact h2⟩
  case tokb =>
   intro q j hq;simp only [G'] at hq;by_cases e1:q=G.nt
   ·subst e1;rw [upd_same] at hq;cases hq;exact ⟨0,cs,_,.inr (by simp [G',upd_same]),hheap⟩
   ·rw [upd_other _ _ e1] at hq;obtain ⟨f,cur,e',g1,g2⟩:=hm.tokb q j hq;refine ⟨f,cur,e',?_,g2⟩;simp only [G'];rw [upd_other _ _ (hne hq)];exact g1
  case tinj =>
   intro q q' j hq hq';simp only [G'] at hq hq';by_cases e1:q=G.nt <;> by_cases e2:q'=G.nt
   ·exact e1.trans e2.symm
   ·subst e1;rw [upd_same] at hq; rw [upd_other _ _ e2] at hq';cases hq;exact absurd rfl (hne hq')
   ·subst e2;rw [upd_same] at hq'; rw [upd_other _ _ e1] at hq;cases hq'
    exact absurd rfl (hne hq)
   ·rw [upd_other _ _ e1] at hq; rw [upd_other _ _ e2] at hq';exact hm.tinj q q' j hq hq'
  case tnt =>
   intro q y hq;simp only [G'] at hq ⊢;by_cases e1:q=G.nt
   ·omega
   ·rw [upd_other _ _ e1] at hq;have:=hm.tnt q y hq
    omega
  case glob=>exact hm.glob.mono hle.cells fun g hg hk=>hle.whole g hg hk
  case fresh =>
   intro b' hb';have:=heap_lt hheap
   simp only [G'];rw [upd_other _ _ (by omega)];exact hm.fresh b' hb'
 ·refine hL.1.trans ⟨rfl,rfl,rfl,Nat.le_refl _,hle.whole,hle.part,fun k hk=>?_,hle.nt,hle.tk,hle.ty⟩;simp only [G'];exact upd_other _ _ (by omega)
 ·intro k hkb hg;have:=hL.2 k hkb hg
  simp only at this ⊢;rw [lb_out hkb] at this ⊢;exact this
section
variable {t k sz:Nat} {es:List (List D)}
@[simp] theorem thTo_bot (x:AV):ThTo t k sz es x .bot:=.bot
@[simp] theorem thTo_same (x:AV):ThTo t k sz es x x:=.same
@[simp] theorem thTo_ex {n:Nat}:ThTo t k sz es (.ex t sz es) (.msl k 0 n sz)↔n=es.length:=⟨fun h=>by cases h; rfl,fun h=>by subst h; exact .ex⟩
@[simp] theorem seTo_bot (x:AV):SeTo t k sz es x .bot:=.bot
@[simp] theorem seTo_d (x:D):SeTo t k sz es (.d x) (.d x):=.same .d
@[simp] theorem seTo_osl (n:Nat) (xs:List (List D)) (o:Own):SeTo t k sz es (.osl n xs o) (.osl n xs o):=.same (.osl fun _ _=>trivial)
@[simp] theorem seTo_msl:SeTo t k sz es (.msl k 0 es.length sz) (.ex t sz es):=.msl
end
@[simp] theorem to_ex {p:Nat→Prop} {fz:Option (Nat × Nat × List (List D))} (t sz:Nat) (es:List (List D)):To p (fun _=>True) fz (.ex t sz es) (.ex t sz es):=.same (.ex trivial)
@[simp] theorem okIn_ex {p q:Nat→Prop} {t sz:Nat} {es:List (List D)}:OkIn p q (.ex t sz es)↔q t:=⟨fun h=>by cases h; assumption,.ex⟩
theorem TK.more {mtok:Nat→Bool} {nt0:Nat} {tok:Nat→Bool} {nt:Nat} {os:List Own} (h:TK mtok nt0 tok nt os) (q:Nat):TK mtok nt0 (upd tok (nt+q) true) (nt+q+1) (.tok (nt+q)::os):=by
 have hle:=h.le;refine ⟨fun t ht=>?_,h.lt,by omega,fun o ho t e=>?_,List.pairwise_cons.2 ⟨fun o ho t e e'=>?_,h.ne⟩⟩
 ·have:=h.lt t ht
  rw [upd_other _ _ (by omega)];exact h.old t ht
 ·rcases List.mem_cons.1 ho with rfl|ho
  ·cases e;exact ⟨upd_same _ _ _,by omega,by omega⟩
  ·obtain ⟨h1,h2,h3⟩:=h.own o ho t e;exact ⟨by rw [upd_other _ _ (by omega)]; exact h1,h2,by omega⟩
 ·cases e;have:=(h.own o ho _ e').2.2
  omega
theorem TK.spend {mtok:Nat→Bool} {nt0:Nat} {tok:Nat→Bool} {nt t:Nat} {os:List Own} (h:TK mtok nt0 tok nt (.tok t::os)):TK mtok nt0 (upd tok t false) nt os:=by
 have hp:=List.pairwise_cons.1 h.ne;obtain ⟨_,t1,t2⟩:=h.own _ (by simp) t rfl;refine ⟨fun q hq=>?_,h.lt,h.le,fun o ho q e=>?_,hp.2⟩
 ·have:=h.lt q hq
  rw [upd_other _ _ (by omega)];exact h.old q hq
 ·obtain ⟨h1,h2,h3⟩:=h.own o (by simp [ho]) q e;refine ⟨?_,h2,h3⟩;rw [upd_other _ _ (fun e2=>by subst e2; exact hp.1 o ho q rfl e)];exact h1
abbrev U (n:Int):AV:=.d (.raw (.int .u64 n))
theorem u64_in {n:Int} (h0:0≤n) (h1:n≤18446744073709551615):IntKind.u64.wrap n=n:=by
 exact IntWalk.u64_in n ⟨h0,h1⟩
theorem and32 {x:Nat} (h:x≤1000000):IntKind.u64.wrap ↑(x % 2 ^ IntKind.u64.bits &&& 4294967295 % 2 ^ IntKind.u64.bits)=x:=by
 have e1:x % 2 ^ IntKind.u64.bits=x:=Nat.mod_eq_of_lt (by show x<2 ^ 64; omega)
 have e2:4294967295 % 2 ^ IntKind.u64.bits=2 ^ 32 - 1:=by decide
 rw [e1,e2,Nat.and_two_pow_sub_one_eq_mod,Nat.mod_eq_of_lt (by omega)];exact u64_in (by omega) (by omega)
theorem shr32 {x:Nat} (h:x≤1000000):(x:Int).fdiv (2 ^ min 32 IntKind.u64.bits)=0:=by
 have e:(2:Int) ^ min 32 IntKind.u64.bits=4294967296:=by decide
 rw [e,Int.fdiv_eq_ediv_of_nonneg _ (by omega)];omega
theorem mul98_c (x y:Nat) (hx:x≤1000000) (hy:y≤1000000) (hxy:x * y≤1000000) (tok:Tks) (nt:Nat):DCall Tryz.prog 309 [U x,U y] tok nt (.tup [U 0,U (x * y:Nat)]) tok nt:=by
 intro box nb;have z0:IntKind.u64.wrap 0=0:=u64_in (by omega) (by omega)
 have w0:IntKind.u64.wrap ((x:Int) * y)=((x * y:Nat):Int):=by
  have:(x:Int) * y=((x * y:Nat):Int):=by simp
  rw [this]; exact u64_in (by omega) (by omega)
 have sx:=shr32 hxy;generalize x * y=p at *;refine sI Tryz.func309 Tryz.ntmps309 fun hbox htok=>?_
 refine sR ?_;simp;refine sR ?_;simp [and32 hx];refine sR ?_;simp [shr32 hx];refine sR ?_;simp [and32 hy];refine sR ?_;simp [shr32 hy];refine sR ?_;simp [w0];refine sR ?_;simp [sx,z0];refine sR ?_;simp [z0];refine sR ?_;simp [z0];refine sR ?_;simp [w0,sx,z0];refine sR ?_;simp [z0];refine sR ?_;simp [w0];refine sT (sH hbox htok ?_);simp [packA]
theorem mul92_c (x y:Nat) (hx:x≤1000000) (hy:y≤1000000) (hxy:x * y≤1000000) (tok:Tks) (nt:Nat):DCall Tryz.prog 287 [U x,U y] tok nt (.tup [U 0,U (x * y:Nat)]) tok nt:=by
 intro box nb;have c98:=fun tok nt=>mul98_c x y hx hy hxy tok nt
 have wx:IntKind.u64.wrap (x:Int)=x:=u64_in (by omega) (by omega)
 have wy:IntKind.u64.wrap (y:Int)=y:=u64_in (by omega) (by omega)
 have wp:IntKind.u64.wrap ((x * y:Nat):Int)=((x * y:Nat):Int):=u64_in (by omega) (by omega)
 have z0:IntKind.u64.wrap 0=0:=u64_in (by omega) (by omega)
 generalize x * y=p at *;refine sI Tryz.func287 Tryz.ntmps287 fun hbox htok=>?_
 refine sR ?_;simp;refine sC ?_;simp;refine sR ?_;simp [wx,wy];refine Stop.of_d (c98 _ _) ?_;simp [wx,wy,z0,wp];refine sR ?_;simp [z0,wp];refine sT (sH hbox htok ?_);simp [packA]
def repK (v:Int) (n:Nat) (i:Nat):List Int:=List.replicate i v++List.replicate (n - i) 0
theorem repK_len (v:Int) {n i:Nat} (h:i≤n):(repK v n i).length=n:=by simp [repK]; omega
theorem rowsI_append (a b:List Int):rowsI (a++b)=rowsI a++rowsI b:=by simp [rowsI]
theorem rowsI_rep (v:Int) (n:Nat):rowsI (List.replicate n v)=List.replicate n [AV.d (.raw (.int .i64 v))]:=by simp [rowsI]
@[simp] theorem rowsI_tail (l:List Int):(rowsI l).tail=rowsI l.tail:=by simp [rowsI]
theorem repK_one (v:Int) {n:Nat} (h:0<n):rowsI (repK v n 1)=[AV.d (.raw (.int .i64 v))]::List.drop 1 (rowsI (List.replicate n 0)):=by
 simp only [repK,rowsI_append,rowsI_rep,List.drop_replicate];rfl
theorem repK_more (v:Int) {n i m:Nat} (h1:i+m≤n) (h2:m≤i):rowsI (repK v n (i+m))=List.take i (rowsI (repK v n i))++(List.take m (List.take i (rowsI (repK v n i)))++List.drop (i+m) (rowsI (repK v n i))):=by
 have e1:List.take i (rowsI (repK v n i))=List.replicate i [AV.d (.raw (.int .i64 v))]:=by
  simp only [repK,rowsI_append,rowsI_rep];rw [List.take_append_of_le_length (by simp),List.take_of_length_le (by simp)]
 have e2:List.drop (i+m) (rowsI (repK v n i))=List.replicate (n - (i+m)) [AV.d (.raw (.int .i64 0))]:=by
  simp only [repK,rowsI_append,rowsI_rep];rw [List.drop_append,List.drop_eq_nil_of_le (by simp),List.drop_replicate,List.nil_append];congr 1
  simp only [List.length_replicate];omega
 rw [e1,e2,List.take_replicate,Nat.min_eq_left h2];simp only [repK,rowsI_append,rowsI_rep,←List.append_assoc,List.replicate_append_replicate]
theorem repK_all (v:Int) (n:Nat):repK v n n=List.replicate n v:=by simp [repK]
def stRep (v:Int) (n:Nat) (nb:Nat) (box:Bxs) (tok:Tks) (nt:Nat) (i:Nat):AState :=
 ⟨tl [(7,.msl (nb+30) 0 n 1),(8,I i)],lb nb box [(30,rowsI (repK v n i))],tok,nt⟩
theorem repeat85_c (v:Int) (n:Nat) (hn:n≤1000000) (tok:Tks) (nt:Nat):DCall Tryz.prog 241 [.d (ints [v]),I n] tok nt (.ex nt 1 (rI (List.replicate n v))) (upd tok nt true) (nt+1):=by
 intro box nb;have c92:=fun tok nt=>mul92_c 1 n (by omega) hn (by omega) tok nt
 have wn:IntKind.u64.wrap (n:Int)=n:=u64_in (by omega) (by omega)
 have w1:IntKind.u64.wrap 1=1:=u64_in (by omega) (by omega)
 have wi:IntKind.i64.wrap (n:Int)=n:=wrap_in (by omega) (by omega)
 have hneg:¬ (n:Int)<0:=by omega
 have hbig:¬ (9223372036854775807:Int)<n:=by omega
 simp only [Nat.one_mul,Int.natCast_one] at c92;refine sI Tryz.func241 Tryz.ntmps241 fun hbox htok=>?_
 refine sR ?_;simp;refine sR ?_;simp;refine sC ?_;simp [hneg];refine sR ?_;simp [wn,w1];refine Stop.of_d (c92 _ _) ?_;simp;refine sR ?_;simp [hbig];refine sC ?_;simp;refine sR ?_;simp [wi];refine ⟨by omega,?_⟩;have fin:∀ S,S.tmps=tl [(7,.msl (nb+30) 0 n 1)]→S.box=lb nb box [(30,rowsI (List.replicate n v))]→S.tok=tok→S.nt=nt→Trans ⟨nb,nb+48,48,box⟩ nt S ⟨tl [(7,.ex nt 1 (rI (List.replicate n v)))],lb nb box [],upd tok nt true,nt+1⟩:=by
  rintro ⟨t,b,k,m⟩ h1 h2 h3 h4;simp only at h1 h2 h3 h4;subst h1; subst h2; subst h3; subst h4;rw [rowsI_eq];exact Trans.seal (cx:=⟨nb,nb+48,48,box⟩) 30 1 (rI (List.replicate n v)) 7 rfl (Nat.le_refl _) (by simp) (by simp) rfl ⟨rfl,by
   have:n=(rI (List.replicate n v)).length:=by simp
   conv=>lhs; rw [this]
   exact .msl,trivial⟩ trivial
 by_cases h0:n=0
 ·subst h0;refine sR ?_;simp;refine sN ?_;refine AL.loopT (stRep v 0 nb box tok nt) (fun i=>i=0) (fun i=>0) 0 rfl (Weaks.mk (Nat.le_refl _) rfl (by simp [ToL]) (by simp [BoxL,lk,repK])) ?_;rintro i S hi hS;subst hi;simp only [stRep] at hS;subst hS;refine sR ?_;simp;refine sC ?_;simp;refine sX ?_;simp only [AU, ↓reduceIte];refine AL.weak (Weaks.mk (l':=[(7,.msl (nb+30) 0 0 1)]) (loc':=[(30,rowsI (List.replicate 0 v))]) (Nat.le_refl _) rfl (by simp [ToL,lk]) (by simp [BoxL,lk,repK])) ?_;refine AL.trans (fin _ rfl rfl rfl rfl) ?_;refine sR ?_;simp;refine sT ?_;try simp only [AU]
  refine ⟨by simp,Fin.own (by simp [resAs,resA]; rfl) hbox rfl (Nat.le_succ _) ?_⟩;simp [packA]
 ·have hm1:min 1 n=1:=by omega
  refine sR ?_;simp [hm1];refine sN ?_;refine AL.loopT (stRep v n nb box tok nt) (fun i=>0<i∧i≤n) (fun i=>n - i) 1 ⟨by omega,by omega⟩ (Weaks.mk (Nat.le_refl _) rfl (by simp [ToL]) (by simp [BoxL,lk,repK_one v (Nat.pos_of_ne_zero h0)])) ?_;rintro i S ⟨hi0,hi⟩ hS;simp only [stRep] at hS;subst hS;have hlen:=repK_len v hi;refine sR ?_;simp;refine sC ?_;simp;refine ⟨fun hlt=>?_,fun hge=>?_⟩
  ·have hmin:min i (n - i)≤i:=Nat.min_le_left _ _
   have hmin2:i+min i (n - i)≤n:=by omega
   have hmp:0<min i (n - i):=by omega
   have hR:=repK_more v hmin2 hmin;have hwa:IntKind.i64.wrap ((i:Int)+(min i (n - i):Nat))=((i+min i (n - i):Nat):Int):=by rw [wrap_in (by omega) (by omega)]; rfl
   refine sR ?_;simp [hlen];refine ⟨⟨by omega,by omega⟩,by omega,⟨by omega,by omega⟩,?_⟩;generalize min i (n - i)=m at *;rw [hwa];refine sE ?_;refine ⟨i+m,⟨by omega,hmin2⟩,by omega,Weaks.mk (Nat.le_refl _) rfl (by simp [ToL,lk]) (by simp [BoxL,lk,←hR])⟩
  ·refine sX ?_;simp only [AU, ↓reduceIte];have:i=n:=by omega
   subst this;rw [repK_all];refine AL.weak (Weaks.mk (l':=[(7,.msl (nb+30) 0 i 1)]) (loc':=[(30,rowsI (List.replicate i v))]) (Nat.le_refl _) rfl (by simp [ToL,lk]) (by simp [BoxL,lk])) ?_;refine AL.trans (fin _ rfl rfl rfl rfl) ?_;refine sR ?_;simp;refine sT ?_;try simp only [AU]
   refine ⟨by simp,Fin.own (by simp [resAs,resA]; rfl) hbox rfl (Nat.le_succ _) ?_⟩;simp [packA]
def z0 (n:Int):Bool:=n==0
variable {P:Program}
open Go Go.Proofs Go.RowKit
end Go.AM
