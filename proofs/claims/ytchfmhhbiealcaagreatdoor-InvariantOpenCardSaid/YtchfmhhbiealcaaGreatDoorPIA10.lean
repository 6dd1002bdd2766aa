/-
 Parts of the proof, as merged from many texts: a machine over data, what the functions compute, plain laws.
-/
import Derived.Test.YtchfmhhbiealcaaGreatDoorPIA9
import Derived.Shelf.Spec.SlicesGrow
import Derived.Deep.AppendLies
import Derived.WalkKit
import Derived.ProofKit
import Derived.OpenShut
import Derived.ChangeStays
import Derived.SizedLaws
set_option linter.unusedSimpArgs false
set_option linter.unusedVariables false
namespace Go.AM
open Go Go.Proofs
open Go.Proofs.Tryz
def kO(images keep:List Int)(i:Nat):List Int:=((List.range i).filter fun (i:Nat)=>decide ((i:Int)∉keep)).map fun (i:Nat)=>images.getD i 0
theorem pN(images keep:List Int):kO images keep 0=[]:=rfl
theorem oZ(images keep:List Int)(i:Nat):kO images keep (i+1)=if (i:Int)∈keep then kO images keep i else kO images keep i++[images.getD i 0]:=by
 unfold kO;rw[List.range_succ,List.filter_append,List.map_append];by_cases h:(i:Int)∈keep
 .simp[h]
 .simp[h]
theorem oB(images keep:List Int)(i:Nat):(kO images keep i).length<=i:=by
 unfold kO;rw[List.length_map];have:=List.length_filter_le (fun (i:Nat)=>decide ((i:Int)∉keep)) (List.range i)
 simpa using this
def aHZ(images keep:List Int)(nb:Nat)(box:Bxs)(x:Acc):AS:=⟨tl [(0,.d (ints images)),(1,.d (ints keep)),(5,.osl 1 (rI (kO images keep x.i)) x.own),(6,I x.i)],lb nb box [],x.tok,x.nt⟩
theorem xH(images keep:List Int)(h1:images.length<=1000000)(h2:keep.length<=1000000):DC 212 [.d (ints images),.d (ints keep)] (.d (ints (bY images keep))):=by
 intro tok nt box nb;have hh:=fun v=>uJ keep v h2
 refine sI func212 ntmps212 fun Hb Ht=>?_
 repeat first|simp|refine sR ?_
 refine sN ?_;refine sL (aHZ images keep nb box) (fun x=>x.i<=images.length/\TK tok nt x.tok x.nt [x.own]) (fun x=>images.length-x.i) ⟨0,.full,tok,nt⟩ ⟨Nat.zero_le _,(TK.start Ht).full⟩ (wM (nr0 _) rfl (by simp[ToL,lk,pN]) trivial) ?_;rintro⟨i,own,tok',nt'⟩ S ⟨hi,htk⟩ hS;simp only[aHZ] at hS hi htk;subst hS;have hw:=sW (i:=i) (by omega);have hsc:=oZ images keep i;have hlen:=oB images keep i;repeat first|simp|refine sR ?_|refine sC ?_
 refine⟨fun hlt=>?_,fun hge=>?_⟩
 .have hg:images.getD i 0=images[i]:=by simp[hlt]
  rw[hg] at hsc;repeat first|simp|refine sR ?_
  refine sD (hh _ _ _) ?_;simp;by_cases hm:(i:Int)∈keep
  .rw[if_pos hm] at hsc;simp only[hm];repeat first|simp[hw]|refine sR ?_|refine sC ?_
   refine sE ?_;exact⟨⟨i+1,own,tok',nt'⟩,⟨hlt,htk⟩,by simp only;omega,wM htk.le rfl (by simp[ToL,lk,hsc]) trivial⟩
  .rw[if_neg hm] at hsc;simp only[hm];repeat first|simp[hlt]|refine sR ?_|refine sC ?_
   refine⟨⟨by omega,htk.live⟩,?_⟩;repeat first|simp[hw]|refine sR ?_
   refine sE ?_;exact⟨⟨i+1,_,_,_⟩,⟨hlt,htk.app⟩,by simp only;omega,wM htk.app.le rfl (by simp[ToL,lk,hsc]) trivial⟩
 .refine sX ?_;simp only[AU,↓reduceIte];have:i=images.length:=by omega
  subst this;repeat first|simp|refine sR ?_
  have e:bY images keep=kO images keep images.length:=rfl
  refine sT (sG Hb Ht htk.old htk.le ?_);simp[e]
def mQ(n:Nat)(l:List Int):List Int:=((List.range n).filter fun (k:Nat)=>decide ((k:Int)∉l)).map fun (k:Nat)=>(k:Int)
theorem xJ(l:List Int)(i:Nat):mQ (i+1) l=if (i:Int)∈l then mQ i l else mQ i l++[(i:Int)]:=by
 unfold mQ;rw[List.range_succ,List.filter_append,List.map_append];by_cases h:(i:Int)∈l
 .simp[h]
 .simp[h]
theorem zF(n:Nat)(l:List Int):(mQ n l).length<=n:=by
 unfold mQ;rw[List.length_map];have:=List.length_filter_le (fun (k:Nat)=>decide ((k:Int)∉l)) (List.range n)
 simpa using this
theorem vC(l:List Int):mQ 0 l=[]:=rfl
def aHi(n:Nat)(l:List Int)(nb:Nat)(box:Bxs)(x:Acc):AS:=⟨tl [(0,I n),(1,.d (ints l)),(5,.osl 1 (rI (mQ x.i l)) x.own),(6,I x.i)],lb nb box [],x.tok,x.nt⟩
theorem aC8(n:Nat)(l:List Int)(h1:n<=1000000)(h2:l.length<=1000000):DC 211 [I n,.d (ints l)] (.d (ints (mQ n l))):=by
 intro tok nt box nb;have hh:=fun v=>uJ l v h2
 refine sI func211 ntmps211 fun Hb Ht=>?_
 repeat first|simp|refine sR ?_
 refine sN ?_;refine sL (aHi n l nb box) (fun x=>x.i<=n/\TK tok nt x.tok x.nt [x.own]) (fun x=>n-x.i) ⟨0,.full,tok,nt⟩ ⟨Nat.zero_le _,(TK.start Ht).full⟩ (wM (nr0 _) rfl (by simp[ToL,lk,vC]) trivial) ?_;rintro⟨i,own,tok',nt'⟩ S ⟨hi,htk⟩ hS;simp only[aHi] at hS hi htk;subst hS;have hw:=sW (i:=i) (by omega);have hsc:=xJ l i;have hlen:=zF i l;repeat first|simp|refine sR ?_|refine sC ?_
 refine⟨fun hlt=>?_,fun hge=>?_⟩
 .repeat first|simp|refine sR ?_
  refine sD (hh _ _ _) ?_;simp;by_cases hm:(i:Int)∈l
  .rw[if_pos hm] at hsc;simp only[hm];repeat first|simp[hw]|refine sR ?_|refine sC ?_
   refine sE ?_;exact⟨⟨i+1,own,tok',nt'⟩,⟨hlt,htk⟩,by simp only;omega,wM htk.le rfl (by simp[ToL,lk,hsc]) trivial⟩
  .rw[if_neg hm] at hsc;simp only[hm];repeat first|simp|refine sR ?_
   refine sC ?_;repeat first|simp|refine sR ?_
   refine⟨⟨by omega,htk.live⟩,?_⟩;repeat first|simp[hw]|refine sR ?_
   refine sE ?_;exact⟨⟨i+1,_,_,_⟩,⟨hlt,htk.app⟩,by simp only;omega,wM htk.app.le rfl (by simp[ToL,lk,hsc]) trivial⟩
 .refine sX ?_;simp only[AU,↓reduceIte];have:i=n:=by omega
  subst this;repeat first|simp|refine sR ?_
  refine sT (sG Hb Ht htk.old htk.le ?_);simp
def lT(g:Gr)(keep m:Mo)(i:Nat):Bool:=decide ((i:Int)∉m.edges/\((g.edges.getD i default).fr∈bY m.nodes keep.nodes∨(g.edges.getD i default).to∈bY m.nodes keep.nodes))
def eL(g:Gr)(keep m:Mo)(n:Nat):List Int:=((List.range n).filter (lT g keep m)).map fun (k:Nat)=>(k:Int)
theorem wJ(g:Gr)(keep m:Mo)(i:Nat):eL g keep m (i+1)=if lT g keep m i=true then eL g keep m i++[(i:Int)] else eL g keep m i:=by
 unfold eL;rw[List.range_succ,List.filter_append,List.map_append];by_cases h:lT g keep m i=true
 .simp[h]
 .simp[h]
theorem zD(g:Gr)(keep m:Mo)(n:Nat):(eL g keep m n).length<=n:=by
 unfold eL;rw[List.length_map];have:=List.length_filter_le (lT g keep m) (List.range n)
 simpa using this
theorem aAg(g:Gr)(keep m:Mo):decide (0<(eL g keep m g.edges.length).length)=jF g keep m:=by
 rw[Bool.eq_iff_iff,decide_eq_true_eq,jF,List.any_eq_true,eL,List.length_map,List.length_pos_iff_exists_mem];constructor
 .rintro⟨k,hk⟩;have:=List.mem_filter.1 hk;exact⟨k,this.1,this.2⟩
 .rintro⟨k,h1,h2⟩;exact⟨k,List.mem_filter.2 ⟨h1,h2⟩⟩
theorem vX(g:Gr)(keep m:Mo):eL g keep m 0=[]:=rfl
def aH9(g:Gr)(keep m:Mo)(nb:Nat)(box:Bxs)(x:Acc):AS :=
 ⟨tl [(11,I x.i),(10,.d (ints (bY m.nodes keep.nodes))),(9,.osl 1 (rI (eL g keep m x.i)) x.own),(7,.ptr (nb+7) 0 0),(5,.ptr (nb+5) 0 0)],lb nb box [(7,[[.d (ints m.nodes),.d (ints m.edges)]]),(5,[[.d (ints g.nodes),.d (AM.edges g.edges)]])],x.tok,x.nt⟩
theorem aA4(l g:Gr)(keep m:Mo)(hg:g.Fit)(hm:m.Fit)(hk:keep.Fit):DC 210 [l.av,g.av,keep.av,m.av] (.d (ints (eL g keep m g.edges.length))):=by
 intro tok nt box nb;have hh:=fun v=>uJ m.edges v hm.e
 have hgo:=xH m.nodes keep.nodes hm.n hk.n;have hh2:=fun v=>uJ (bY m.nodes keep.nodes) v (by have:=oB m.nodes keep.nodes m.nodes.length;have:=hm.n;unfold bY;unfold kO at *;omega)
 refine sI func210 ntmps210 fun Hb Ht=>?_
 repeat first|simp|refine sR ?_
 refine sD (hgo _ _) ?_;repeat first|simp|refine sR ?_
 refine sN ?_;have hge:=hg.e;refine sL (aH9 g keep m nb box) (fun x=>x.i<=g.edges.length/\TK tok nt x.tok x.nt [x.own]) (fun x=>g.edges.length-x.i) ⟨0,.full,tok,nt⟩ ⟨Nat.zero_le _,(TK.start Ht).full⟩ (wM (nr0 _) rfl (by simp[ToL,lk,vX]) (by simp[aC,lk])) ?_;rintro⟨i,own,tok',nt'⟩ S ⟨hi,htk⟩ hS;simp only[aH9] at hS hi htk;subst hS;have hw:=sW (i:=i) (by omega);have hsc:=wJ g keep m i;have hlen:=zD g keep m i;repeat first|simp|refine sR ?_|refine sC ?_
 refine⟨fun hlt=>?_,fun hge=>?_⟩
 .have hg1:g.edges.getD i default=g.edges[i]:=by simp[hlt]
  have hP:lT g keep m i=(decide ((i:Int)∉m.edges)&&(decide (g.edges[i].fr∈bY m.nodes keep.nodes)||decide (g.edges[i].to∈bY m.nodes keep.nodes))):=by unfold lT;rw[hg1];simp
  have no:lT g keep m i=false->eL g keep m (i+1)=eL g keep m i:=fun h=>by rw[hsc,if_neg (by simp[h])]
  have yes:lT g keep m i=true->eL g keep m (i+1)=eL g keep m i++[(i:Int)]:=fun h=>by rw[hsc,if_pos h]
  repeat first|simp|refine sR ?_
  refine sD (hh _ _ _) ?_;simp;by_cases hm:(i:Int)∈m.edges
  .have no:=no (by rw[hP];simp[hm]);simp only[hm];repeat first|simp[hw]|refine sR ?_|refine sC ?_
   refine sE ?_;exact⟨⟨i+1,own,tok',nt'⟩,⟨hlt,htk⟩,by simp only;omega,wM htk.le rfl (by simp[ToL,lk,no]) (by simp[aC,lk])⟩
  .simp only[hm];repeat first|simp[hlt]|refine sR ?_
   refine sD (hh2 _ _ _) ?_;simp;by_cases h1:g.edges[i].fr∈bY m.nodes keep.nodes
   .have yes:=yes (by rw[hP];simp[hm,h1]);simp only[h1];repeat first|simp|refine sR ?_
    refine sC ?_;repeat first|simp|refine sR ?_
    refine⟨⟨by omega,htk.live⟩,?_⟩;repeat first|simp[hw]|refine sR ?_
    refine sE ?_;exact⟨⟨i+1,_,_,_⟩,⟨hlt,htk.app⟩,by simp only;omega,wM htk.app.le rfl (by simp[ToL,lk,yes]) (by simp[aC,lk])⟩
   .simp only[h1];repeat first|simp[hlt]|refine sR ?_
    refine sD (hh2 _ _ _) ?_;simp;by_cases h2:g.edges[i].to∈bY m.nodes keep.nodes
    .have yes:=yes (by rw[hP];simp[hm,h2]);simp only[h2];repeat first|simp|refine sR ?_
     refine sC ?_;repeat first|simp|refine sR ?_
     refine⟨⟨by omega,htk.live⟩,?_⟩;repeat first|simp[hw]|refine sR ?_
     refine sE ?_;exact⟨⟨i+1,_,_,_⟩,⟨hlt,htk.app⟩,by simp only;omega,wM htk.app.le rfl (by simp[ToL,lk,yes]) (by simp[aC,lk])⟩
    .have no:=no (by rw[hP];simp[hm,h1,h2]);simp only[h2];repeat first|simp[hw]|refine sR ?_|refine sC ?_
     refine sE ?_;exact⟨⟨i+1,own,tok',nt'⟩,⟨hlt,htk⟩,by simp only;omega,wM htk.le rfl (by simp[ToL,lk,no]) (by simp[aC,lk])⟩
 .refine sX ?_;simp only[AU,↓reduceIte];have:i=g.edges.length:=by omega
  subst this;repeat first|simp|refine sR ?_
  refine sT (sG Hb Ht htk.old htk.le ?_);simp
def aII(images keep:List Int)(nb:Nat)(box:Bxs)(tok:Tks)(nt:Nat)(i:Nat):AS:=⟨tl [(0,.d (ints images)),(1,.d (ints keep)),(5,.osl 0 [] .full),(6,I i)],lb nb box [],tok,nt⟩
def aFN(images keep:List Int)(i:Nat)(nb:Nat)(box:Bxs)(tok:Tks)(nt:Nat)(k:Nat):AS:=⟨tl [(0,.d (ints images)),(1,.d (ints keep)),(5,.osl 0 [] .full),(6,I i),(7,I k)],lb nb box [],tok,nt⟩
theorem mD(images keep:List Int)(h1:images.length<=1000000)(h2:keep.length<=1000000)(hn:images.Nodup):DC 209 [.d (ints images),.d (ints keep)] (.d (.sl 2 [])):=by
 intro tok nt box nb;refine sI func209 ntmps209 fun Hb Ht=>?_
 repeat first|simp|refine sR ?_
 refine sN ?_;refine sL (aII images keep nb box tok nt) (fun i=>i<=images.length) (fun i=>images.length-i) 0 (Nat.zero_le _) (wM (nr0 _) rfl (by simp[ToL,lk]) trivial) ?_;rintro i S hi hS;simp only[aII] at hS;subst hS;have hw:=sW (i:=i) (by omega);repeat first|simp|refine sR ?_|refine sC ?_
 refine⟨fun hlt=>?_,fun hge=>?_⟩
 .repeat first|simp[hw]|refine sR ?_
  refine sN ?_;refine sL (aFN images keep i nb box tok nt) (fun k=>i<k/\k<=images.length) (fun k=>images.length-k) (i+1) ⟨Nat.lt_succ_self _,hlt⟩ (wM (nr0 _) rfl (by simp[ToL,lk]) trivial) ?_;rintro k S ⟨hik,hk⟩ hS;simp only[aFN] at hS;subst hS;have hwk:=sW (i:=k) (by omega);repeat first|simp|refine sR ?_|refine sC ?_
  refine⟨fun hlk=>?_,fun hge=>?_⟩
  .have hne:(images[i]==images[k])=false:=by
    have:=List.pairwise_iff_getElem.1 hn i k hlt hlk hik
    simpa using this
   repeat first|simp[hlt,hlk,hne]|refine sR ?_
   refine sC ?_;simp;repeat first|simp[hwk]|refine sR ?_
   refine sE ?_;exact⟨k+1,⟨by omega,hlk⟩,by omega,wM (nr0 _) rfl (by simp[ToL,lk]) trivial⟩
  .refine sX ?_;simp only[AU,↓reduceIte];repeat first|simp[hw]|refine sR ?_
   refine sE ?_;exact⟨i+1,hlt,by omega,wM (nr0 _) rfl (by simp[ToL,lk]) trivial⟩
 .refine sX ?_;simp only[AU,↓reduceIte];repeat first|simp|refine sR ?_
  refine sT (sH Hb Ht ?_);simp
theorem aFQ(l g:Gr)(keep m:Mo)(hl:l.Fit)(hg:g.Fit)(hm:m.Fit)(hk:keep.Fit):DC 208 [l.av,g.av,keep.av,m.av] (I (if aG l g m≠0 then aG l g m else cR l keep)):=by
 intro tok nt box nb;have h1:=jX l g m hl hg;have h2:=nZ l keep hl hk;refine sI func208 ntmps208 fun Hb Ht=>?_
 repeat first|simp|refine sR ?_
 refine sD (h1 _ _) ?_;repeat first|simp|refine sR ?_
 by_cases e1:aG l g m=0
 .simp only[e1];refine sC ?_;repeat first|simp|refine sR ?_
  refine sD (h2 _ _) ?_;repeat first|simp|refine sR ?_
  refine sT (sH Hb Ht ?_);simp[e1]
 .have b1:(aG l g m != 0)=true:=by simp[e1]
  simp only[b1];refine sC ?_;repeat first|simp|refine sR ?_
  refine sT (sH Hb Ht ?_);simp[e1]
def uG(l g:Gr)(keep m:Mo):Mo × Int:=if jF g keep m=true then (⟨[],[]⟩,14) else (aGH g keep m,0)
theorem wH(n:Nat)(images keep:List Int):mQ n (bY images keep)=fZ n images keep:=rfl
theorem sP(images keep:List Int):(bY images keep).length<=images.length:=oB images keep images.length
theorem aNb(l g:Gr)(keep m:Mo)(hl:l.Fit)(hg:g.Fit)(hm:m.Fit)(hk:keep.Fit)(he:Emb l g m)(hp:VP l keep):DC 147 [l.av,g.av,keep.av,m.av] (.tup [(uG l g keep m).1.av,I (uG l g keep m).2]):=by
 intro tok nt box nb;have h1:=aFQ l g keep m hl hg hm hk;rw[he.v,hp.v] at h1;have i1:=mD m.nodes keep.nodes hm.n hk.n he.n;have i2:=mD m.edges keep.edges hm.e hk.e he.e;have hd:=aA4 l g keep m hg hm hk;have hda:=aAg g keep m;have hmn:=hm.n;have hme:=hm.e;have hgn:=hg.n;have hge:=hg.e;have g1:=xH m.nodes keep.nodes hm.n hk.n;have g2:=xH m.edges keep.edges hm.e hk.e;have l1:=sP m.nodes keep.nodes;have l2:=sP m.edges keep.edges;have r1:=aC8 g.nodes.length (bY m.nodes keep.nodes) (by omega) (by omega);have r2:=aC8 g.edges.length (bY m.edges keep.edges) (by omega) (by omega);rw[wH] at r1 r2;refine sI func147 ntmps147 fun Hb Ht=>?_
 repeat first|simp|refine sR ?_
 refine sD (h1 _ _) ?_;repeat first|simp|refine sR ?_
 refine sC ?_;repeat first|simp|refine sR ?_
 refine sD (i1 _ _) ?_;repeat first|simp|refine sR ?_
 have w0:IntKind.i64.wrap 0=0:=rfl
 refine sD (i2 _ _) ?_;simp[w0];repeat first|simp[w0]|refine sR ?_
 refine sC ?_;repeat first|simp|refine sR ?_
 refine sD (hd _ _) ?_;repeat first|simp|refine sR ?_
 have hcd:aGH g keep m=⟨fZ g.nodes.length m.nodes keep.nodes,fZ g.edges.length m.edges keep.edges⟩:=rfl
 rw[hda];cases hx:jF g keep m
 .refine sC ?_;repeat first|simp|refine sR ?_
  refine sD (g1 _ _) ?_;repeat first|simp|refine sR ?_
  refine sD (r1 _ _) ?_;repeat first|simp|refine sR ?_
  refine sD (g2 _ _) ?_;repeat first|simp|refine sR ?_
  refine sD (r2 _ _) ?_;repeat first|simp|refine sR ?_
  refine sT (sH Hb Ht ?_);simp[uG,hx,hcd]
 .refine sC ?_;repeat first|simp|refine sR ?_
  refine sT (sH Hb Ht ?_);simp[uG,hx,ints]
abbrev aKi(l g:Gr)(keep m:Mo):AV:=.agg [.d (ints l.nodes),.d (AM.edges l.edges),.d (ints g.nodes),.d (AM.edges g.edges),.d (ints keep.nodes),.d (ints keep.edges),.d (ints m.nodes),.d (ints m.edges)]
theorem aIu(l g:Gr)(keep m:Mo)(hl:l.Fit)(hg:g.Fit)(hm:m.Fit)(hk:keep.Fit):DC 111 [aKi l g keep m] (I (if aG l g m≠0 then aG l g m else cR l keep)):=by
 intro tok nt box nb;have h1:=kF l g m hl hg;have h2:=qT l keep hl hk;refine sI func111 ntmps111 fun Hb Ht=>?_
 repeat first|simp|refine sR ?_
 refine sD (h1 _ _) ?_;repeat first|simp|refine sR ?_
 by_cases e1:aG l g m=0
 .simp only[e1];refine sC ?_;repeat first|simp|refine sR ?_
  refine sD (h2 _ _) ?_;repeat first|simp|refine sR ?_
  refine sT (sH Hb Ht ?_);simp[e1]
 .have b1:(aG l g m != 0)=true:=by simp[e1]
  simp only[b1];refine sC ?_;repeat first|simp|refine sR ?_
  refine sT (sH Hb Ht ?_);simp[e1]
def aOF(l g:Gr)(keep m:Mo)(nb:Nat)(box:Bxs)(x:Acc):AS :=
 ⟨tl [(10,I x.i),(9,I m.nodes.length),(8,.d (ints m.nodes)),(3,.osl 1 (rI (kO m.nodes keep.nodes x.i)) x.own),(1,.ptr (nb+1) 0 0)],lb nb box [(1,[[.d (ints l.nodes),.d (AM.edges l.edges),.d (ints g.nodes),.d (AM.edges g.edges),.d (ints keep.nodes),.d (ints keep.edges),.d (ints m.nodes),.d (ints m.edges)]])],x.tok,x.nt⟩
theorem aGy(l g:Gr)(keep m:Mo)(hm:m.Fit)(hk:keep.Fit):DC 172 [aKi l g keep m] (.d (ints (bY m.nodes keep.nodes))):=by
 intro tok nt box nb;have hh:=fun v=>bO keep.nodes v hk.n
 refine sI func172 ntmps172 fun Hb Ht=>?_
 repeat first|simp|refine sR ?_
 refine sN ?_;have hmn:=hm.n;refine sL (aOF l g keep m nb box) (fun x=>x.i<=m.nodes.length/\TK tok nt x.tok x.nt [x.own]) (fun x=>m.nodes.length-x.i) ⟨0,.full,tok,nt⟩ ⟨Nat.zero_le _,(TK.start Ht).full⟩ (wM (nr0 _) rfl (by simp[ToL,lk,pN]) (by simp[aC,lk])) ?_;rintro⟨i,own,tok',nt'⟩ S ⟨hi,htk⟩ hS;simp only[aOF] at hS hi htk;subst hS;have hw:=sW (i:=i) (by omega);have hsc:=oZ m.nodes keep.nodes i;have hlen:=oB m.nodes keep.nodes i;repeat first|simp|refine sR ?_|refine sC ?_
 refine⟨fun hlt=>?_,fun hge=>?_⟩
 .have hg:m.nodes.getD i 0=m.nodes[i]:=by simp[hlt]
  rw[hg] at hsc;repeat first|simp[hlt]|refine sR ?_
  refine sD (hh _ _ _) ?_;simp;by_cases hmm:(i:Int)∈keep.nodes
  .rw[if_pos hmm] at hsc;simp only[hmm];repeat first|simp[hw]|refine sR ?_|refine sC ?_
   refine sE ?_;exact⟨⟨i+1,own,tok',nt'⟩,⟨hlt,htk⟩,by simp only;omega,wM htk.le rfl (by simp[ToL,lk,hsc]) (by simp[aC,lk])⟩
  .rw[if_neg hmm] at hsc;simp only[hmm];repeat first|simp|refine sR ?_
   refine sC ?_;repeat first|simp|refine sR ?_
   refine⟨⟨by omega,htk.live⟩,?_⟩;repeat first|simp[hw]|refine sR ?_
   refine sE ?_;exact⟨⟨i+1,_,_,_⟩,⟨hlt,htk.app⟩,by simp only;omega,wM htk.app.le rfl (by simp[ToL,lk,hsc]) (by simp[aC,lk])⟩
 .refine sX ?_;simp only[AU,↓reduceIte];have:i=m.nodes.length:=by omega
  subst this;repeat first|simp|refine sR ?_
  have e:bY m.nodes keep.nodes=kO m.nodes keep.nodes m.nodes.length:=rfl
  refine sT (sG Hb Ht htk.old htk.le ?_);simp[e]
def aPv(images keep:List Int)(nb:Nat)(box:Bxs)(tok:Tks)(nt:Nat)(i:Nat):AS:=⟨tl [(10,I i),(9,I images.length),(8,.d (ints images)),(0,.d (ints images)),(1,.d (ints keep)),(5,.osl 0 [] .full)],lb nb box [],tok,nt⟩
def aL7(images keep:List Int)(i:Nat)(nb:Nat)(box:Bxs)(tok:Tks)(nt:Nat)(k:Nat):AS:=⟨tl [(10,I i),(9,I images.length),(8,.d (ints images)),(0,.d (ints images)),(1,.d (ints keep)),(5,.osl 0 [] .full),(6,I i),(7,I k)],lb nb box [],tok,nt⟩
theorem aCM(images keep:List Int)(h1:images.length<=1000000)(h2:keep.length<=1000000)(hn:images.Nodup):DC 171 [.d (ints images),.d (ints keep)] (.d (.sl 2 [])):=by
 intro tok nt box nb;refine sI func171 ntmps171 fun Hb Ht=>?_
 repeat first|simp|refine sR ?_
 refine sN ?_;refine sL (aPv images keep nb box tok nt) (fun i=>i<=images.length) (fun i=>images.length-i) 0 (Nat.zero_le _) (wM (nr0 _) rfl (by simp[ToL,lk]) trivial) ?_;rintro i S hi hS;simp only[aPv] at hS;subst hS;have hw:=sW (i:=i) (by omega);repeat first|simp|refine sR ?_|refine sC ?_
 refine⟨fun hlt=>?_,fun hge=>?_⟩
 .repeat first|simp[hw]|refine sR ?_
  refine sN ?_;refine sL (aL7 images keep i nb box tok nt) (fun k=>i<k/\k<=images.length) (fun k=>images.length-k) (i+1) ⟨Nat.lt_succ_self _,hlt⟩ (wM (nr0 _) rfl (by simp[ToL,lk]) trivial) ?_;rintro k S ⟨hik,hk⟩ hS;simp only[aL7] at hS;subst hS;have hwk:=sW (i:=k) (by omega);repeat first|simp|refine sR ?_|refine sC ?_
  refine⟨fun hlk=>?_,fun hge=>?_⟩
  .have hne:(images[i]==images[k])=false:=by
    have:=List.pairwise_iff_getElem.1 hn i k hlt hlk hik
    simpa using this
   repeat first|simp[hlt,hlk,hne]|refine sR ?_
   refine sC ?_;simp;repeat first|simp[hwk]|refine sR ?_
   refine sE ?_;exact⟨k+1,⟨by omega,hlk⟩,by omega,wM (nr0 _) rfl (by simp[ToL,lk]) trivial⟩
  .refine sX ?_;simp only[AU,↓reduceIte];repeat first|simp[hw]|refine sR ?_
   refine sE ?_;exact⟨i+1,hlt,by omega,wM (nr0 _) rfl (by simp[ToL,lk]) trivial⟩
 .refine sX ?_;simp only[AU,↓reduceIte];repeat first|simp|refine sR ?_
  refine sT (sH Hb Ht ?_);simp
def aN8(l g:Gr)(keep m:Mo)(nb:Nat)(box:Bxs)(x:Acc):AS :=
 ⟨tl [(13,I x.i),(12,I g.edges.length),(11,.d (AM.edges g.edges)),(4,.osl 1 (rI (eL g keep m x.i)) x.own),(3,.d (ints (bY m.nodes keep.nodes))),(1,.ptr (nb+1) 0 0)],lb nb box [(1,[[.d (ints l.nodes),.d (AM.edges l.edges),.d (ints g.nodes),.d (AM.edges g.edges),.d (ints keep.nodes),.d (ints keep.edges),.d (ints m.nodes),.d (ints m.edges)]])],x.tok,x.nt⟩
theorem aCp(l g:Gr)(keep m:Mo)(hg:g.Fit)(hm:m.Fit)(hk:keep.Fit):DC 113 [aKi l g keep m] (.d (ints (eL g keep m g.edges.length))):=by
 intro tok nt box nb;have hh:=fun v=>bO m.edges v hm.e
 have hgo:=aGy l g keep m hm hk;have hh2:=fun v=>bO (bY m.nodes keep.nodes) v (by have:=sP m.nodes keep.nodes;have:=hm.n;omega)
 refine sI func113 ntmps113 fun Hb Ht=>?_
 repeat first|simp|refine sR ?_
 refine sD (hgo _ _) ?_;repeat first|simp|refine sR ?_
 refine sN ?_;have hge:=hg.e;refine sL (aN8 l g keep m nb box) (fun x=>x.i<=g.edges.length/\TK tok nt x.tok x.nt [x.own]) (fun x=>g.edges.length-x.i) ⟨0,.full,tok,nt⟩ ⟨Nat.zero_le _,(TK.start Ht).full⟩ (wM (nr0 _) rfl (by simp[ToL,lk,vX]) (by simp[aC,lk])) ?_;rintro⟨i,own,tok',nt'⟩ S ⟨hi,htk⟩ hS;simp only[aN8] at hS hi htk;subst hS;have hw:=sW (i:=i) (by omega);have hsc:=wJ g keep m i;have hlen:=zD g keep m i;repeat first|simp|refine sR ?_|refine sC ?_
 refine⟨fun hlt=>?_,fun hge=>?_⟩
 .have hg1:g.edges.getD i default=g.edges[i]:=by simp[hlt]
  have hP:lT g keep m i=(decide ((i:Int)∉m.edges)&&(decide (g.edges[i].fr∈bY m.nodes keep.nodes)||decide (g.edges[i].to∈bY m.nodes keep.nodes))):=by unfold lT;rw[hg1];simp
  have no:lT g keep m i=false->eL g keep m (i+1)=eL g keep m i:=fun h=>by rw[hsc,if_neg (by simp[h])]
  have yes:lT g keep m i=true->eL g keep m (i+1)=eL g keep m i++[(i:Int)]:=fun h=>by rw[hsc,if_pos h]
  repeat first|simp[hlt]|refine sR ?_
  refine sD (hh _ _ _) ?_;simp;by_cases hmm:(i:Int)∈m.edges
  .have no:=no (by rw[hP];simp[hmm]);simp only[hmm];repeat first|simp[hw]|refine sR ?_|refine sC ?_
   refine sE ?_;exact⟨⟨i+1,own,tok',nt'⟩,⟨hlt,htk⟩,by simp only;omega,wM htk.le rfl (by simp[ToL,lk,no]) (by simp[aC,lk])⟩
  .simp only[hmm];repeat first|simp|refine sR ?_
   refine sD (hh2 _ _ _) ?_;simp;by_cases h1:g.edges[i].fr∈bY m.nodes keep.nodes
   .have yes:=yes (by rw[hP];simp[hmm,h1]);simp only[h1];repeat first|simp|refine sR ?_
    refine sC ?_;repeat first|simp|refine sR ?_
    refine⟨⟨by omega,htk.live⟩,?_⟩;repeat first|simp[hw]|refine sR ?_
    refine sE ?_;exact⟨⟨i+1,_,_,_⟩,⟨hlt,htk.app⟩,by simp only;omega,wM htk.app.le rfl (by simp[ToL,lk,yes]) (by simp[aC,lk])⟩
   .simp only[h1];repeat first|simp|refine sR ?_
    refine sD (hh2 _ _ _) ?_;simp;by_cases h2:g.edges[i].to∈bY m.nodes keep.nodes
    .have yes:=yes (by rw[hP];simp[hmm,h2]);simp only[h2];repeat first|simp|refine sR ?_
     refine sC ?_;repeat first|simp|refine sR ?_
     refine⟨⟨by omega,htk.live⟩,?_⟩;repeat first|simp[hw]|refine sR ?_
     refine sE ?_;exact⟨⟨i+1,_,_,_⟩,⟨hlt,htk.app⟩,by simp only;omega,wM htk.app.le rfl (by simp[ToL,lk,yes]) (by simp[aC,lk])⟩
    .have no:=no (by rw[hP];simp[hmm,h1,h2]);simp only[h2];repeat first|simp[hw]|refine sR ?_|refine sC ?_
     refine sE ?_;exact⟨⟨i+1,own,tok',nt'⟩,⟨hlt,htk⟩,by simp only;omega,wM htk.le rfl (by simp[ToL,lk,no]) (by simp[aC,lk])⟩
 .refine sX ?_;simp only[AU,↓reduceIte];have:i=g.edges.length:=by omega
  subst this;repeat first|simp|refine sR ?_
  refine sT (sG Hb Ht htk.old htk.le ?_);simp
def gA(bs:List Bool):List (List AV):=bs.map fun b=>[AV.d (.raw (.bool b))]
theorem aDr(bs:List Bool):gA bs=cG (bs.map fun b=>[D.raw (.bool b)]):=by simp[gA,cG]
@[simp] theorem aRT(bs:List Bool)(i:Nat)(v:Bool):(gA bs).set i [AV.d (.raw (.bool v))]=gA (bs.set i v):=by simp[gA,List.map_set]
@[simp] theorem aKe(bs:List Bool):(gA bs).length=bs.length:=by simp[gA]
@[simp high] theorem aNf{bs:List Bool}{i:Nat}(h:i<bs.length):(gA bs)[i]?=some [AV.d (.raw (.bool bs[i]))]:=by simp[gA,h]
@[simp] theorem aNH{p q:Nat->Prop}{fz:Option (Nat × Nat × List (List D))}(bs:List Bool):gE p q fz (gA bs) (gA bs):=by rw[aDr];simp
def fS(n:Nat)(images keep:List Int):Nat->List Bool
 | 0=>List.replicate n false
 | i+1=>if (i:Int)∈keep then fS n images keep i else (fS n images keep i).set (images.getD i 0).toNat true
theorem jW(n:Nat)(images keep:List Int):∀i,(fS n images keep i).length=n
 | 0=>by simp[fS]
 | i+1=>by
  unfold fS;split
  .exact jW n images keep i
  .rw[List.length_set];exact jW n images keep i
theorem aAb(n:Nat)(images keep:List Int)(hr:∀x∈images,0<=x/\x<n):∀i,i<=images.length->∀k,k<n->(fS n images keep i).getD k false=decide ((k:Int)∈kO images keep i)
 | 0,_,k,hk=>by simp[fS,pN,hk]
 | i+1,hi,k,hk=>by
  have ih:=aAb n images keep hr i (by omega) k hk;have rg:=hr _ (aR (d:=0) (show i<images.length by omega));rw[oZ];unfold fS;by_cases hm:(i:Int)∈keep
  .rw[if_pos hm,if_pos hm];exact ih
  .rw[if_neg hm,if_neg hm];have hl:=jW n images keep i;by_cases e:(images.getD i 0).toNat=k
   .rw[e,List.getD_eq_getElem?_getD,List.getElem?_set_self (by omega)];have:(k:Int)=images.getD i 0:=by omega
    simp[this]
   .rw[List.getD_eq_getElem?_getD,List.getElem?_set_ne e,<-List.getD_eq_getElem?_getD,ih];have:¬(k:Int)=images.getD i 0:=by omega
    rw[decide_eq_decide,List.mem_append,List.mem_singleton];simp only[this,or_false]
def aOM(n:Nat)(images keep:List Int)(nb:Nat)(box:Bxs)(tok:Tks)(nt:Nat)(i:Nat):AS :=
 ⟨tl [(17,I i),(16,I images.length),(15,.d (ints images)),(7,.msl (nb+14) 0 n 1),(6,.osl 0 [] .full),(0,I n),(2,.d (ints keep))],lb nb box [(14,gA (fS n images keep i))],tok,nt⟩
def aPu(n:Nat)(images keep:List Int)(nb:Nat)(box:Bxs)(x:Acc):AS :=
 ⟨tl [(32,I x.i),(31,I n),(30,.msl (nb+14) 0 n 1),(10,.osl 1 (rI (mQ x.i (bY images keep))) x.own)],lb nb box [(14,gA (fS n images keep images.length))],x.tok,x.nt⟩
theorem aE2(n:Nat)(images keep:List Int)(hn:n<=1000000)(h1:images.length<=1000000)(h2:keep.length<=1000000)(hr:∀x∈images,0<=x/\x<n):DC 114 [I n,.d (ints images),.d (ints keep)] (.d (ints (fZ n images keep))):=by
 intro tok nt box nb;have hh:=fun v=>bO keep v h2
 refine sI func114 ntmps114 fun Hb Ht=>?_
 repeat first|simp|refine sR ?_
 refine⟨by omega,?_⟩;repeat first|simp|refine sR ?_
 refine sN ?_;have hrep:List.replicate n [B false]=gA (fS n images keep 0):=by simp[fS,gA]
 refine sL (aOM n images keep nb box tok nt) (fun i=>i<=images.length) (fun i=>images.length-i) 0 (Nat.zero_le _) (wM (nr0 _) rfl (by simp[ToL,lk]) (by simp[aC,lk,hrep])) ?_;rintro i S hi hS;simp only[aOM] at hS;subst hS;have hw:=sW (i:=i) (by omega);have hgl:=jW n images keep i;repeat first|simp|refine sR ?_|refine sC ?_
 refine⟨fun hlt=>?_,fun hge=>?_⟩
 .obtain⟨r1,r2⟩:=hr _ (List.getElem_mem hlt);have r3:images[i].toNat<n:=by omega
  have hg:images.getD i 0=images[i]:=by simp[hlt]
  repeat first|simp[hlt]|refine sR ?_
  refine sD (hh _ _ _) ?_;simp;by_cases hm:(i:Int)∈keep
  .have hsc:fS n images keep (i+1)=fS n images keep i:=if_pos hm
   simp only[hm];repeat first|simp[hw]|refine sR ?_|refine sC ?_
   refine sE ?_;exact⟨i+1,hlt,by omega,wM (nr0 _) rfl (by simp[ToL,lk]) (by simp[aC,lk,hsc])⟩
  .have hsc:fS n images keep (i+1)=(fS n images keep i).set images[i].toNat true:=by rw[<-hg];exact if_neg hm
   simp only[hm];repeat first|simp[r1,r2,r3,hgl,hw]|refine sR ?_|refine sC ?_
   refine sE ?_;exact⟨i+1,hlt,by omega,wM (nr0 _) rfl (by simp[ToL,lk]) (by simp[aC,lk,hsc])⟩
 .refine sX ?_;simp only[AU,↓reduceIte];have:i=images.length:=by omega
  subst this;repeat first|simp|refine sR ?_
  refine sN ?_;refine sL (aPu n images keep nb box) (fun x=>x.i<=n/\TK tok nt x.tok x.nt [x.own]) (fun x=>n-x.i) ⟨0,.full,tok,nt⟩ ⟨Nat.zero_le _,(TK.start Ht).full⟩ (wM (nr0 _) rfl (by simp[ToL,lk,vC]) (by simp[aC,lk])) ?_;rintro⟨i,own,tok',nt'⟩ S ⟨hi,htk⟩ hS;simp only[aPu] at hS hi htk;subst hS;have hw:=sW (i:=i) (by omega);have hsc:=xJ (bY images keep) i;have hlen:=zF i (bY images keep);have hgt:=aAb n images keep hr images.length (nr0 _) i;repeat first|simp|refine sR ?_|refine sC ?_
  refine⟨fun hlt=>?_,fun hge=>?_⟩
  .have hgt:=hgt hlt;have hgl':=jW n images keep images.length
   have hgt:(fS n images keep images.length)[i]'(by omega)=decide ((i:Int)∈bY images keep):=by
    have h:(fS n images keep images.length)[i]?=some ((fS n images keep images.length)[i]'(by omega)):=List.getElem?_eq_getElem (by omega)
    rw[List.getD_eq_getElem?_getD,h] at hgt;exact hgt
   repeat first|simp[hlt,hgl']|refine sR ?_
   rw[hgt];by_cases hm:(i:Int)∈bY images keep
   .rw[if_pos hm] at hsc;simp only[hm];refine sC ?_;simp;repeat first|simp[hw]|refine sR ?_
    refine sE ?_;exact⟨⟨i+1,own,tok',nt'⟩,⟨hlt,htk⟩,by simp only;omega,wM htk.le rfl (by simp[ToL,lk,hsc]) (by simp[aC,lk])⟩
   .rw[if_neg hm] at hsc;simp only[hm];refine sC ?_;repeat first|simp|refine sR ?_
    refine⟨⟨by omega,htk.live⟩,?_⟩;repeat first|simp[hw]|refine sR ?_
    refine sE ?_;exact⟨⟨i+1,_,_,_⟩,⟨hlt,htk.app⟩,by simp only;omega,wM htk.app.le rfl (by simp[ToL,lk,hsc]) (by simp[aC,lk])⟩
  .refine sX ?_;simp only[AU,↓reduceIte];have:i=n:=by omega
   subst this;repeat first|simp|refine sR ?_
   refine sT (sG Hb Ht htk.old htk.le ?_);simp[wH]
theorem aHs(l g:Gr)(keep m:Mo)(hm:m.Fit)(hk:keep.Fit)(hn:m.nodes.Nodup)(he:m.edges.Nodup):DC 112 [aKi l g keep m] (.tup [.d (.sl 2 []),.d (.sl 2 [])]):=by
 intro tok nt box nb;have i1:=aCM m.nodes keep.nodes hm.n hk.n hn;have i2:=aCM m.edges keep.edges hm.e hk.e he;refine sI func112 ntmps112 fun Hb Ht=>?_
 repeat first|simp|refine sR ?_
 refine sD (i1 _ _) ?_;repeat first|simp|refine sR ?_
 refine sD (i2 _ _) ?_;repeat first|simp|refine sR ?_
 refine sT (sH Hb Ht ?_);simp
theorem aNO(l g:Gr)(keep m:Mo)(hl:l.Fit)(hg:g.Fit)(hm:m.Fit)(hk:keep.Fit)(he:Emb l g m)(hp:VP l keep):DC 68 [l.av,g.av,keep.av,m.av] (.tup [(uG l g keep m).1.av,I (uG l g keep m).2]):=by
 intro tok nt box nb;have h1:=aIu l g keep m hl hg hm hk;rw[he.v,hp.v] at h1;have i1:=aHs l g keep m hm hk he.n he.e;have hd:=aCp l g keep m hg hm hk;have hda:=aAg g keep m;have hgn:=hg.n;have hge:=hg.e;have v:=he.vm;have r1:=aE2 g.nodes.length m.nodes keep.nodes (by omega) hm.n hk.n v.n;have r2:=aE2 g.edges.length m.edges keep.edges (by omega) hm.e hk.e v.e;have w0:IntKind.i64.wrap 0=0:=rfl
 refine sI func68 ntmps68 fun Hb Ht=>?_
 repeat first|simp|refine sR ?_
 refine sD (h1 _ _) ?_;repeat first|simp|refine sR ?_
 refine sC ?_;repeat first|simp|refine sR ?_
 refine sD (i1 _ _) ?_;simp;repeat first|simp[w0]|refine sR ?_
 have hcd:aGH g keep m=⟨fZ g.nodes.length m.nodes keep.nodes,fZ g.edges.length m.edges keep.edges⟩:=rfl
 refine sC ?_;repeat first|simp|refine sR ?_
 refine sD (hd _ _) ?_;repeat first|simp|refine sR ?_
 rw[hda];cases hx:jF g keep m
 .refine sC ?_;repeat first|simp|refine sR ?_
  refine sD (r1 _ _) ?_;repeat first|simp|refine sR ?_
  refine sD (r2 _ _) ?_;repeat first|simp|refine sR ?_
  refine sT (sH Hb Ht ?_);simp[uG,hx,hcd]
 .refine sC ?_;repeat first|simp|refine sR ?_
  refine sT (sH Hb Ht ?_);simp[uG,hx,ints]
def aLf(ns:List Int)(js:List Int)(i:Nat):List Int:=(js.take i).map fun j=>ns.getD j.toNat 0
@[simp] theorem aNq(l h:List Int)(i:Nat):(aLf l h i).length=min i h.length:=by simp[aLf]
def aLH(es:List E)(ns js:List Int)(i:Nat):List E:=(js.take i).map fun j=>⟨(es.getD j.toNat default).ty,aU ns (es.getD j.toNat default).fr,aU ns (es.getD j.toNat default).to⟩
@[simp] theorem aNn(l:List E)(ns h:List Int)(i:Nat):(aLH l ns h i).length=min i h.length:=by simp[aLH]
def rkK(ns:List Int)(bit:Nat->Bool):Nat->List Int
 | 0=>[]
 | i+1=>if bit i=true then rkK ns bit i++[((chN ns bit i).1.length:Int)] else rkK ns bit i++[0]
def rkR(ns:List Int)(bit:Nat->Bool)(n i:Nat):List Int:=rkK ns bit i++List.replicate (n-i) 0
theorem aFu(ns:List Int)(bit:Nat->Bool):∀i,(rkK ns bit i).length=i
 | 0=>rfl
 | i+1=>by
  simp only[rkK];split<;>simp[aFu ns bit i]
@[simp] theorem aQt(ns:List Int)(bit:Nat->Bool){n i:Nat}(h:i<=n):(rkR ns bit n i).length=n:=by simp[rkR,aFu];omega
def sameAt(a b:List Int)(i k:Nat):Bool:=decide (a.getD i 0=a.getD k 0)==decide (b.getD i 0=b.getD k 0)
def aOp(l:List Int)(lo hi:Int)(i:Nat):List Int:=(l.take i).map fun k=>if k=hi then lo else k
@[simp] theorem aOn(l:List Int)(lo hi:Int)(i:Nat):(aOp l lo hi i).length=min i l.length:=by simp[aOp]
def aN0(l:List Int)(i:Nat):List Int:=l.take i
@[simp] theorem aNG(l:List Int)(i:Nat):(aN0 l i).length=min i l.length:=by simp[aN0]
theorem Emb.fit{a b:Gr}{m:Mo}(h:Emb a b m):m.Fit/\a.Fit/\b.Fit:=by
 have v:=h.vm;have h1:=(bG v.va).1;have h2:=(bG v.vb).1;have h3:=v.ln;have h4:=v.le;exact⟨⟨by omega,by omega⟩,⟨by omega,by omega⟩,⟨by omega,by omega⟩⟩
end Go.AM
namespace Go.Proofs
open Go.Shelf
open Go.Proofs.Tryz
end Go.Proofs
namespace Go.AM
open Go Go.Proofs Go.RowKit Go.Lib
open Go.Proofs.Tryz
theorem aAw{l:List Int}{n:Nat}(hn:l.Nodup)(hr:∀x∈l,0<=x/\x<n):cX l=lY l n:=by
 have hp:(cX l).Perm l:=List.mergeSort_perm _ _
 have hs:(cX l).Pairwise fun a b=>(decide (a<=b))=true:=List.pairwise_mergeSort (fun a b c h1 h2=>by simp only[decide_eq_true_eq] at *;omega) (fun a b=>by simp only[Bool.or_eq_true,decide_eq_true_eq];omega) l
 have hd:(cX l).Nodup:=hp.nodup_iff.2 hn
 refine aHv (List.Pairwise.imp₂ (fun a b h1 h2=>?_) hs hd) (aBG _ _) fun x=>?_
 .simp only[decide_eq_true_eq] at h1;have:a≠b:=h2
  omega
 .rw[hp.mem_iff,iQ];exact⟨fun h=>⟨h,hr x h⟩,fun h=>h.1⟩
theorem aGp{a y:Gr}{q:Mo}(hq:Emb a y q):(yE y q)=⟨cX q.nodes,cX q.edges⟩:=by
 have v:=hq.vm;rw[yE,aAw hq.n v.n,aAw hq.e v.e]
theorem aBe.fit{s:Sp}(h:aBe s):s.l.Fit/\s.r.Fit/\s.k.Fit/\s.i.Fit:=⟨h.k.emb.fit.2.2,h.i.fit.2.2,h.k.emb.fit.1,h.i.fit.1⟩
def aPz(s:Sp)(c:Cd):Cd × Int:=if aAO s.r c≠0 then (sM 0 [],aAO s.r c) else if (c.lft s).2≠0 then (sM 0 [],(c.lft s).2) else if aAO s.l (c.lft s).1≠0 then (sM 0 [],aAO s.l (c.lft s).1) else ((c.lft s).1,0)
def aLT(r:Ru)(c:Cd):Cd × Int:=if cN r≠0 then (sM 0 [],cN r) else aPz r.sp c
def Sp.ru(s:Sp):Ru:=⟨⟨#[]⟩,s.l,[],0,[],s.r,[],0,[],s.k,s.i,true,sM 0 []⟩
set_option maxRecDepth 100000 in
theorem fT(r:Ru)(hr:r.Fit):DC 63 [r.av] (I (cN r)):=by
 intro tok nt box nb;have h1:=dR r.lg hr.lg;have h2:=dR r.rg hr.rg;have h3:=nZ r.lg r.k hr.lg hr.k;have h4:=fun h=>aCr r.lg r.k hr.lg hr.k h
 have h5:=fun h=>jX (exG r.lg r.k) r.rg r.i h hr.rg
 have h6:=fun h=>jS (exG r.lg r.k) r.rg r.i h hr.rg hr.i
 have hls:=hr.ls;have hlt:=hr.lt;have hrs:=hr.rs;have hrt:=hr.rt;rw[bM] at hls hlt hrs hrt;refine sI func63 ntmps63 fun Hb Ht=>?_
 repeat first|simp|refine sR ?_
 refine sD (h1 _ _) ?_;repeat first|simp|refine sR ?_
 by_cases e1:vG r.lg=0
 .simp only[e1];refine sC ?_;repeat first|simp|refine sR ?_
  refine sD (h2 _ _) ?_;repeat first|simp|refine sR ?_
  by_cases e2:vG r.rg=0
  .simp only[e2];refine sC ?_;repeat first|simp|refine sR ?_
   refine sD (h3 _ _) ?_;repeat first|simp|refine sR ?_
   by_cases e3:cR r.lg r.k=0
   .simp only[e3];refine sC ?_;repeat first|simp|refine sR ?_
    have hp:=VP.of e3;have hx:=hp.emb.fit.2.1;refine sD (h4 hp _ _) ?_;repeat first|simp|refine sR ?_
    refine sD (h5 hx _ _) ?_;repeat first|simp|refine sR ?_
    by_cases e4:aG (exG r.lg r.k) r.rg r.i=0
    .simp only[e4];refine sC ?_;repeat first|simp|refine sR ?_
     refine sD (h6 hx _ _) ?_;repeat first|simp|refine sR ?_
     cases e5:fV (exG r.lg r.k) r.rg r.i
     .refine sC ?_;repeat first|simp|refine sR ?_
      refine sT (sH Hb Ht ?_);simp[cN,e1,e2,e3,e4,e5]
     .refine sC ?_;simp;have w0:IntKind.i64.wrap ((r.lsl.length:Int)+r.lte.length)=(r.lsl.length:Int)+r.lte.length:=aM (by omega) (by omega)
      have w1:IntKind.i64.wrap ((r.lsl.length:Int)+r.lte.length+r.rsl.length)=(r.lsl.length:Int)+r.lte.length+r.rsl.length:=aM (by omega) (by omega)
      have w2:IntKind.i64.wrap ((r.lsl.length:Int)+r.lte.length+r.rsl.length+r.rte.length)=(r.lsl.length:Int)+r.lte.length+r.rsl.length+r.rte.length:=aM (by omega) (by omega)
      by_cases s1:((r.lsl.length:Int)+r.lte.length+r.rsl.length+r.rte.length)=0
      .have b1:(((r.lsl.length:Int)+r.lte.length+r.rsl.length+r.rte.length)==0)=true:=by rw[beq_iff_eq];exact s1
       by_cases s2:r.lv=0
       .have b2:(r.lv==0)=true:=by simp[s2]
        by_cases s3:r.rv=0
        .have b3:(r.rv==0)=true:=by simp[s3]
         have y1:r.plainL:=⟨by omega,s2⟩
         have y2:r.plainR:=⟨by omega,s3⟩
         cases hin:r.inj
         .repeat first|simp[w0,w1,w2,b1,b2,b3,hin]|refine sR ?_
          refine sC ?_;repeat first|simp|refine sR ?_
          refine sT (sH Hb Ht ?_);simp[cN,e1,e2,e3,e4,e5,y1,y2,hin]
         .repeat first|simp[w0,w1,w2,b1,b2,b3,hin]|refine sR ?_
          refine sC ?_;repeat first|simp|refine sR ?_
          refine sT (sH Hb Ht ?_);simp[cN,e1,e2,e3,e4,e5,y1,y2,hin]
        .have b3:(r.rv==0)=false:=by simp[s3]
         have n2:¬r.plainR:=fun h=>s3 h.2
         repeat first|simp[w0,w1,w2,b1,b2,b3]|refine sR ?_
         refine sC ?_;repeat first|simp|refine sR ?_
         refine sT (sH Hb Ht ?_);simp[cN,e1,e2,e3,e4,e5,n2]
       .have b2:(r.lv==0)=false:=by simp[s2]
        have n1:¬r.plainL:=fun h=>s2 h.2
        repeat first|simp[w0,w1,w2,b1,b2]|refine sR ?_
        refine sC ?_;repeat first|simp|refine sR ?_
        refine sT (sH Hb Ht ?_);simp[cN,e1,e2,e3,e4,e5,n1]
      .have b1:(((r.lsl.length:Int)+r.lte.length+r.rsl.length+r.rte.length)==0)=false:=by rw[beq_eq_false_iff_ne];exact s1
       have n1:¬(r.plainL/\r.plainR/\r.inj=true):=fun h=>by
        have h1:=h.1.1;have h2:=h.2.1.1;omega
       have hS:cN r=8:=by simp only[cN,e1,e2,e3,e4,e5];simp[n1]
       rw[hS];repeat first|simp[w0,w1,w2,b1]|refine sR ?_
       refine sC ?_;repeat first|simp|refine sR ?_
       refine sT (sH Hb Ht ?_);simp
    .have b4:(aG (exG r.lg r.k) r.rg r.i != 0)=true:=by simp[e4]
     simp only[b4];refine sC ?_;repeat first|simp|refine sR ?_
     refine sT (sH Hb Ht ?_);simp[cN,e1,e2,e3,e4]
   .have b3:(cR r.lg r.k != 0)=true:=by simp[e3]
    simp only[b3];refine sC ?_;repeat first|simp|refine sR ?_
    refine sT (sH Hb Ht ?_);simp[cN,e1,e2,e3]
  .have b2:(vG r.rg != 0)=true:=by simp[e2]
   simp only[b2];refine sC ?_;repeat first|simp|refine sR ?_
   refine sT (sH Hb Ht ?_);simp[cN,e1,e2]
 .have b1:(vG r.lg != 0)=true:=by simp[e1]
  simp only[b1];refine sC ?_;repeat first|simp|refine sR ?_
  refine sT (sH Hb Ht ?_);simp[cN,e1]
def aBJ(r:Ru):Bool:=qW r.lg&&qW r.rg&&uA r.k 140&&uA r.i 140
structure Ru.Big (r:Ru):Prop where
 k:r.k.nodes.length<=dN/\r.k.edges.length<=dN
 i:r.i.nodes.length<=dN/\r.i.edges.length<=dN
 ls:r.lsl.length<=dN
 lt:r.lte.length<=dN
 rs:r.rsl.length<=dN
 rt:r.rte.length<=dN
 c:r.c.Big
theorem aK6(r:Ru)(hb:r.Big):DC 102 [r.av] (B (aBJ r)):=by
 intro tok nt box nb;obtain⟨k1,k2⟩:=hb.k;obtain⟨i1,i2⟩:=hb.i;rw[bM] at k1 k2 i1 i2;have h1:=uP r.lg;have h2:=uP r.rg;have h3:=aK2 r.k 140 (by omega) (by omega);have h4:=aFL r.i 140 (by omega) (by omega);refine sI func102 ntmps102 fun Hb Ht=>?_
 repeat first|simp|refine sR ?_
 refine sD (h1 _ _) ?_;repeat first|simp|refine sR ?_
 cases e1:qW r.lg
 .repeat first|simp|refine sR ?_
  refine sT (sH Hb Ht ?_);simp[aBJ,e1]
 .repeat first|simp|refine sR ?_
  refine sD (h2 _ _) ?_;repeat first|simp|refine sR ?_
  cases e2:qW r.rg
  .repeat first|simp|refine sR ?_
   refine sT (sH Hb Ht ?_);simp[aBJ,e1,e2]
  .repeat first|simp|refine sR ?_
   refine sD (h3 _ _) ?_;repeat first|simp|refine sR ?_
   cases e3:uA r.k 140
   .repeat first|simp|refine sR ?_
    refine sT (sH Hb Ht ?_);simp[aBJ,e1,e2,e3]
   .repeat first|simp|refine sR ?_
    refine sD (h4 _ _) ?_;repeat first|simp|refine sR ?_
    refine sT (sH Hb Ht ?_);simp[aBJ,e1,e2,e3]
theorem aCH{l:List Int}{v:Int}(h:v∉l):aU l v = -1:=by
 rcases tM l v with ⟨h1,_⟩|⟨k,_,h3,h4⟩
 .exact h1
 .exact absurd (h4 ▸ aR h3) h
end Go.AM
namespace Go.Proofs.YtchfmhhbiealcaaGreatDoor.back
open Go Go.Proofs Go.RowKit Go.AM
open Go.Proofs.Tryz
theorem info3:(prog.info? 3).map (fun i=>(i.zero,i.size,i.bytes))=some (some (.int .i64 0),1,8):=by kernel_rfl
end Go.Proofs.YtchfmhhbiealcaaGreatDoor.back
namespace Go.Proofs.YtchfmhhbiealcaaGreatDoor.back
open Go Go.Proofs Go.RowKit Go.AM
open Go.Proofs.Tryz
end Go.Proofs.YtchfmhhbiealcaaGreatDoor.back
namespace Go.AM
open Go Go.Proofs Go.RowKit
open Go.Proofs.Tryz
def upP(ps:List Int)(i:Nat):List Int:=if _h:0<=ps.getD i 0/\(ps.getD i 0).toNat<i then (i:Int)::upP ps (ps.getD i 0).toNat else [(i:Int)]
termination_by i
decreasing_by exact _h.2
def upI(ps:List Int)(a:Int):List Int:=if a<0 then [] else upP ps a.toNat
theorem qV{ps:List Int}{a:Int}(h:a<0):upI ps a=[]:=if_pos h
theorem xT{ps:List Int}{a:Int}(h:0<=a)(hp:ps.getD a.toNat 0<a):upI ps a=a::upI ps (ps.getD a.toNat 0):=by
 rw[upI,if_neg (by omega),upP];by_cases h0:0<=ps.getD a.toNat 0
 .rw[dif_pos ⟨h0,by omega⟩,upI,if_neg (by omega),Int.toNat_of_nonneg h]
 .rw[dif_neg (fun h2=>h0 h2.1),upI,if_pos (by omega),Int.toNat_of_nonneg h]
theorem aFB(ps:List Int):∀n i,i<n->(upP ps i).length<=i+1
 | 0,i,h=>absurd h (Nat.not_lt_zero _)
 | n+1,i,h=>by
  rw[upP];split
  .rename_i h1;have:=aFB ps n _ (show (ps.getD i 0).toNat<n by omega)
   simp only[List.length_cons];omega
  .simp
theorem aE8(ps:List Int)(a:Int):(upI ps a).length<=(a+1).toNat:=by
 unfold upI;split
 .simp
 .have:=aFB ps _ _ (Nat.lt_succ_self a.toNat)
  omega
end Go.AM
namespace Go.Proofs.YtchfmhhbiealcaaGreatDoor.line
open Go Go.Proofs Go.RowKit Go.AM Go.Sort
open Go.Proofs.Tryz
theorem aMx{w:World}{base base':Nat}{e:TypeId}{size:Nat}{v:Value}{n:Nat}{xs:List Value}(h:w.ownsRow base e size v n xs)(hb:base'<=base):w.ownsRow base' e size v n xs :=
 ⟨h.1,h.2.imp id fun ⟨g,cap,cur,a,b,c⟩=>⟨g,cap,cur,a,Nat.le_trans hb b,c⟩⟩
theorem rev{base n:Nat}{v:Value}{l:List Int}{w0 w:World}(hown:w.ownsRow base 3 1 v n (l.map (Value.int .i64)))(hb:Below base w0 w)(hl:l.length<=1000000):
  Calls prog 322 #[v] w fun e w'=>e=.returned (.tuple #[])/\w'.ownsRow base 3 1 v n (l.reverse.map (Value.int .i64))/\Below base w0 w':=by
 rcases hown.2 with ⟨rfl,e0⟩|⟨g,cap,cur,rfl,hg1,hg2,hg3,hg4,hg5,hg6⟩
 .refine(Tryz.slices_Reverse_int_empty _ _ _).mono ?_;rintro e w3 ⟨rfl,rfl⟩;subst e0;have:l=[]:=List.length_eq_zero_iff.1 (by simpa using hown.1)
  subst this;exact⟨rfl,hown,hb⟩
 .obtain⟨g',cap',hv,hgb,hgl,hncap,hcm,hlen,hH⟩:=Lib.holds_of_ownsRow hown (by simp);cases hv;have hrev:=Tryz.slices_Reverse_int g 0 cap l _ hH (by omega);rw[hlen] at hrev;refine hrev.mono ?_;rintro e w3 ⟨rfl,q,rfl⟩;have hh:=Lib.ownsRow_putRow (q:=q) (ys:=l.reverse) hown (by simpa using hlen) (Nat.le_refl _);rw[List.take_of_length_le (by simp[hlen])] at hh;exact⟨rfl,hh,Lib.below_putRow hb hg1⟩
set_option maxHeartbeats 2000000 in
set_option maxRecDepth 100000 in
theorem any(b off n c:Nat)(u:Value)(a0:Int)(ps:List Int)(w:World)(hz:ps.length=n)(hn:n<=1000000)(ha:a0<n)(hp:∀j,j<n->ps.getD j 0<j)(hb:b<w.heap.size)(hc:∀j,j<n->w.cell? ⟨b,off+j*4+1,none⟩=some (.int .i64 (ps.getD j 0))):
  Calls prog 286 #[.agg #[.slice (some ⟨b,off,none⟩) n c,u],.int .i64 a0] w fun e w'=>∃v,e=.returned v/\w'.ownsRow w.heap.size 3 1 v (upI ps a0).length ((upI ps a0).reverse.map (Value.int .i64))/\Below w.heap.size w w':=by
 obtain⟨i0,hi,hz0,hz1,hz2'⟩:=info_parts YtchfmhhbiealcaaGreatDoor.back.info3
 go_enter func286,ntmps286
 go_wp2
 have hsz:(w.alloc (Obj.cells #[Value.slice (some { block:=b,off:=off }) n c,u] 25)).heap.size=w.heap.size+1:=by unfold World.alloc;exact Array.size_push _
 have hz2:(w.alloc (Obj.cells #[Value.slice (some { block:=b,off:=off }) n c,u] 25)).cell? ⟨w.heap.size,0,none⟩=some (Value.slice (some { block:=b,off:=off }) n c):=by rw[World.cell?_alloc_at _ _ _ _ rfl];rfl
 have hcc:∀j,j<n->(w.alloc (Obj.cells #[Value.slice (some { block:=b,off:=off }) n c,u] 25)).cell? ⟨b,off+j*4+1,none⟩=some (.int .i64 (ps.getD j 0)):=fun j hj=>((Below.refl _ w).alloc (Nat.le_refl _) _ |>.cell (by exact hb)).trans (hc j hj)
 have hbel:Below w.heap.size w (w.alloc (Obj.cells #[Value.slice (some { block:=b,off:=off }) n c,u] 25)):=(Below.refl _ w).alloc (Nat.le_refl _) _
 generalize w.alloc (Obj.cells #[Value.slice (some { block:=b,off:=off }) n c,u] 25)=w1 at *
 go_loopw [1,5] (fun x v wr=>∃(a:Int) (l:List Int),x=.int .i64 a/\a<n/\l++upI ps a=upI ps a0/\wr.ownsRow w1.heap.size 3 1 v l.length (l.map (Value.int .i64))/\Below w1.heap.size w1 wr) (fun x _ _=>(intOf x+1).toNat)
 case atStart=>exact⟨a0,[],rfl,ha,rfl,World.ownsRow_nil _ _ _ _,Below.refl _ _⟩
 case round =>
  obtain⟨a,l,rfl,hal,hl,hown,hnx⟩:=hrel;have hll:l.length<=n:=by
   have h1:=congrArg List.length hl;have h2:=aE8 ps a0;rw[List.length_append] at h1;omega
  have hr2:=(hnx.cell (p:=⟨w.heap.size,0,none⟩) (by simp;omega)).trans hz2
  go_wp2_with (first
   | (at_builtin;refine wpList_append_own _ rfl _ _ 37 rfl w1.heap.size 3 i0 (.int .i64 0) 1 8 underlying37 hi hz0 hz1 hz2' rfl (by decide) _ _ _ rfl (hown.alloc _) ⟨wr.heap.size,0,none⟩ 1 1 [.int .i64 a] rfl rfl ?c1 ?c2 ?c3 ?c4 ?c5 ?_)
   | (go_at_call 322;refine(rev hown hnx (by omega)).mono ?_;rintro e w3 ⟨rfl,hown3,hnx3⟩)
   | go_in)
  case c1 =>
   intro j u hj
   match j,hj with
   | 0,hj=>simp at hj;subst hj;simp[Addr.add]
  case c2=>intro u hu;simp at hu;subst hu;rfl
  case c3=>unfold maxLen;omega
  case c4=>omega
  case c5=>have:=hnx.size;simp;omega
  .intro v' w2 hown' hgrow hne;have h0:0<=a:=by assumption
   obtain⟨k,rfl⟩:=Int.eq_ofNat_of_zero_le h0;have hnx1:Below w1.heap.size w1 w2:=(hnx.alloc (by have:=hnx.size;omega) _).grown hgrow (by have:=hnx.size;simp;omega) (fun q hq=>(hown.lt q hq).1)
   have hr3:=(hnx1.cell (p:=⟨w.heap.size,0,none⟩) (by simp;omega)).trans hz2;have hr4:=(hnx1.cell (p:=⟨b,off+k*4+1,none⟩) (by simp;omega)).trans (hcc k (by omega));have hup:=xT (ps:=ps) h0 (by have:=hp k (by omega);simpa using this);rw[hup,Int.toNat_natCast] at hl;clear hgrow hown hnx hne
   go_wp2
   refine⟨⟨ps.getD k 0,l++[(k:Int)],rfl,by have:=hp k (by omega);omega,by rw[List.append_assoc];exact hl,by simpa[hsz] using hown',hnx1⟩,?_⟩;have:=hp k (by omega)
   simp at this;simp[intOf];omega
  .go_ret
   have h0:a<0:=by assumption
   rw[qV h0,List.append_nil] at hl;rw[<-hl];exact⟨_,rfl,aMx hown3 (by omega),hbel.trans (hnx3.mono (by omega))⟩
end Go.Proofs.YtchfmhhbiealcaaGreatDoor.line
namespace Go.AM
open Go Go.Proofs Go.RowKit
open Go.Proofs.Tryz
abbrev Ty.pars(t:Ty):List Int:=t.nodes.map NT.par
theorem fF(t:Ty){j:Nat}(h:j<t.nodes.length):t.pars.getD j 0=(t.nd j).par:=by simp[Ty.pars,Ty.nd,h]
theorem aIN{c:Addr->Option Value}{ps:Addr->Prop}{l:List NT}{v:Value}(h:RVd c ps (nts l) v):
  ∃A cap,v=.slice A l.length cap/\l.length<=cap/\cap<=maxLen/\(l≠[]->∃a,A=some a)/\∀a,A=some a->∀i (hi:i<l.length),c (a.add (i*4))=some (.string l[i].name)/\c (a.add (i*4+1))=some (.int .i64 l[i].par):=by
 unfold nts at h;generalize hes:l.map NT.cells=es at h;cases h with
 | @sl _ _ A cap u hcap hmax hsz hA hc hr =>
  have hl:es.length=l.length:=by rw[<-hes];simp
  refine⟨A,cap,by rw[hl],by omega,hmax,fun hne=>hA (by intro e;rw[e] at hl;exact hne (List.length_eq_zero_iff.1 hl.symm)),fun a ha i hi=>⟨?_,?_⟩⟩
  .have g:=(hc a ha i 0 (by omega) (by decide)).2;have r:=hr i 0 (by omega) (by rw[hsz _ (List.getElem_mem _)];decide);have e1:es[i][0]'(by rw[hsz _ (List.getElem_mem _)];decide)=D.raw (.string l[i].name):=by
    subst hes;simp
   rw[e1] at r;have e2:u i 0=.string l[i].name:=by
    generalize hu:u i 0=x at r;cases r;rfl
   rw[<-e2];exact g
  .have g:=(hc a ha i 1 (by omega) (by decide)).2;have r:=hr i 1 (by omega) (by rw[hsz _ (List.getElem_mem _)];decide);have e1:es[i][1]'(by rw[hsz _ (List.getElem_mem _)];decide)=D.raw (.int .i64 l[i].par):=by
    subst hes;simp
   rw[e1] at r;have e2:u i 1=.int .i64 l[i].par:=by
    generalize hu:u i 1=x at r;cases r;rfl
   rw[<-e2];exact g
theorem aMU(t:Ty)(ht:t.nodes.length<=1000000)(a:Int)(h0:0<=a)(ha:a<t.nodes.length)(hp:∀j,j<t.nodes.length->(t.nd j).par<j):DC 286 [t.av,I a] (.d (ints (upI t.pars a).reverse)):=by
 intro tok nt box nb;refine⟨iJ.mk func286 rfl (by kernel_rfl),fun G w vals hm hr=>?_⟩;obtain⟨hlen,hrv⟩:=hr
 match vals,hlen with
 | [v,x],_ =>
  have h0:=hrv 0 (by simp) (by simp);have h1:=hrv 1 (by simp) (by simp);simp only[List.getElem_cons_zero,List.getElem_cons_succ] at h0 h1;cases h1 with
  | d h1 =>
  cases h1 with
  | raw h1 =>
  cases h0 with
  | @agg _ vs hl h2 h3 =>
   match vs,hl with
   | [v1,v2],_ =>
    have h4:=h2 0 (by simp) (by simp);simp only[List.getElem_cons_zero] at h4;cases h4 with
    | d h4 =>
     obtain⟨A,cap,rfl,hcap,hmax,hA,hc⟩:=aIN h4;have e:t.nodes≠[]:=by intro e;rw[e] at ha;simp at ha;omega
     obtain⟨a1,rfl⟩:=hA e;have hp0:0<t.nodes.length:=List.length_pos_iff.2 e
     have hc':=hc a1 rfl
     have hs:a1.spot=none:=by
      cases hsp:a1.spot with
      | none=>rfl
      | some q =>
       exfalso
       have:=(hc' 0 hp0).1
       simp only[World.cell?,Addr.add,hsp,Option.isSome_some,↓reduceIte] at this;split at this<;>simp at this
     obtain⟨b,off,sp⟩:=a1;simp only at hs;subst hs;have hcc:∀j,j<t.nodes.length->w.cell? ⟨b,off+j*4+1,none⟩=some (.int .i64 (t.pars.getD j 0)):=fun j hj=>by
      have h1:=(hc' j hj).2;rw[fF t hj,iE hj];unfold Addr.add at h1;split at h1
      .rename_i e;omega
      .rw[show off+j*4+1=off+(j*4+1) by omega];exact h1
     have hbw:b<w.heap.size:=uX (hcc 0 hp0)
     refine(YtchfmhhbiealcaaGreatDoor.line.any b off t.nodes.length cap v2 a t.pars w (by simp) ht (by omega) (fun j hj=>by rw[fF t hj];exact hp j hj) hbw hcc).mono ?_;rintro e w' ⟨v,rfl,hown,hb⟩;refine⟨v,_,_,G,rfl,⟨rfl,rfl⟩,rfl,eV hm hb,.d (mT hm (by rw[List.length_reverse];exact hown)),gJ hm hb,fun k hk=>⟨hk,rfl⟩⟩
theorem Ty.Fit.hM{t:Ty}(h:t.Fit)(i:Nat):(t.nd i).own.length<=1000:=by
 by_cases hi:i<t.nodes.length
 .rw[iE hi];exact(h.a _ (List.getElem_mem hi)).1
 .simp[Ty.nd,List.getElem?_eq_none (Nat.le_of_not_lt hi)];exact Nat.zero_le _
theorem aIi(t:Ty)(n:Int)(box:Bxs)(nb k:Nat)(tok:Tks)(nt:Nat)(h1:box k=some [[.d (nts t.nodes),.d (ets t.edges)]]):
  aD prog 285 [I n,.ptr k 0 0] ⟨box,nb,tok,nt⟩ fun v m=>v=B (!fQ t n)/\m=⟨box,nb,tok,nt⟩:=by
 by_cases h0:n<0
 .rw[show fQ t n=false by simp only[fQ,decide_eq_false_iff_not];omega];refine sI func285 ntmps285 fun Hb Ht=>?_
  have k1n:=bC Hb h1;repeat first|simp[lO k1n,h1,h0]|refine sR ?_
  refine sT (sH Hb Ht ?_);simp
 .by_cases h2:(t.nodes.length:Int)<=n
  .rw[show fQ t n=false by simp only[fQ,decide_eq_false_iff_not];omega];refine sI func285 ntmps285 fun Hb Ht=>?_
   have k1n:=bC Hb h1;repeat first|simp[lO k1n,h1,h0,h2]|refine sR ?_
   refine sT (sH Hb Ht ?_);simp
  .rw[show fQ t n=true by simp only[fQ,decide_eq_true_eq];omega];refine sI func285 ntmps285 fun Hb Ht=>?_
   have k1n:=bC Hb h1;repeat first|simp[lO k1n,h1,h0,h2]|refine sR ?_
   refine sT (sH Hb Ht ?_);simp
def oS(t:Ty)(l:List Int):Int:=if tyE t=0 then (if bB (fun a=>!fQ t a) l=true then 6 else 0) else tyE t
theorem aFJ(t:Ty)(ht:t.Fit)(l:List Int)(hl:l.length<=1000000):DC 247 [t.av,.d (ints l)] (I (oS t l)):=by
 intro tok nt box nb;have h1:=nC t ht ht.hM;obtain⟨N,hN⟩:∃N,oS t l=N:=⟨_,rfl⟩
 rw[hN];unfold oS at hN;generalize tyE t=E at *;generalize tyN t=Z at *;refine sI func247 ntmps247 fun Hb Ht=>?_
 repeat first|simp|refine sR ?_
 refine sD (h1 _ _) ?_;repeat first|simp|refine sR ?_
 by_cases e1:E=0
 .rw[if_pos e1] at hN;obtain⟨p,hpp⟩:∃p:Int->Bool,(fun a=>!fQ t a)=p:=⟨_,rfl⟩
  have h2:=fun y box nb k hbk=>aIi t y box nb k tok nt hbk
  have hpy:∀y:Int,(!fQ t y)=p y:=fun y=>by rw[<-hpp]
  simp only[hpy] at h2;rw[hpp] at hN;refine sC ?_;simp[e1];repeat first|simp|refine sR ?_
  refine aN.of_b (iW l 285 [.ptr (nb+2) 0 0] p hl _ _ _ _ (fun c hc=>by rw[List.mem_singleton.1 hc];simp[aQ]) (fun y hy box' nb' he=>h2 y box' nb' _ (he _ _ (by simp[aQ])))) ?_;simp;cases e2:bB p l
  .rw[e2,if_neg (by simp)] at hN;repeat first|simp|refine sR ?_
   refine sC ?_;repeat first|simp|refine sR ?_
   refine sT (sH Hb Ht ?_);simp[<-hN]
  .rw[e2,if_pos rfl] at hN;repeat first|simp|refine sR ?_
   refine sC ?_;repeat first|simp|refine sR ?_
   refine sT (sH Hb Ht ?_);simp[<-hN]
 .rw[if_neg e1] at hN;have b1:(E != 0)=true:=by simp[e1]
  refine sC ?_;simp[b1];repeat first|simp|refine sR ?_
  refine sT (sH Hb Ht ?_);simp[<-hN]
def isB(t:Ty)(a b:Int):Bool:=decide (b∈upI t.pars a)
theorem aMC(t:Ty)(ht:t.Fit)(a b:Int)(h0:0<=a)(ha:a<t.nodes.length)(hp:∀j,j<t.nodes.length->(t.nd j).par<j):DC 248 [t.av,I a,I b] (B (isB t a b)):=by
 intro tok nt box nb;have hc:=aMU t (by have:=ht.n;omega) a h0 ha hp;have hlen:=aE8 t.pars a;have htn:=ht.n;obtain⟨N,hN⟩:∃N,isB t a b=N:=⟨_,rfl⟩
 rw[hN];unfold isB at hN;have hN2:decide (b∈(upI t.pars a).reverse)=N:=by rw[<-hN];simp
 have hl2:(upI t.pars a).reverse.length<=1000000:=by rw[List.length_reverse];omega
 generalize (upI t.pars a).reverse=L at *;have hk:=bO L b hl2;rw[hN2] at hk;refine sI func248 ntmps248 fun Hb Ht=>?_
 repeat first|simp|refine sR ?_
 refine sD (hc _ _) ?_;repeat first|simp|refine sR ?_
 refine sD (hk _ _) ?_;repeat first|simp|refine sR ?_
 refine sT (sH Hb Ht ?_);simp
theorem jH{t:Ty}(h:tyE t=0):∀j,j<t.nodes.length->(t.nd j).par<j:=by
 unfold tyE at h;split at h
 .cases h
 .split at h
  .cases h
  .split at h
   .cases h
   .split at h
    .rename_i h1;exact absurd h h1
    .rename_i h1;exact fun j hj=>vQ (dU _ (Decidable.not_not.1 h1) j hj)
def oL(t:Ty)(e a b:Int):Bool :=
 if oS t [a,b]=0 then (if 0<=e then (if e<t.edges.length then (if isB t a (t.ed e.toNat).fr=true then isB t b (t.ed e.toNat).to else false) else false) else false) else false
theorem aAM{t:Ty}{l:List Int}(h:oS t l=0):tyE t=0/\∀a∈l,0<=a/\a<t.nodes.length:=by
 unfold oS at h;split at h
 .rename_i h1;split at h
  .cases h
  .rename_i h2;refine⟨h1,fun a ha=>?_⟩;simp only[bB,List.any_eq_true,not_exists,not_and] at h2;have:=h2 a ha
   simpa[fQ] using this
 .rename_i h1;exact absurd h h1
theorem aEK(t:Ty)(ht:t.Fit)(e a b:Int):DC 190 [t.av,I e,I a,I b] (B (oL t e a b)):=by
 intro tok nt box nb;have h1:=aFJ t ht [a,b] (by simp);have hin:=@aAM t [a,b];obtain⟨N,hN⟩:∃N,oL t e a b=N:=⟨_,rfl⟩
 rw[hN];unfold oL at hN;generalize oS t [a,b]=E at *;refine sI func190 ntmps190 fun Hb Ht=>?_
 repeat first|simp|refine sR ?_
 refine⟨rfl,?_⟩;refine aN.data ?_;refine sD (h1 _ _) ?_;simp;by_cases e1:E=0
 .obtain⟨htE,hin⟩:=hin e1;have ha:=hin a (by simp);have hb:=hin b (by simp);rw[if_pos e1] at hN;by_cases e2:0<=e
  .have e2':¬e<0:=by omega
   rw[if_pos e2] at hN;by_cases e3:e<t.edges.length
   .have e3':¬(t.edges.length:Int)<=e:=by omega
    rw[if_pos e3] at hN;obtain⟨k,rfl⟩:=Int.eq_ofNat_of_zero_le e2;have hk:k<t.edges.length:=by omega
    rw[Int.toNat_natCast,wB hk] at hN;have c1:=aMC t ht a t.edges[k].fr ha.1 ha.2 (jH htE);have c2:=aMC t ht b t.edges[k].to hb.1 hb.2 (jH htE);repeat first|simp[e1,e2',e3',hk]|refine sR ?_
    refine sC ?_;simp[e1,e2',e3',hk];repeat first|simp[hk]|refine sR ?_
    refine sD (c1 _ _) ?_;simp;cases f1:isB t a t.edges[k].fr
    .rw[f1,if_neg (by simp)] at hN;repeat first|simp|refine sR ?_
     refine sT (sH Hb Ht ?_);simp[<-hN]
    .rw[f1,if_pos rfl] at hN;repeat first|simp[hk]|refine sR ?_
     refine sD (c2 _ _) ?_;repeat first|simp|refine sR ?_
     refine sT (sH Hb Ht ?_);simp[<-hN]
   .have e3':(t.edges.length:Int)<=e:=by omega
    rw[if_neg e3] at hN;repeat first|simp[e1,e2',e3']|refine sR ?_|refine sC ?_
    refine sT (sH Hb Ht ?_);simp[<-hN]
  .have e2':e<0:=by omega
   rw[if_neg e2] at hN;repeat first|simp[e1,e2']|refine sR ?_|refine sC ?_
   refine sT (sH Hb Ht ?_);simp[<-hN]
 .rw[if_neg e1] at hN;have b1:(E != 0)=true:=by simp[e1]
  repeat first|simp[b1]|refine sR ?_|refine sC ?_
  refine sT (sH Hb Ht ?_);simp[<-hN]
theorem tT(t:Ty)(a b:Int)(h0:a<0)(hb:0<=b):DC 159 [t.av,I a,I b] (B false):=by
 intro tok nt box nb;have h0':¬0<=a:=by omega
 have e:(a==b)=false:=by simp;omega
 refine sI func159 ntmps159 fun Hb Ht=>?_
 repeat first|simp[e,h0']|refine sR ?_
 refine sT (sH Hb Ht ?_);simp
theorem mO(t:Ty)(b:Int)(hb:0<=b)(hp:∀j,j<t.nodes.length->(t.nd j).par<j):∀(n:Nat) (a:Int),a<n->a<t.nodes.length->∀(tok:Tks) (nt:Nat),dI prog 159 [t.av,I a,I b] tok nt (B (isB t a b)) tok nt
  | 0,a,ha,_,tok,nt=>by
    rw[show isB t a b=false by rw[isB,qV (by omega)];simp];exact tT t a b (by omega) hb tok nt
  | n+1,a,ha,hl,tok,nt=>by
    by_cases h0:a<0
    . rw[show isB t a b=false by rw[isB,qV h0];simp]
      exact tT t a b h0 hb tok nt
    . obtain⟨k,rfl⟩:=Int.eq_ofNat_of_zero_le (show 0<=a by omega)
      have hk:k<t.nodes.length:=by omega
      have hpk:=hp k hk;have hup:=xT (ps:=t.pars) (a:=(k:Int)) (by omega) (by rw[Int.toNat_natCast,fF t hk];exact hpk);rw[Int.toNat_natCast,fF t hk] at hup;have ih:=mO t b hb hp n (t.nd k).par (by omega) (by omega);intro box nb;by_cases e:(k:Int)=b
      . have e':((k:Int)==b)=true:=by simp[e]
        rw[show isB t k b=true by rw[isB,hup];simp[e]];refine sI func159 ntmps159 fun Hb Ht=>?_
        repeat first|simp[e']|refine sR ?_
        refine sT (sH Hb Ht ?_);simp
      . have e':((k:Int)==b)=false:=by simp[e]
        have hB:isB t k b=isB t (t.nd k).par b:=by
         rw[isB,hup,isB];simp only[List.mem_cons,decide_eq_decide];constructor
         . rintro(h|h)
           . exact absurd h.symm e
           . exact h
         . exact .inr
        rw[hB];rw[iE hk] at ih ⊢;refine sI func159 ntmps159 fun Hb Ht=>?_
        repeat first|simp[e',hk]|refine sR ?_
        refine sD (ih _ _) ?_;repeat first|simp|refine sR ?_
        refine sT (sH Hb Ht ?_);simp
theorem aGD(t:Ty)(ht:t.Fit)(a b:Int):DC 157 [t.av,I a,I b] (I (oS t [a,b])):=by
 intro tok nt box nb;have htn:=ht.n;have h1:=kD t ht ht.hM;have i1:=jU a 0 ((t.nodes.length:Int)-1);have i2:=jU b 0 ((t.nodes.length:Int)-1);have hins:∀n:Int,inZ n 0 ((t.nodes.length:Int)-1)=fQ t n:=fun n=>by simp only[inZ,fQ];congr 1;simp only[eq_iff_iff];omega
 rw[hins] at i1 i2;have hw0:IntKind.i64.wrap ((t.nodes.length:Int)-1)=(t.nodes.length:Int)-1:=by rw[aM (by omega) (by omega)]
 obtain⟨N,hN⟩:∃N,oS t [a,b]=N:=⟨_,rfl⟩
 rw[hN];unfold oS at hN;simp only[bB,List.any_cons,List.any_nil,Bool.or_false] at hN;generalize tyE t=E at *;generalize tyN t=Z at *;refine sI func157 ntmps157 fun Hb Ht=>?_
 repeat first|simp|refine sR ?_
 refine sD (h1 _ _) ?_;repeat first|simp|refine sR ?_
 by_cases e1:E=0
 .rw[if_pos e1] at hN;cases e2:fQ t a
  .rw[e2] at i1 hN;rw[if_pos (by simp)] at hN;refine sC ?_;simp[e1];repeat first|simp[hw0]|refine sR ?_
   refine sD (i1 _ _) ?_;repeat first|simp|refine sR ?_
   refine sC ?_;repeat first|simp|refine sR ?_
   refine sT (sH Hb Ht ?_);simp[<-hN]
  .cases e3:fQ t b
   .rw[e2] at i1;rw[e3] at i2;rw[e2,e3,if_pos (by simp)] at hN;refine sC ?_;simp[e1];repeat first|simp[hw0]|refine sR ?_
    refine sD (i1 _ _) ?_;simp;repeat first|simp[hw0]|refine sR ?_
    refine sD (i2 _ _) ?_;repeat first|simp|refine sR ?_
    refine sC ?_;repeat first|simp|refine sR ?_
    refine sT (sH Hb Ht ?_);simp[<-hN]
   .rw[e2] at i1;rw[e3] at i2;rw[e2,e3,if_neg (by simp)] at hN;refine sC ?_;simp[e1];repeat first|simp[hw0]|refine sR ?_
    refine sD (i1 _ _) ?_;simp;repeat first|simp[hw0]|refine sR ?_
    refine sD (i2 _ _) ?_;repeat first|simp|refine sR ?_
    refine sC ?_;repeat first|simp|refine sR ?_
    refine sT (sH Hb Ht ?_);simp[<-hN]
 .rw[if_neg e1] at hN;have b1:(E != 0)=true:=by simp[e1]
  refine sC ?_;simp[b1];repeat first|simp|refine sR ?_
  refine sT (sH Hb Ht ?_);simp[<-hN]
theorem aKv{t:Ty}{i:Nat}(h:fY t i=0):0<=(t.ed i).fr/\0<=(t.ed i).to:=by
 unfold fY at h;split at h
 .cases h
 .split at h
  .cases h
  .unfold edR at h;split at h
   .cases h
   .split at h
    .cases h
    .rename_i h1 h2;simp only[fQ,decide_eq_false_iff_not] at h1 h2;omega
theorem aIQ{t:Ty}(h:tyE t=0):∀j,j<t.edges.length->0<=(t.ed j).fr/\0<=(t.ed j).to:=by
 unfold tyE at h;split at h
 .cases h
 .split at h
  .cases h
  .split at h
   .cases h
   .split at h
    .rename_i h1;exact absurd h h1
    .exact fun j hj=>aKv (dU _ h j hj)
theorem aBY(t:Ty)(ht:t.Fit)(e a b:Int):DC 101 [t.av,I e,I a,I b] (B (oL t e a b)):=by
 intro tok nt box nb;have hte:=ht.e;have h1:=aGD t ht a b;have i1:=jU e 0 ((t.edges.length:Int)-1);have hw0:IntKind.i64.wrap ((t.edges.length:Int)-1)=(t.edges.length:Int)-1:=by rw[aM (by omega) (by omega)]
 have hin:=@aAM t [a,b];obtain⟨N,hN⟩:∃N,oL t e a b=N:=⟨_,rfl⟩
 rw[hN];unfold oL at hN;generalize oS t [a,b]=E at *;refine sI func101 ntmps101 fun Hb Ht=>?_
 repeat first|simp|refine sR ?_
 refine sD (h1 _ _) ?_;simp;by_cases e1:E=0
 .obtain⟨htE,hin⟩:=hin e1;have ha:=hin a (by simp);have hb:=hin b (by simp);rw[if_pos e1] at hN;by_cases e2:0<=e
  .rw[if_pos e2] at hN;by_cases e3:e<t.edges.length
   .have ei:inZ e 0 ((t.edges.length:Int)-1)=true:=by simp only[inZ,decide_eq_true_eq];omega
    rw[ei] at i1;rw[if_pos e3] at hN;obtain⟨k,rfl⟩:=Int.eq_ofNat_of_zero_le e2;have hk:k<t.edges.length:=by omega
    have hfr:=aIQ htE k hk;rw[wB hk] at hfr;rw[Int.toNat_natCast,wB hk] at hN;have c1:=mO t t.edges[k].fr hfr.1 (jH htE) t.nodes.length a ha.2 ha.2;have c2:=mO t t.edges[k].to hfr.2 (jH htE) t.nodes.length b hb.2 hb.2;repeat first|simp[e1,hw0]|refine sR ?_
    refine sD (i1 _ _) ?_;repeat first|simp[hk]|refine sR ?_|refine sC ?_
    refine sD (c1 _ _) ?_;simp;cases f1:isB t a t.edges[k].fr
    .rw[f1,if_neg (by simp)] at hN;repeat first|simp|refine sR ?_
     refine sT (sH Hb Ht ?_);simp[<-hN]
    .rw[f1,if_pos rfl] at hN;repeat first|simp[hk]|refine sR ?_
     refine sD (c2 _ _) ?_;repeat first|simp|refine sR ?_
     refine sT (sH Hb Ht ?_);simp[<-hN]
   .have ei:inZ e 0 ((t.edges.length:Int)-1)=false:=by simp only[inZ,decide_eq_false_iff_not];omega
    rw[ei] at i1;rw[if_neg e3] at hN;repeat first|simp[e1,hw0]|refine sR ?_
    refine sD (i1 _ _) ?_;repeat first|simp|refine sR ?_
    refine sC ?_;repeat first|simp|refine sR ?_
    refine sT (sH Hb Ht ?_);simp[<-hN]
  .have ei:inZ e 0 ((t.edges.length:Int)-1)=false:=by simp only[inZ,decide_eq_false_iff_not];omega
   rw[ei] at i1;rw[if_neg e2] at hN;repeat first|simp[e1,hw0]|refine sR ?_
   refine sD (i1 _ _) ?_;repeat first|simp|refine sR ?_
   refine sC ?_;repeat first|simp|refine sR ?_
   refine sT (sH Hb Ht ?_);simp[<-hN]
 .rw[if_neg e1] at hN;have b1:(E != 0)=true:=by simp[e1]
  repeat first|simp[b1]|refine sR ?_|refine sC ?_
  refine sT (sH Hb Ht ?_);simp[<-hN]
def eE(t:Ty)(k:Int):Bool:=!bB (fun n=>n.par==k) t.nodes
def cI{α:Type}(p:α->Bool)(l:List α):Bool:=l.all p
theorem fP{α:Type}{p:α->Bool}{l:List α}{i:Nat}(h:i<l.length)(hp:p l[i]=false):cI p l=false:=by
 unfold cI;rw[<-Bool.not_eq_true,List.all_eq_true];intro h2;have:=h2 _ (List.getElem_mem h)
 rw[hp] at this;cases this
theorem cY{α:Type}{p:α->Bool}{l:List α}{i:Nat}(h:i<l.length)(h1:cI p (l.take i)=true)(hp:p l[i]=true):cI p (l.take (i+1))=true:=by
 unfold cI at *;rw[List.take_succ_eq_append_getElem h,List.all_append,h1];simp[hp]
def lvN(t:Ty)(n:Int):Bool:=if (t.nodes.length:Int)<=n then false else eE t n
def lvE(t:Ty)(g:Gr)(e:E):Bool:=oL t e.ty (g.nodes.getD e.fr.toNat 0) (g.nodes.getD e.to.toNat 0)
def dB(t:Ty)(g:Gr):Bool:=if cI (lvN t) g.nodes=true then cI (lvE t g) g.edges else false
def aOB(t:Ty)(k:Int)(nb:Nat)(box:Bxs)(tok:Tks)(nt:Nat)(i:Nat):AS :=
 ⟨tl [(5,I i),(1,I k),(2,.ptr (nb+2) 0 0)],lb nb box [(2,[[.d (nts t.nodes),.d (ets t.edges)]])],tok,nt⟩
theorem aKA(t:Ty)(ht:t.nodes.length<=1000000)(k:Int):DC 130 [t.av,I k] (B (eE t k)):=by
 intro tok nt box nb;obtain⟨N,hN⟩:∃N,eE t k=N:=⟨_,rfl⟩
 rw[hN];have hN2:cI (fun n=>!(n.par==k)) t.nodes=N:=by rw[<-hN,cI,eE,bB,List.any_eq_not_all_not,Bool.not_not]
 clear hN;refine sI func130 ntmps130 fun Hb Ht=>?_
 repeat first|simp|refine sR ?_
 refine sN ?_;refine sL (aOB t k nb box tok nt) (fun i=>i<=t.nodes.length/\cI (fun n=>!(n.par==k)) (t.nodes.take i)=true) (fun i=>t.nodes.length-i) 0 ⟨Nat.zero_le _,by simp[cI]⟩ wkA ?_;rintro i S' ⟨hi,hok⟩ hS;simp only[aOB] at hS;subst hS;have hw:=sW (i:=i) (by omega);repeat first|simp|refine sR ?_|refine sC ?_
 refine⟨fun hlt=>?_,fun hge=>?_⟩
 .have hno:=fun h=>fP (p:=fun n:NT=>!(n.par==k)) hlt h
  have hyes:=fun h=>cY (p:=fun n:NT=>!(n.par==k)) hlt hok h
  cases e1:t.nodes[i].par==k
  .repeat first|simp[hlt,e1]|refine sR ?_
   refine sC ?_;simp[e1];repeat first|simp[hw]|refine sR ?_
   refine sE ?_;exact⟨i+1,⟨hlt,hyes (by simp only[e1];rfl)⟩,by omega,wkA⟩
  .rw[hno (by simp only[e1];rfl)] at hN2;repeat first|simp[hlt,e1]|refine sR ?_
   refine sC ?_;simp[e1];repeat first|simp|refine sR ?_
   refine sT (sH Hb Ht ?_);simp[<-hN2]
 .refine sX ?_;simp only[AU,↓reduceIte];have:i=t.nodes.length:=by omega
  subst this;rw[List.take_length] at hok;rw[hok] at hN2;repeat first|simp|refine sR ?_
  refine sT (sH Hb Ht ?_);simp[<-hN2]
def aPh(t:Ty)(g:Gr)(nb:Nat)(box:Bxs)(tok:Tks)(nt:Nat)(i:Nat):AS :=
 ⟨tl [(5,I i),(3,.ptr (nb+3) 0 0),(2,.ptr (nb+2) 0 0)],lb nb box [(3,[[.d (ints g.nodes),.d (AM.edges g.edges)]]),(2,[[.d (nts t.nodes),.d (ets t.edges)]])],tok,nt⟩
def aOC(t:Ty)(g:Gr)(nb:Nat)(box:Bxs)(tok:Tks)(nt:Nat)(i:Nat):AS :=
 ⟨tl [(6,I i),(3,.ptr (nb+3) 0 0),(2,.ptr (nb+2) 0 0)],lb nb box [(3,[[.d (ints g.nodes),.d (AM.edges g.edges)]]),(2,[[.d (nts t.nodes),.d (ets t.edges)]])],tok,nt⟩
theorem aAh(t:Ty)(ht:t.Fit)(g:Gr)(hg:g.Fit)(hv:∀e∈g.edges,0<=e.fr/\e.fr<g.nodes.length/\0<=e.to/\e.to<g.nodes.length):DC 78 [t.av,g.av] (B (dB t g)):=by
 intro tok nt box nb;have hgn:=hg.n;have hge:=hg.e;have htn:=ht.n;obtain⟨N,hN⟩:∃N,dB t g=N:=⟨_,rfl⟩
 rw[hN];unfold dB at hN;refine sI func78 ntmps78 fun Hb Ht=>?_
 repeat first|simp|refine sR ?_
 refine sN ?_;refine sL (aPh t g nb box tok nt) (fun i=>i<=g.nodes.length/\cI (lvN t) (g.nodes.take i)=true) (fun i=>g.nodes.length-i) 0 ⟨Nat.zero_le _,by simp[cI]⟩ wkA ?_;rintro i S' ⟨hi,hok⟩ hS;simp only[aPh] at hS;subst hS;have hw:=sW (i:=i) (by omega);repeat first|simp|refine sR ?_|refine sC ?_
 refine⟨fun hlt=>?_,fun hge=>?_⟩
 .have hno:=fun h=>fP (p:=lvN t) hlt h
  have hyes:=fun h=>cY (p:=lvN t) hlt hok h
  have hl:lvN t g.nodes[i]=if (t.nodes.length:Int)<=g.nodes[i] then false else eE t g.nodes[i]:=rfl
  have hc:=aKA t (by omega) g.nodes[i];by_cases e1:(t.nodes.length:Int)<=g.nodes[i]
  .rw[if_pos e1] at hl;rw[hno hl,if_neg (by simp)] at hN;repeat first|simp[hlt,e1]|refine sR ?_
   refine sC ?_;simp[e1];repeat first|simp|refine sR ?_
   refine sT (sH Hb Ht ?_);simp[<-hN]
  .rw[if_neg e1] at hl;repeat first|simp[hlt,e1]|refine sR ?_
   refine sD (hc _ _) ?_;simp;cases e2:eE t g.nodes[i]
   .rw[e2] at hl;rw[hno hl,if_neg (by simp)] at hN;repeat first|simp|refine sR ?_
    refine sC ?_;repeat first|simp|refine sR ?_
    refine sT (sH Hb Ht ?_);simp[<-hN]
   .rw[e2] at hl;repeat first|simp[hw]|refine sR ?_|refine sC ?_
    refine sE ?_;exact⟨i+1,⟨hlt,hyes hl⟩,by omega,wkA⟩
 .refine sX ?_;simp only[AU,↓reduceIte];have:i=g.nodes.length:=by omega
  subst this;rw[List.take_length] at hok;rw[if_pos hok] at hN;repeat first|simp|refine sR ?_
  refine sN ?_;refine sL (aOC t g nb box tok nt) (fun i=>i<=g.edges.length/\cI (lvE t g) (g.edges.take i)=true) (fun i=>g.edges.length-i) 0 ⟨Nat.zero_le _,by simp[cI]⟩ wkA ?_;rintro i S' ⟨hi,hok⟩ hS;simp only[aOC] at hS;subst hS;have hw:=sW (i:=i) (by omega);repeat first|simp|refine sR ?_|refine sC ?_
  refine⟨fun hlt=>?_,fun hge=>?_⟩
  .have hno:=fun h=>fP (p:=lvE t g) hlt h
   have hyes:=fun h=>cY (p:=lvE t g) hlt hok h
   have hve:=hv _ (List.getElem_mem hlt);obtain⟨a,hef⟩:=Int.eq_ofNat_of_zero_le hve.1;obtain⟨b,het⟩:=Int.eq_ofNat_of_zero_le hve.2.2.1;have ha:a<g.nodes.length:=by omega
   have hb:b<g.nodes.length:=by omega
   have hc:=aBY t ht g.edges[i].ty g.nodes[a] g.nodes[b];have hL:lvE t g g.edges[i]=oL t g.edges[i].ty g.nodes[a] g.nodes[b]:=by simp[lvE,hef,het,ha,hb]
   rw[hL] at hno hyes;repeat first|simp[hlt,hef,het,ha,hb]|refine sR ?_
   refine sD (hc _ _) ?_;simp;cases e1:oL t g.edges[i].ty g.nodes[a] g.nodes[b]
   .rw[hno e1] at hN;repeat first|simp|refine sR ?_
    refine sC ?_;repeat first|simp|refine sR ?_
    refine sT (sH Hb Ht ?_);simp[<-hN]
   .repeat first|simp[hw]|refine sR ?_|refine sC ?_
    refine sE ?_;exact⟨i+1,⟨hlt,hyes e1⟩,by omega,wkA⟩
  .refine sX ?_;simp only[AU,↓reduceIte];have:i=g.edges.length:=by omega
   subst this;rw[List.take_length] at hok;rw[hok] at hN;repeat first|simp|refine sR ?_
   refine sT (sH Hb Ht ?_);simp[<-hN]
theorem wI{r:Ru}(h:cN r=0):vG r.lg=0/\vG r.rg=0:=(gD h).2
variable {P:Program}
theorem getD_some{l:Array Bool}{i:Nat}{d v:Bool}(h:l[i]?=some v):l.getD i d=v:=by simp[Array.getD_eq_getD_getElem?,h]
structure Ac3 where
 own:Own
 tok:Nat->Bool
 nt:Nat
def Ac3.add(x:Ac3)(b:Bool):Ac3:=if b=true then ⟨.tok (x.nt+2),upd (x.own.kill (upd (upd (upd x.tok x.nt true) x.nt false) (x.nt+1) true)) (x.nt+2) true,x.nt+3⟩ else x
structure Ac3.Ok (x:Ac3) (tok:Tks) (nt:Nat):Prop where
 adv:Adv tok nt .full x.tok x.nt x.own
 lt:∀t,tok t=true->t<nt
theorem Ac3.Ok.add{x:Ac3}{tok:Nat->Bool}{nt:Nat}(h:x.Ok tok nt)(b:Bool):(x.add b).Ok tok nt:=by
 unfold Ac3.add;split
 .have had:=Adv.fresh h.adv.live h.adv.lt;exact⟨h.adv.trans h.lt (had.trans h.adv.lt (Adv.app had.live had.lt)),h.lt⟩
 .exact h
theorem Ac3.Ok.tk{x:Ac3}{tok:Nat->Bool}{nt:Nat}(h:x.Ok tok nt):TK tok nt x.tok x.nt [x.own] :=
 ⟨fun t ht=>h.adv.keep t ht (by simp),h.lt,h.adv.le,fun o ho t e=>by
  rw[List.mem_singleton] at ho;subst ho;have hl:=h.adv.live;rw[e] at hl;refine⟨hl,?_,h.adv.lt t hl⟩;rcases h.adv.new with e2|⟨s,e2,hs⟩
  .rw[e] at e2;cases e2
  .rw[e] at e2;cases e2;exact hs,List.pairwise_singleton _ _⟩
abbrev Gr.cells(g:Gr):List D:=[ints g.nodes,AM.edges g.edges]
theorem Ac3.Ok.start{tok:Nat->Bool}{nt:Nat}(h:∀t,tok t=true->t<nt):(Ac3.mk .full tok nt).Ok tok nt:=⟨Adv.refl trivial h,h⟩
theorem TK.adv{mtok:Nat->Bool}{nt0:Nat}{tok tok':Nat->Bool}{nt nt':Nat}{os:List Own}{own':Own}(h:TK mtok nt0 tok nt os)(ha:Adv tok nt .full tok' nt' own'):TK mtok nt0 tok' nt' (own'::os):=by
 have hnew:∀s,own'=.tok s->nt<=s/\tok' s=true:=fun s e=>by
  have hl:=ha.live;rw[e] at hl;rcases ha.new with e2|⟨s2,e2,hs⟩
  .rw[e] at e2;cases e2
  .rw[e] at e2;cases e2;exact⟨hs,hl⟩
 refine⟨fun t ht=>ha.keep t (h.old t ht) (by simp),h.lt,Nat.le_trans h.le ha.le,fun o ho t e=>?_,?_⟩
 .rcases List.mem_cons.1 ho with rfl|ho
  .obtain⟨h1,h2⟩:=hnew t e;exact⟨h2,Nat.le_trans h.le h1,ha.lt t h2⟩
  .obtain⟨h1,h2,h3⟩:=h.own o ho t e;exact⟨ha.keep t h1 (by simp),h2,Nat.lt_of_lt_of_le h3 ha.le⟩
 .refine List.pairwise_cons.2 ⟨fun b hb t e e2=>?_,h.ne⟩;obtain⟨h1,h2⟩:=hnew t e;obtain⟨_,_,h3⟩:=h.own b hb t e2;omega
def Ac3.ed(x:Ac3)(s:Nat):Ac3:=⟨.tok (x.nt+1),upd (x.own.kill (upd (upd x.tok s false) x.nt true)) (x.nt+1) true,x.nt+2⟩
def Ac3.nd(x:Ac3)(s:Nat):Ac3:=⟨x.own,upd (upd x.tok s false) x.nt true,x.nt+1⟩
def zr(n:Nat):Gr:=⟨List.replicate n 0,[]⟩
def dec(n:Int):Int:=IntKind.i64.wrap (n-1)
def RS(n:Int)(s t:St2):Prop:=(s.2=0/\t.2=0/\s.1+t.1=2000/\0<=s.1/\s.1<=n)∨(s.2=3/\t.2=3)
theorem RS.zero{n:Int}{s t:St2}(h:RS n s t)(h0:s.2=0):t.2=0:=by
 rcases h with h|h
 .exact h.2.1
 .rw[h.1] at h0;cases h0
theorem sA{m:Mo}(h:uA m 140=true):m.Fit:=by
 simp[uA] at h;exact⟨by omega,by omega⟩
theorem aCw{r:Ru}(hb:r.Big)(h:aBJ r=true):r.Fit:=by
 simp only[aBJ,Bool.and_eq_true] at h;exact⟨qP h.1.1.1,qP h.1.1.2,sA h.1.2,sA h.2,hb.ls,hb.lt,hb.rs,hb.rt⟩
open Go Go.ChangeShapes
open Go.Proofs.Tryz
variable {P:Program}
def Rd(w:World)(cs:List Value)(ds:List D):Prop:=cs.length=ds.length/\∀i (h1:i<cs.length) (h2:i<ds.length),RVd w.cell? (fun _=>True) ds[i] cs[i]
theorem Rd.append{w:World}{cs cs':List Value}{ds ds':List D}(h:Rd w cs ds)(k:Rd w cs' ds'):Rd w (cs++cs') (ds++ds'):=by
 refine⟨by simp[h.1,k.1],fun i h1 h2=>?_⟩;by_cases hi:i<cs.length
 .rw[List.getElem_append_left hi,List.getElem_append_left (by rw[<-h.1];exact hi)];exact h.2 i hi _
 .have hl:=h.1;rw[List.getElem_append_right (by omega),List.getElem_append_right (by omega)];have:=k.2 (i-cs.length) (by simp at h1;omega) (by have:=k.1;simp at h1;omega)
  simpa[hl] using this
theorem Rd.one{w:World}{c:Value}{d:D}(h:RVd w.cell? (fun _=>True) d c):Rd w [c] [d]:=⟨rfl,fun i h1 h2=>by
 have:i=0:=by simpa using h1
 subst this;exact h⟩
def gB{H:Type}(P:Program)(T:TypeId)(d:DataW H):Prop:=(d.weights P T).all (· <= reachBytes)=true
structure Rdr (P:Program) (T:TypeId) (α:Type) where
 enc:α->List D
 ok:α->Prop
 len:∀x,(enc x).length=P.cellsOf T
 sound:∀{H:Type} (e:TypeId × Value->H) (w:World) (base:Nat) (spare:Nat->Bool) (held:Bool) (fuel:Nat) (cs:List Value) (x:DataW H × List MemPlace),
  DataW.trod e P w base spare held fuel T cs=some x->∃y,Rd w cs (enc y)/\(gB P T x.1->ok y)
def Rdr.int{T:TypeId}{k:IntKind}(h:P.underlying T=some (.int k))(hc:P.cellsOf T=1):Rdr P T Int where
 enc n:=[.raw (.int k n)]
 ok n:=(Lit.int k n).wf=true
 len _:=by simp[hc]
 sound e w base spare held fuel cs x hx:=by
  cases fuel with
  | zero=>simp[DataW.trod] at hx
  | succ n =>
   unfold DataW.trod at hx;rw[h] at hx;split at hx<;>simp_all
   rename_i k' n' _;exact⟨n',Rd.one (.raw rfl),fun _=>hx.1.2⟩
theorem uY{w:World}{base:Nat}{a:Addr}{n:Nat}{l:List Value}(h:w.cells? base a n=some l):l.length=n/\∀i (hi:i<l.length),w.cell? (a.add i)=some l[i]:=by
 unfold World.cells? at h;split at h
 .have h1:l.length=n:=by have:=mapM_some_length h;simpa using this
  refine⟨h1,fun i hi=>?_⟩;have hin:i<n:=by omega
  have:=mapM_some_get h i i (by simp[hin])
  rw[this];exact List.getElem?_eq_getElem hi
 .cases h
theorem tB{H:Type}{T E:TypeId}(h:P.underlying T=some (.slice E)){elems rest:List (DataW H)}(hl:gB P T (.slice elems rest)):elems.length*P.bytesOf E<=reachBytes/\∀d∈elems,gB P E d:=by
 unfold gB at hl ⊢;simp only[DataW.weights,h,List.all_cons,List.all_append,Bool.and_eq_true,decide_eq_true_eq] at hl;refine⟨Nat.le_trans (Nat.mul_le_mul_right _ (Nat.le_add_right _ _)) hl.1,?_⟩;have key:∀l:List (DataW H),(DataW.weightsAll P E l).all (· <= reachBytes)=true->∀d∈l,(d.weights P E).all (· <= reachBytes)=true:=by
  intro l;induction l with
  | nil=>intro _ d hd;simp at hd
  | cons x l ih =>
   intro hx d hd;simp only[DataW.weightsAll,List.all_append,Bool.and_eq_true] at hx;rcases List.mem_cons.1 hd with rfl|hd
   .exact hx.1
   .exact ih hx.2 d hd
 exact key elems hl.2.1
def Rdr.slice{T E:TypeId}{α:Type}(r:Rdr P E α)(h:P.underlying T=some (.slice E))(hc:P.cellsOf T=1):Rdr P T (List α) where
 enc l:=[.sl (P.cellsOf E) (l.map r.enc)]
 ok l:=(∀x∈l,r.ok x)/\l.length*P.bytesOf E<=reachBytes
 len _:=by simp[hc]
 sound e w base spare held fuel cs x hx:=by
  rcases DataW.trod_slice h hx with ⟨rfl,rfl⟩|⟨a,len,cap,elems,rest,n,rfl,rfl,rfl,hb,hl,hm,hel,hat,_⟩
  .exact⟨[],Rd.one (.sl (es:=[]) (fun _ _=>default) (nr0 _) (by decide) (by simp) (by simp) (by simp) (by simp)),fun _=>⟨by simp,by simp⟩⟩
  .have key:∀i (hi:i<elems.length),∃cs y,cs.length=P.cellsOf E/\(∀j (hj:j<cs.length),w.cell? (a.add (i*P.cellsOf E+j))=some cs[j])/\Rd w cs (r.enc y)/\(gB P E elems[i].1->r.ok y):=by
    intro i hi;have h1:=hat i (by omega);have h2:elems[i]?=some elems[i]:=List.getElem?_eq_getElem hi
    rw[h2,Option.bind_eq_some_iff] at h1;obtain⟨cs,hcs,htr⟩:=h1;obtain⟨hcl,hcc⟩:=uY hcs;obtain⟨y,hy,hok⟩:=r.sound e w base spare held n cs _ htr;refine⟨cs,y,hcl,fun j hj=>?_,hy,hok⟩;rw[<-Addr.add_add];exact hcc j hj
   have pick:∀m,m<=elems.length->∃ys:List α,ys.length=m/\(∀i (hi:i<ys.length) (hi2:i<elems.length),∃cs,cs.length=P.cellsOf E/\(∀j (hj:j<cs.length),w.cell? (a.add (i*P.cellsOf E+j))=some cs[j])/\Rd w cs (r.enc ys[i])/\(gB P E elems[i].1->r.ok ys[i])):=by
    intro m;induction m with
    | zero=>intro _;exact⟨[],rfl,fun i hi=>by simp at hi⟩
    | succ m ih =>
     intro hm';obtain⟨ys,hys,hall⟩:=ih (by omega);obtain⟨cs,y,g1,g2,g3,g4⟩:=key m (by omega);refine⟨ys++[y],by simp[hys],fun i hi hi2=>?_⟩;by_cases him:i<ys.length
     .rw[List.getElem_append_left him];exact hall i him hi2
     .have:i=m:=by simp at hi;omega
      subst this;have e1:(ys++[y])[i]=y:=by
       rw[List.getElem_append_right (by omega)];simp
      rw[e1];exact⟨cs,g1,g2,g3,g4⟩
   obtain⟨ys,hys,hall⟩:=pick elems.length (nr0 _);refine⟨ys,Rd.one ?_,fun hli=>?_⟩
   .have hlen:len=ys.length:=by omega
    subst hlen;have hml:ys.length=(ys.map r.enc).length:=by simp
    rw[hml];refine .sl (fun i j=>(w.cell? (a.add (i*P.cellsOf E+j))).getD default) (by simpa using hl) hm (fun e he=>?_) (fun _=>⟨a,rfl⟩) (fun a' ha' i j hi hj=>?_) (fun i j hi hj=>?_)
    .obtain⟨y,_,rfl⟩:=List.mem_map.1 he;exact r.len y
    .cases ha'
     obtain⟨cs,g1,g2,_⟩:=hall i (by simpa using hi) (by simp at hi;omega);rw[g2 j (by omega)];exact⟨trivial,rfl⟩
    .obtain⟨cs,g1,g2,g3,_⟩:=hall i (by simpa using hi) (by simp at hi;omega);simp only[List.getElem_map] at hj ⊢;have hjc:j<cs.length:=by rw[g3.1];exact hj
     rw[g2 j hjc];exact g3.2 j hjc hj
   .obtain⟨w1,w2⟩:=tB h hli;refine⟨fun y hy=>?_,by simpa[hys] using w1⟩;obtain⟨i,hi,rfl⟩:=List.getElem_of_mem hy;obtain⟨_,_,_,_,h4⟩:=hall i hi (by omega);exact h4 (w2 _ (List.mem_map.2 ⟨_,List.getElem_mem _,rfl⟩))
def Rdr.map{T:TypeId}{α β:Type}(r:Rdr P T α)(f:α->β)(enc:β->List D)(ok:β->Prop)(he:∀x,enc (f x)=r.enc x)(hok:∀x,r.ok x->ok (f x))(hl:∀y,(enc y).length=P.cellsOf T):Rdr P T β where
 enc:=enc
 ok:=ok
 len:=hl
 sound e w base spare held fuel cs x hx:=by
  obtain⟨y,h1,h2⟩:=r.sound e w base spare held fuel cs x hx;exact⟨f y,by rw[he];exact h1,fun hl=>hok y (h2 hl)⟩
def Rdr.sliceN{T E:TypeId}{α:Type}(r:Rdr P E α)(n:Nat)(h:P.underlying T=some (.slice E))(hc:P.cellsOf T=1)(hn:P.cellsOf E=n):Rdr P T (List α) where
 enc l:=[.sl n (l.map r.enc)]
 ok l:=(∀x∈l,r.ok x)/\l.length*P.bytesOf E<=reachBytes
 len _:=by simp[hc]
 sound:=by
  subst hn;exact(Rdr.slice r h hc).sound
theorem aPL{α:Type}{l:List α}(h:l.length=2):l=[l[0]'(by omega),l[1]'(by omega)]:=by
 match l,h with
 | [p,q],_=>rfl
theorem aNS{α:Type}{l:List α}(h:l.length=3):l=[l[0]'(by omega),l[1]'(by omega),l[2]'(by omega)]:=by
 match l,h with
 | [p,q,r],_=>rfl
def Rdr.struct2{T A B:TypeId}{α β:Type}(r:Rdr P A α)(s:Rdr P B β){f0 f1:Field}(h:P.underlying T=some (.struct #[f0,f1]))(hA:f0.type=A)(hB:f1.type=B)(h0:f0.offset=0)(h1:f1.offset=P.cellsOf A)(hc:P.cellsOf T=P.cellsOf A+P.cellsOf B):Rdr P T (α × β) where
 enc x:=r.enc x.1++s.enc x.2
 ok x:=r.ok x.1/\s.ok x.2
 len x:=by simp[r.len,s.len,hc]
 sound e w base spare held fuel cs x hx:=by
  obtain⟨xs,n,rfl,rfl,hl,hxs,hat⟩:=DataW.trod_struct h hx;have hxs':xs.length=2:=hxs
  have g0:=hat 0 f0 rfl;have g1:=hat 1 f1 rfl;have e0:xs[0]?=some (xs[0]'(by omega)):=List.getElem?_eq_getElem (by omega)
  have e1:xs[1]?=some (xs[1]'(by omega)):=List.getElem?_eq_getElem (by omega)
  rw[e0,h0,hA] at g0;rw[e1,h1,hB] at g1;obtain⟨y,k1,k2⟩:=r.sound e w base spare held n _ _ g0;obtain⟨z,m1,m2⟩:=s.sound e w base spare held n _ _ g1;refine⟨(y,z),?_,fun hli=>?_⟩
  rotate_left
  .unfold gB at hli k2 m2;have e2:xs=[xs[0]'(by omega),xs[1]'(by omega)]:=aPL hxs'
   rw[e2] at hli;simp only[List.map_cons,List.map_nil,DataW.weights,h,DataW.weightsEach,hA,hB,List.all_append,Bool.and_eq_true] at hli;exact⟨k2 hli.1,m2 hli.2.1⟩
  have hcs:cs=(cs.drop 0).take (P.cellsOf A)++(cs.drop (P.cellsOf A)).take (P.cellsOf B):=by
   have:(cs.drop (P.cellsOf A)).take (P.cellsOf B)=cs.drop (P.cellsOf A):=List.take_of_length_le (by simp;omega)
   rw[this,List.drop_zero,List.take_append_drop]
  rw[hcs];exact k1.append m1
def Rdr.struct3{T A B C:TypeId}{α β γ:Type}(r:Rdr P A α)(s:Rdr P B β)(t:Rdr P C γ){f0 f1 f2:Field}(h:P.underlying T=some (.struct #[f0,f1,f2]))(hA:f0.type=A)(hB:f1.type=B)(hC:f2.type=C)(h0:f0.offset=0)(h1:f1.offset=P.cellsOf A)(h2:f2.offset=P.cellsOf A+P.cellsOf B)(hc:P.cellsOf T=P.cellsOf A+P.cellsOf B+P.cellsOf C):Rdr P T (α × β × γ) where
 enc x:=r.enc x.1++(s.enc x.2.1++t.enc x.2.2)
 ok x:=r.ok x.1/\s.ok x.2.1/\t.ok x.2.2
 len x:=by simp[r.len,s.len,t.len,hc];omega
 sound e w base spare held fuel cs x hx:=by
  obtain⟨xs,n,rfl,rfl,hl,hxs,hat⟩:=DataW.trod_struct h hx;have hxs':xs.length=3:=hxs
  have g0:=hat 0 f0 rfl;have g1:=hat 1 f1 rfl;have g2:=hat 2 f2 rfl;have e0:xs[0]?=some (xs[0]'(by omega)):=List.getElem?_eq_getElem (by omega)
  have e1:xs[1]?=some (xs[1]'(by omega)):=List.getElem?_eq_getElem (by omega)
  have e2:xs[2]?=some (xs[2]'(by omega)):=List.getElem?_eq_getElem (by omega)
  rw[e0,h0,hA] at g0;rw[e1,h1,hB] at g1;rw[e2,h2,hC] at g2;obtain⟨y,k1,k2⟩:=r.sound e w base spare held n _ _ g0;obtain⟨z,m1,m2⟩:=s.sound e w base spare held n _ _ g1;obtain⟨q,p1,p2⟩:=t.sound e w base spare held n _ _ g2;refine⟨(y,z,q),?_,fun hli=>?_⟩
  rotate_left
  .unfold gB at hli k2 m2 p2;have e2:xs=[xs[0]'(by omega),xs[1]'(by omega),xs[2]'(by omega)]:=aNS hxs'
   rw[e2] at hli;simp only[List.map_cons,List.map_nil,DataW.weights,h,DataW.weightsEach,hA,hB,hC,List.all_append,Bool.and_eq_true] at hli;exact⟨k2 hli.1,m2 hli.2.1,p2 hli.2.2.1⟩
  have hcs:cs=(cs.drop 0).take (P.cellsOf A)++((cs.drop (P.cellsOf A)).take (P.cellsOf B)++(cs.drop (P.cellsOf A+P.cellsOf B)).take (P.cellsOf C)):=by
   have:(cs.drop (P.cellsOf A+P.cellsOf B)).take (P.cellsOf C)=cs.drop (P.cellsOf A+P.cellsOf B):=List.take_of_length_le (by simp;omega)
   rw[this,<-List.drop_drop,List.take_append_drop,List.drop_zero,List.take_append_drop]
  rw[hcs];exact k1.append (m1.append p1)
def G0:Gh:=⟨fun _=>none,fun _=>none,fun _=>.whole,0⟩
def m0:bH:=⟨fun _=>none,0,fun _=>false,0⟩
theorem aPI(a:Addr):G0.ps a:=trivial
theorem aD5(W:World)(hg:nI G0 W:=by intro g cs h;simp[aE5] at h):aV G0 m0 W:=by
 constructor
 case glob=>exact hg
 case box=>intro k rows b sz h;cases h
 case nobox=>intro k _;rfl
 case inj=>intro k k' b sz sz' h;cases h
 case nb=>intro k _;rfl
 case nt=>rfl
 case toks=>intro t h;cases h
 case tokb=>intro t g h;cases h
 case tinj=>intro t t' g h;cases h
 case tnt=>intro t x h;cases h
 case fresh=>intro b _;rfl
theorem RVd.start{W:World}{d:D}{v:Value}(h:RVd W.cell? (fun _=>True) d v):RVd W.cell? G0.ps d v:=h.mono fun a u _ hc=>⟨aPI a,hc⟩
theorem Rdr.agg{T:TypeId}{α:Type}(r:Rdr P T α){W:World}{base base':Nat}{sp:Nat->Bool}{held:Bool}{H:Type}{enc:TypeId × Value->H}{v:Value}{d:DataW H}{p:List MemPlace}(hs:aX P T=some true)(hv:Value.okWide P W .any base T v)(h:DataW.Trod enc P W base' sp held T v d p)(hli:gB P T d):∃y,r.ok y/\RV G0 W (.agg ((r.enc y).map .d)) v:=by
 have hcs:∃cs,v=.agg cs:=by
  unfold aX at hs;unfold Value.okWide at hv;cases hu:P.underlying T with
  | none=>rw[hu] at hs;simp at hs
  | some u =>
   rw[hu] at hs hv;cases u<;>simp at hs hv<;>exact⟨_,hv.choose_spec.1⟩
 obtain⟨cs,rfl⟩:=hcs;obtain⟨fuel,h⟩:=h;obtain⟨y,⟨h1,h2⟩,hok⟩:=r.sound enc W base' sp held fuel _ _ h;refine⟨y,hok hli,?_⟩;simp only[Value.cells] at h1 h2;have:=RV.agg (G:=G0) (w:=W) (cs:=(r.enc y).map .d) (vs:=cs.toList) (by simp[h1]) (fun i g1 g2=>by
  simp only[List.getElem_map];exact .d (h2 i g2 (by simpa using g1)).start) (fun v hv=>by
  obtain⟨i,hi,rfl⟩:=List.getElem_of_mem hv;exact(h2 i hi (by omega)).one)
 simpa using this
theorem Rdr.cell{T:TypeId}{α:Type}(r:Rdr P T α){W:World}{base base':Nat}{sp:Nat->Bool}{held:Bool}{H:Type}{enc:TypeId × Value->H}{v:Value}{d:DataW H}{p:List MemPlace}(f:α->D)(hs:aX P T=some false)(hf:∀y,r.enc y=[f y])(hv:Value.okWide P W .any base T v)(h:DataW.Trod enc P W base' sp held T v d p)(hli:gB P T d):∃y,r.ok y/\RV G0 W (.d (f y)) v:=by
 obtain⟨fuel,h⟩:=h;obtain⟨y,⟨h1,h2⟩,hok⟩:=r.sound enc W base' sp held fuel _ _ h;refine⟨y,hok hli,?_⟩;rw[hf] at h1;have hcs:v.cells.toList=[v]:=by
  cases v with
  | agg cs =>
   exfalso
   unfold aX at hs;unfold Value.okWide Cell.okWide Cell.ok at hv;cases hu:P.underlying T with
   | none=>rw[hu] at hs;simp at hs
   | some u =>
    rw[hu] at hs hv;cases u<;>simp_all
  | _=>rfl
 have:=h2 0 (by rw[h1];simp) (by rw[hf];simp)
 simp only[hf,List.getElem_cons_zero] at this;have e:v.cells.toList[0]'(by rw[h1];simp)=v:=by simp[hcs]
 rw[e] at this;exact .d this.start
theorem light_arg{H:Type}{ts:List TypeId}{ds:List (DataW H)}(hz:(DataW.weightsEach P ts ds).all (· <= reachBytes)=true){j:Nat}{T:TypeId}{d:DataW H}(ht:ts[j]?=some T)(hd:ds[j]?=some d):gB P T d :=
 List.all_eq_true.2 fun x hx=>List.all_eq_true.1 hz x (DataW.weights_mem_each ht hd x hx)
theorem aJQ{ps:Array TypeId}{args:Array Value}{W:World}{base base':Nat}{sp:Nat->Bool}{held:Bool}{H:Type}{enc:TypeId × Value->H}(hval:∀(j:Nat) t v,ps[j]?=some t->args[j]?=some v->Value.okWide P W .any base t v)(j:Nat)(T:TypeId)(v:Value)(hp:ps[j]?=some T)(ha:args[j]?=some v){α:Type}(r:Rdr P T α){d:DataW H}{p:List MemPlace}(hs:aX P T=some true)(h:DataW.Trod enc P W base' sp held T v d p)(hli:gB P T d):
  ∃y,r.ok y/\RV G0 W (.agg ((r.enc y).map .d)) v:=r.agg hs (hval j T v hp ha) h hli
theorem aDU{W W':World}{G':Gh}(h:Le G0 W G' W')(b:Nat)(hb:b<W.heap.size):W'.heap[b]?=W.heap[b]?:=(h.whole b hb rfl).2
theorem aKh{W W':World}{G':Gh}(h:Le G0 W G' W')(may:MemPlace->Prop):W.keptBut W' may:=by
 refine⟨h.os,h.output,fun i hi=>?_⟩;rw[aDU h i hi];split
 .rename_i c t fr c' t' fr' e1 e2;rw[e1] at e2;cases e2;exact⟨rfl,rfl,rfl,fun _ _=>rfl⟩
 .rename_i e1 e2;rw[e1] at e2;cases e2;exact .inr ⟨rfl,rfl⟩
 .rfl
theorem aJ0{W W':World}{G':Gh}(h:Le G0 W G' W'){p:MemPlace}(hp:p.block<W.heap.size):W.sameAt W' p:=by
 cases p with
 | cell b off=>exact World.cell?_of_block (w:=W) (a:=⟨b,off,none⟩) (aDU h b hp)
 | map b=>exact aDU h b hp
theorem oY{H:Type}{enc:TypeId × Value->H}{W W':World}{T:TypeId->Prop}{sp':Nat->Bool}(K:Kids P T)(hsz:∀{t e:TypeId},T t->P.underlying t=some (.slice e)->0<P.cellsOf e):
  ∀{ts:List TypeId} {vs:List Value} {ds:List (DataW H)} {ps:List MemPlace},(∀t∈ts,T t)->DataW.TrodAll enc P W 0 (fun _=>true) true ts vs ds ps->(∀p∈ps,W.sameAt W' p)->(∀p∈ps,sp' p.block=true) ->
  DataW.TrodAll enc P W' 0 sp' true ts vs ds ps
 | [],[],[],_,_,h,_,_=>h
 | t::ts,v::vs,d::ds,_,hT,⟨p,q,⟨n,hn⟩,h2,e⟩,h3,h4=>by
  subst e;exact⟨p,q,⟨n,DataW.trod_stays K hsz (fun h=>by cases h) (hT t (by simp)) hn (fun x hx=>h3 x (by simp[hx])) (fun x hx=>h4 x (by simp[hx]))⟩,
   oY K hsz (fun t ht=>hT t (by simp[ht])) h2 (fun x hx=>h3 x (by simp[hx])) (fun x hx=>h4 x (by simp[hx])),rfl⟩
theorem law_of{f:FuncId}{fn:Func}{s:ChangeSpec}{H:Type}{enc:TypeId × Value->H}{W:World}{args:Array Value}{ds:List (DataW H)}{before:List MemPlace}{avs:List AV}{tok':Nat->Bool}{nt':Nat}(hl:laidOutB P=true)(hm:mapsRowed P=true)(hz:((List.range P.types.size).all fun t=>match P.underlying t with|some (.slice e)=>decide (0<P.cellsOf e)|_=>true)=true)(hpar:fn.params.all (· < P.types.size)=true){tb:TypeId}(hres:fn.resultTypes = #[tb])(hb:P.underlying tb=some .bool)(hvars:s.vars=[])(hfn:s.fn H ds={ results:=[.lit (.bool true)],args:=ds })(hW:DataW.Whole enc P fn.params.toList s.vars false W args.toList ds [] before)(hr:RVs G0 W avs args.toList)(hc:dI P f avs (fun _=>false) 0 (B true) tok' nt')(hgl:nI G0 W:=by intro g cs h;simp[aE5] at h):
  Calls P f args W fun e W'=>∃v,e=.returned v/\s.post enc P fn false true false false W args v W':=by
 have hcall:=(hc (fun _=>none) 0).2 G0 W args.toList (aD5 W hgl) hr;simp only[Array.toArray_toList] at hcall;refine hcall.mono ?_;rintro e W' ⟨v,av,m',G',rfl,⟨rfl,rfl⟩,_,_,hv,hle,_⟩;cases hv with
 | d hv =>
  cases hv with
  | raw =>
   refine⟨_,rfl,?_⟩;have hlt:=hW.lt;have hWW:=hW;obtain⟨p,q,hA,hV,rfl,hfz,hnd⟩:=hW;rw[hvars] at hV;obtain⟨_,rfl⟩:=trodVars_none hV;simp only[List.append_nil] at hlt hfz hWW ⊢;have hT:∀t∈fn.params.toList,t<P.types.size:=fun t ht=>by
    have:=Array.all_eq_true_iff_forall_mem.1 hpar t (by simpa using ht)
    simpa using this
   have hsz:∀{t e:TypeId},t<P.types.size->P.underlying t=some (.slice e)->0<P.cellsOf e:=by
    intro t e ht hu;have:=List.all_eq_true.1 hz t (List.mem_range.2 ht)
    rw[hu] at this;simpa using this
   have hargs:∀sp:Nat->Bool,(∀x∈p,sp x.block=true)->DataW.TrodAll enc P W' 0 sp true fn.params.toList args.toList ds p:=fun sp hsp =>
    oY (kids_rows hl hm) hsz hT hA (fun x hx=>aJ0 hle (hlt x hx)) hsp
   have hnat:(Value.bool true).resultList fn.resultTypes.size=[.bool true]:=by rw[hres];rfl
   have hresb:∀(b:Nat) (sp:Nat->Bool) (hd:Bool),DataW.TrodAll enc P W' b sp hd fn.resultTypes.toList ((Value.bool true).resultList fn.resultTypes.size) [.lit (.bool true)] []:=fun b sp hd=>by
    rw[hnat,hres];exact trodAll_mk1 ⟨1,by simp[DataW.trod,hb,Value.cells]⟩
   have hfn':s.fn H (ds++[])={ results:=[.lit (.bool true)],args:=ds }:=by rw[List.append_nil];exact hfn
   refine⟨ds,[],p,[],p,[],hWW,?_,?_,?_,World.keptBut_mono (fun _ f=>f.elim) (aKh hle fun _=>False),fun h=>by cases h⟩
   .rw[hfn'];exact hresb _ _ _
   .rw[hfn'];exact hargs _ fun x hx=>by simpa using hlt x hx
   .rw[hfn',hvars];exact rfl
theorem own0:ownKnob prog.godebug=none:=by kernel_rfl
theorem laidOut0:laidOutB prog=true:=by kernel_rfl
theorem mapsRowed0:mapsRowed prog=true:=by kernel_rfl
theorem slices0:((List.range prog.types.size).all fun t=>match prog.underlying t with|some (.slice e)=>decide (0<prog.cellsOf e)|_=>true)=true:=by kernel_rfl
def bJ:Rdr prog 3 Int:=Rdr.int (k:=.i64) underlying3 (by kernel_rfl)
def rS:Rdr prog 37 (List Int):=bJ.sliceN 1 underlying37 (by kernel_rfl) (by kernel_rfl)
def aJ1:Rdr prog 164 (Int × Int × Int):=Rdr.struct3 bJ bJ bJ underlying164 rfl rfl rfl rfl (by kernel_rfl) (by kernel_rfl) (by kernel_rfl)
def aM3:Rdr prog 164 E:=aJ1.map (fun x=>⟨x.1,x.2.1,x.2.2⟩) E.cells (fun _=>True) (fun _=>rfl) (fun _ _=>trivial) (fun _=>by kernel_rfl)
def aFz:Rdr prog 38 (List E):=aM3.sliceN 3 underlying38 (by kernel_rfl) (by kernel_rfl)
def aJj:Rdr prog 40 (List Int × List E):=Rdr.struct2 rS aFz underlying40 rfl rfl rfl (by kernel_rfl) (by kernel_rfl)
structure RdF (P:Program) (T:TypeId) {α:Type} (en:α->List D) (ok:α->Prop) (n:Nat):Prop where
 sound:∀{H:Type} (e:TypeId × Value->H) (w:World) (base:Nat) (spare:Nat->Bool) (held:Bool) (cs:List Value) (x:DataW H × List MemPlace),
  DataW.trod e P w base spare held n T cs=some x->∃y,Rd w cs (en y)/\(gB P T x.1->ok y)
theorem Rdr.f{P:Program}{T:TypeId}{α:Type}(r:Rdr P T α)(n:Nat):RdF P T r.enc r.ok n:=⟨fun e w base spare held cs x hx=>r.sound e w base spare held n cs x hx⟩
theorem RdF.zero{P:Program}{T:TypeId}{α:Type}{en:α->List D}{ok:α->Prop}:RdF P T en ok 0:=⟨fun e w base spare held cs x hx=>by simp[DataW.trod] at hx⟩
def Rdr.ofF{P:Program}{T:TypeId}{α:Type}(en:α->List D)(ok:α->Prop)(len:∀x,(en x).length=P.cellsOf T)(h:∀n,RdF P T en ok n):Rdr P T α:=⟨en,ok,len,fun e w base spare held n cs x hx=>(h n).sound e w base spare held cs x hx⟩
theorem RdF.slice{P:Program}{T E:TypeId}{α:Type}{en:α->List D}{ok:α->Prop}{n:Nat}(r:RdF P E en ok n)(k:Nat)(hk:P.cellsOf E=k)(hlen:∀x,(en x).length=k)(h:P.underlying T=some (.slice E)):
  RdF P T (fun l:List α=>[.sl k (l.map en)]) (fun l=>(∀x∈l,ok x)/\l.length*P.bytesOf E<=reachBytes) (n+1):=by
 subst hk;constructor
 intro H e w base spare held cs x hx;rcases DataW.trod_slice h hx with ⟨rfl,rfl⟩|⟨a,len,cap,elems,rest,n',hn',rfl,rfl,hb,hl,hm,hel,hat,_⟩
 .exact⟨[],Rd.one (.sl (es:=[]) (fun _ _=>default) (nr0 _) (by decide) (by simp) (by simp) (by simp) (by simp)),fun _=>⟨by simp,by simp⟩⟩
 .obtain rfl:n'=n:=by omega
  have key:∀i (hi:i<elems.length),∃cs y,cs.length=P.cellsOf E/\(∀j (hj:j<cs.length),w.cell? (a.add (i*P.cellsOf E+j))=some cs[j])/\Rd w cs (en y)/\(gB P E elems[i].1->ok y):=by
   intro i hi;have h1:=hat i (by omega);have h2:elems[i]?=some elems[i]:=List.getElem?_eq_getElem hi
   rw[h2,Option.bind_eq_some_iff] at h1;obtain⟨cs,hcs,htr⟩:=h1;obtain⟨hcl,hcc⟩:=uY hcs;obtain⟨y,hy,hok⟩:=r.sound e w base spare held cs _ htr;refine⟨cs,y,hcl,fun j hj=>?_,hy,hok⟩;rw[<-Addr.add_add];exact hcc j hj
  have pick:∀m,m<=elems.length->∃ys:List α,ys.length=m/\(∀i (hi:i<ys.length) (hi2:i<elems.length),∃cs,cs.length=P.cellsOf E/\(∀j (hj:j<cs.length),w.cell? (a.add (i*P.cellsOf E+j))=some cs[j])/\Rd w cs (en ys[i])/\(gB P E elems[i].1->ok ys[i])):=by
   intro m;induction m with
   | zero=>intro _;exact⟨[],rfl,fun i hi=>by simp at hi⟩
   | succ m ih =>
    intro hm';obtain⟨ys,hys,hall⟩:=ih (by omega);obtain⟨cs,y,g1,g2,g3,g4⟩:=key m (by omega);refine⟨ys++[y],by simp[hys],fun i hi hi2=>?_⟩;by_cases him:i<ys.length
    .rw[List.getElem_append_left him];exact hall i him hi2
    .have:i=m:=by simp at hi;omega
     subst this;have e1:(ys++[y])[i]=y:=by
      rw[List.getElem_append_right (by omega)];simp
     rw[e1];exact⟨cs,g1,g2,g3,g4⟩
  obtain⟨ys,hys,hall⟩:=pick elems.length (nr0 _);refine⟨ys,Rd.one ?_,fun hli=>?_⟩
  .have hlen':len=ys.length:=by omega
   subst hlen';have hml:ys.length=(ys.map en).length:=by simp
   rw[hml];refine .sl (fun i j=>(w.cell? (a.add (i*P.cellsOf E+j))).getD default) (by simpa using hl) hm (fun e he=>?_) (fun _=>⟨a,rfl⟩) (fun a' ha' i j hi hj=>?_) (fun i j hi hj=>?_)
   .obtain⟨y,_,rfl⟩:=List.mem_map.1 he;exact hlen y
   .cases ha'
    obtain⟨cs,g1,g2,_⟩:=hall i (by simpa using hi) (by simp at hi;omega);rw[g2 j (by omega)];exact⟨trivial,rfl⟩
   .obtain⟨cs,g1,g2,g3,_⟩:=hall i (by simpa using hi) (by simp at hi;omega);simp only[List.getElem_map] at hj ⊢;have hjc:j<cs.length:=by rw[g3.1];exact hj
    rw[g2 j hjc];exact g3.2 j hjc hj
  .obtain⟨w1,w2⟩:=tB h hli;refine⟨fun y hy=>?_,by simpa[hys] using w1⟩;obtain⟨i,hi,rfl⟩:=List.getElem_of_mem hy;obtain⟨_,_,_,_,h4⟩:=hall i hi (by omega);exact h4 (w2 _ (List.mem_map.2 ⟨_,List.getElem_mem _,rfl⟩))
theorem aPZ{α:Type}{l:List α}(h:l.length=4):l=[l[0]'(by omega),l[1]'(by omega),l[2]'(by omega),l[3]'(by omega)]:=by
 match l,h with
 | [p,q,r,s],_=>rfl
theorem RdF.struct4{P:Program}{T A B C E:TypeId}{α β γ δ:Type}{ea:α->List D}{eb:β->List D}{ec:γ->List D}{ed:δ->List D}{oa:α->Prop}{ob:β->Prop}{oc:γ->Prop}{od:δ->Prop}{n:Nat}(r:RdF P A ea oa n)(s:RdF P B eb ob n)(t:RdF P C ec oc n)(u:RdF P E ed od n){f0 f1 f2 f3:Field}(h:P.underlying T=some (.struct #[f0,f1,f2,f3]))(hA:f0.type=A)(hB:f1.type=B)(hC:f2.type=C)(hE:f3.type=E)(h0:f0.offset=0)(h1:f1.offset=P.cellsOf A)(h2:f2.offset=P.cellsOf A+P.cellsOf B)(h3:f3.offset=P.cellsOf A+P.cellsOf B+P.cellsOf C)(hc:P.cellsOf T=P.cellsOf A+P.cellsOf B+P.cellsOf C+P.cellsOf E):
  RdF P T (fun x:α × β × γ × δ=>ea x.1++(eb x.2.1++(ec x.2.2.1++ed x.2.2.2))) (fun x=>oa x.1/\ob x.2.1/\oc x.2.2.1/\od x.2.2.2) (n+1):=by
 constructor
 intro H e w base spare held cs x hx;obtain⟨xs,n',hn',rfl,hl,hxs,hat⟩:=DataW.trod_struct h hx;obtain rfl:n'=n:=by omega
 have hxs':xs.length=4:=hxs
 have g0:=hat 0 f0 rfl;have g1:=hat 1 f1 rfl;have g2:=hat 2 f2 rfl;have g3:=hat 3 f3 rfl;have e0:xs[0]?=some (xs[0]'(by omega)):=List.getElem?_eq_getElem (by omega)
 have e1:xs[1]?=some (xs[1]'(by omega)):=List.getElem?_eq_getElem (by omega)
 have e2:xs[2]?=some (xs[2]'(by omega)):=List.getElem?_eq_getElem (by omega)
 have e3:xs[3]?=some (xs[3]'(by omega)):=List.getElem?_eq_getElem (by omega)
 rw[e0,h0,hA] at g0;rw[e1,h1,hB] at g1;rw[e2,h2,hC] at g2;rw[e3,h3,hE] at g3;obtain⟨y,k1,k2⟩:=r.sound e w base spare held _ _ g0;obtain⟨z,m1,m2⟩:=s.sound e w base spare held _ _ g1;obtain⟨q,p1,p2⟩:=t.sound e w base spare held _ _ g2;obtain⟨v,q1,q2⟩:=u.sound e w base spare held _ _ g3;refine⟨(y,z,q,v),?_,fun hli=>?_⟩
 rotate_left
 .unfold gB at hli k2 m2 p2 q2;have e2:xs=[xs[0]'(by omega),xs[1]'(by omega),xs[2]'(by omega),xs[3]'(by omega)]:=aPZ hxs'
  rw[e2] at hli;simp only[List.map_cons,List.map_nil,DataW.weights,h,DataW.weightsEach,hA,hB,hC,hE,List.all_append,Bool.and_eq_true] at hli;exact⟨k2 hli.1,m2 hli.2.1,p2 hli.2.2.1,q2 hli.2.2.2.1⟩
 have hcs:cs=(cs.drop 0).take (P.cellsOf A)++((cs.drop (P.cellsOf A)).take (P.cellsOf B)++((cs.drop (P.cellsOf A+P.cellsOf B)).take (P.cellsOf C)++(cs.drop (P.cellsOf A+P.cellsOf B+P.cellsOf C)).take (P.cellsOf E))):=by
  have:(cs.drop (P.cellsOf A+P.cellsOf B+P.cellsOf C)).take (P.cellsOf E)=cs.drop (P.cellsOf A+P.cellsOf B+P.cellsOf C):=List.take_of_length_le (by simp;omega)
  rw[this];have e3:=List.take_append_drop (P.cellsOf C) (cs.drop (P.cellsOf A+P.cellsOf B));have e2:=List.take_append_drop (P.cellsOf B) (cs.drop (P.cellsOf A));rw[List.drop_drop] at e3 e2;rw[e3,e2,List.drop_zero,List.take_append_drop]
 rw[hcs];exact k1.append (m1.append (p1.append q1))
theorem aMs:prog.bytesOf 3=8:=by kernel_rfl
theorem aKb:prog.bytesOf 164=24:=by kernel_rfl
theorem aFo:prog.bytesOf 381=32:=by kernel_rfl
theorem aER:prog.bytesOf 383=40:=by kernel_rfl
theorem aKM:prog.bytesOf 50=184:=by kernel_rfl
theorem eD{l:List Int}(h:rS.ok l):l.length<=dN:=by
 have h2:l.length*prog.bytesOf 3<=reachBytes:=h.2
 rw[aMs] at h2;unfold reachBytes at h2;rw[bM];omega
theorem aEf{l:List E}(h:aFz.ok l):l.length<=dN:=by
 have h2:l.length*prog.bytesOf 164<=reachBytes:=h.2
 rw[aKb] at h2;unfold reachBytes at h2;rw[bM];omega
structure Gr.Big (g:Gr):Prop where
 n:g.nodes.length<=dN
 e:g.edges.length<=dN
def fO:Rdr prog 40 Gr:=aJj.map (fun x=>⟨x.1,x.2⟩) (fun g=>[ints g.nodes,AM.edges g.edges]) Gr.Big (fun _=>rfl) (fun _ h=>⟨eD h.1,aEf h.2⟩) (fun _=>by kernel_rfl)
def jZ:Rdr prog 47 (List Int × List Int):=Rdr.struct2 rS rS underlying47 rfl rfl rfl (by kernel_rfl) (by kernel_rfl)
def aEm:Rdr prog 379 (Int × Int):=Rdr.struct2 bJ bJ underlying379 rfl rfl rfl (by kernel_rfl) (by kernel_rfl)
def aJM:Rdr prog 381 (Int × Int × Int × Int):=Rdr.struct3 bJ bJ aEm underlying381 rfl rfl rfl rfl (by kernel_rfl) (by kernel_rfl) (by kernel_rfl)
def aMZ:Rdr prog 381 Sl:=aJM.map (fun x=>⟨x.1,x.2.1,x.2.2.1,x.2.2.2⟩) Sl.cells (fun _=>True) (fun _=>rfl) (fun _ _=>trivial) (fun _=>by kernel_rfl)
def rJ:Rdr prog 41 (List Sl):=aMZ.sliceN 4 underlying41 (by kernel_rfl) (by kernel_rfl)
def aKH:Rdr prog 383 (Int × (Int × Int) × (Int × Int)):=Rdr.struct3 bJ aEm aEm underlying383 rfl rfl rfl rfl (by kernel_rfl) (by kernel_rfl) (by kernel_rfl)
def aNd:Rdr prog 383 Te:=aKH.map (fun x=>⟨x.1,x.2.1.1,x.2.1.2,x.2.2.1,x.2.2.2⟩) Te.cells (fun _=>True) (fun _=>rfl) (fun _ _=>trivial) (fun _=>by kernel_rfl)
def rB:Rdr prog 42 (List Te):=aNd.sliceN 5 underlying42 (by kernel_rfl) (by kernel_rfl)
theorem aJ8(n:Nat):RdF prog 44 (fun x:Gr × List Sl × Int × List Te=>fO.enc x.1++(rJ.enc x.2.1++(bJ.enc x.2.2.1++rB.enc x.2.2.2))) (fun x=>fO.ok x.1/\rJ.ok x.2.1/\bJ.ok x.2.2.1/\rB.ok x.2.2.2) n:=by
 cases n with
 | zero=>exact .zero
 | succ n=>exact RdF.struct4 (fO.f n) (rJ.f n) (bJ.f n) (rB.f n) underlying44 rfl rfl rfl rfl rfl (by kernel_rfl) (by kernel_rfl) (by kernel_rfl) (by kernel_rfl)
def tQ:Rdr prog 44 (Gr × List Sl × Int × List Te):=Rdr.ofF _ _ (fun x=>by simp[fO.len,rJ.len,bJ.len,rB.len];kernel_rfl) aJ8
def Cd.rowD(c:Cd):List D:=[.raw (.int .i64 c.kind),aAE c.kids,ints c.m.nodes,ints c.m.edges,ints c.g.nodes,AM.edges c.g.edges,gS c.sl,.raw (.int .i64 c.vars),gR c.te]
theorem aIE:∀n,RdF prog 50 Cd.cells Cd.Big n
 | 0=>.zero
 | 1=>by
  constructor
  intro H e w base spare held cs x hx;obtain⟨xs,n',hn',rfl,hl,hxs,hat⟩:=DataW.trod_struct underlying50 hx;obtain rfl:n'=0:=by omega
  have g0:=hat 0 _ rfl;simp[DataW.trod] at g0;subst g0;simp at hxs
 | n+2=>by
  have ih:=aIE n;have hk:=ih.slice 9 (by kernel_rfl) (fun c=>by rw[c.cells_eq];rfl) (T:=48) underlying48;have hs:=RdF.struct4 (bJ.f (n+1)) hk (jZ.f (n+1)) (tQ.f (n+1)) underlying50 rfl rfl rfl rfl rfl (by kernel_rfl) (by kernel_rfl) (by kernel_rfl) (by kernel_rfl);constructor
  intro H e w base spare held cs x hx;obtain⟨y,h1,h2⟩:=hs.sound e w base spare held cs x hx;refine⟨.mk y.1 y.2.1 ⟨y.2.2.1.1,y.2.2.1.2⟩ y.2.2.2.1 y.2.2.2.2.1 y.2.2.2.2.2.1 y.2.2.2.2.2.2,?_,fun hli=>?_⟩
  .rw[Cd.cells_eq];exact h1
  .obtain⟨_,⟨k1,k2⟩,⟨m1,m2⟩,g1,s1,_,t1⟩:=h2 hli;have g2:y.2.2.2.1.Big:=g1
   have s2:y.2.2.2.2.1.length*prog.bytesOf 381<=reachBytes:=s1.2
   have t2:y.2.2.2.2.2.2.length*prog.bytesOf 383<=reachBytes:=t1.2
   rw[aFo] at s2;rw[aER] at t2;rw[aKM] at k2;unfold reachBytes at s2 t2 k2;exact .mk (by rw[aJG];simp only[Cd.kids];omega) (eD m1) (eD m2) g2.n g2.e (by rw[bM];simp only[Cd.sl];omega) (by rw[bM];simp only[Cd.te];omega) k1
theorem aID(c:Cd):c.cells.length=prog.cellsOf 50:=by rw[c.cells_eq];kernel_rfl
def aKy:Rdr prog 50 Cd:=Rdr.ofF Cd.cells Cd.Big aID aIE
def Rdr.str{P:Program}{T:TypeId}(h:P.underlying T=some .string)(hc:P.cellsOf T=1):Rdr P T ByteArray where
 enc n:=[.raw (.string n)]
 ok n:=n.size<=maxLen
 len _:=by simp[hc]
 sound e w base spare held fuel cs x hx:=by
  cases fuel with
  | zero=>simp[DataW.trod] at hx
  | succ n =>
   unfold DataW.trod at hx;rw[h] at hx;split at hx<;>simp_all
   exact⟨_,Rd.one (.raw rfl),fun _=>hx.1⟩
def Rdr.bool{P:Program}{T:TypeId}(h:P.underlying T=some .bool)(hc:P.cellsOf T=1):Rdr P T Bool where
 enc n:=[.raw (.bool n)]
 ok n:=True
 len _:=by simp[hc]
 sound e w base spare held fuel cs x hx:=by
  cases fuel with
  | zero=>simp[DataW.trod] at hx
  | succ n =>
   unfold DataW.trod at hx;rw[h] at hx;split at hx<;>first|(simp_all;done)|skip
   exact⟨_,Rd.one (.raw rfl),fun _=>trivial⟩
theorem aPr{α:Type}{l:List α}(h:l.length=7):l=[l[0]'(by omega),l[1]'(by omega),l[2]'(by omega),l[3]'(by omega),l[4]'(by omega),l[5]'(by omega),l[6]'(by omega)]:=by
 match l,h with
 | [p0,p1,p2,p3,p4,p5,p6],_=>rfl
theorem RdF.struct7{P:Program}{T T0 T1 T2 T3 T4 T5 T6:TypeId}{a0 a1 a2 a3 a4 a5 a6:Type}{e0:a0->List D}{e1:a1->List D}{e2:a2->List D}{e3:a3->List D}{e4:a4->List D}{e5:a5->List D}{e6:a6->List D}{o0:a0->Prop}{o1:a1->Prop}{o2:a2->Prop}{o3:a3->Prop}{o4:a4->Prop}{o5:a5->Prop}{o6:a6->Prop}{n:Nat}(r0:RdF P T0 e0 o0 n)(r1:RdF P T1 e1 o1 n)(r2:RdF P T2 e2 o2 n)(r3:RdF P T3 e3 o3 n)(r4:RdF P T4 e4 o4 n)(r5:RdF P T5 e5 o5 n)(r6:RdF P T6 e6 o6 n){f0 f1 f2 f3 f4 f5 f6:Field}(h:P.underlying T=some (.struct #[f0,f1,f2,f3,f4,f5,f6]))(t0:f0.type=T0)(t1:f1.type=T1)(t2:f2.type=T2)(t3:f3.type=T3)(t4:f4.type=T4)(t5:f5.type=T5)(t6:f6.type=T6)(h0:f0.offset=0)(h1:f1.offset=P.cellsOf T0)(h2:f2.offset=P.cellsOf T0+P.cellsOf T1)(h3:f3.offset=P.cellsOf T0+P.cellsOf T1+P.cellsOf T2)(h4:f4.offset=P.cellsOf T0+P.cellsOf T1+P.cellsOf T2+P.cellsOf T3)(h5:f5.offset=P.cellsOf T0+P.cellsOf T1+P.cellsOf T2+P.cellsOf T3+P.cellsOf T4)(h6:f6.offset=P.cellsOf T0+P.cellsOf T1+P.cellsOf T2+P.cellsOf T3+P.cellsOf T4+P.cellsOf T5)(hc:P.cellsOf T=P.cellsOf T0+P.cellsOf T1+P.cellsOf T2+P.cellsOf T3+P.cellsOf T4+P.cellsOf T5+P.cellsOf T6):
  RdF P T (fun x:a0 × a1 × a2 × a3 × a4 × a5 × a6=>e0 x.1++(e1 x.2.1++(e2 x.2.2.1++(e3 x.2.2.2.1++(e4 x.2.2.2.2.1++(e5 x.2.2.2.2.2.1++e6 x.2.2.2.2.2.2)))))) (fun x=>o0 x.1/\o1 x.2.1/\o2 x.2.2.1/\o3 x.2.2.2.1/\o4 x.2.2.2.2.1/\o5 x.2.2.2.2.2.1/\o6 x.2.2.2.2.2.2) (n+1):=by
 constructor
 intro H e w base spare held cs x hx;obtain⟨xs,n',hn',rfl,hl,hxs,hat⟩:=DataW.trod_struct h hx;obtain rfl:n'=n:=by omega
 have hxs':xs.length=7:=hxs
 have g0:=hat 0 f0 rfl;have g1:=hat 1 f1 rfl;have g2:=hat 2 f2 rfl;have g3:=hat 3 f3 rfl;have g4:=hat 4 f4 rfl;have g5:=hat 5 f5 rfl;have g6:=hat 6 f6 rfl;have e0:xs[0]?=some (xs[0]'(by omega)):=List.getElem?_eq_getElem (by omega)
 have e1:xs[1]?=some (xs[1]'(by omega)):=List.getElem?_eq_getElem (by omega)
 have e2:xs[2]?=some (xs[2]'(by omega)):=List.getElem?_eq_getElem (by omega)
 have e3:xs[3]?=some (xs[3]'(by omega)):=List.getElem?_eq_getElem (by omega)
 have e4:xs[4]?=some (xs[4]'(by omega)):=List.getElem?_eq_getElem (by omega)
 have e5:xs[5]?=some (xs[5]'(by omega)):=List.getElem?_eq_getElem (by omega)
 have e6:xs[6]?=some (xs[6]'(by omega)):=List.getElem?_eq_getElem (by omega)
 rw[e0,h0,t0] at g0;rw[e1,h1,t1] at g1;rw[e2,h2,t2] at g2;rw[e3,h3,t3] at g3;rw[e4,h4,t4] at g4;rw[e5,h5,t5] at g5;rw[e6,h6,t6] at g6;obtain⟨y0,k0,m0⟩:=r0.sound e w base spare held _ _ g0;obtain⟨y1,k1,m1⟩:=r1.sound e w base spare held _ _ g1;obtain⟨y2,k2,m2⟩:=r2.sound e w base spare held _ _ g2;obtain⟨y3,k3,m3⟩:=r3.sound e w base spare held _ _ g3;obtain⟨y4,k4,m4⟩:=r4.sound e w base spare held _ _ g4;obtain⟨y5,k5,m5⟩:=r5.sound e w base spare held _ _ g5;obtain⟨y6,k6,m6⟩:=r6.sound e w base spare held _ _ g6;refine⟨(y0,y1,y2,y3,y4,y5,y6),?_,fun hli=>?_⟩
 rotate_left
 .unfold gB at hli m0 m1 m2 m3 m4 m5 m6;rw[aPr hxs'] at hli;simp only[List.map_cons,List.map_nil,DataW.weights,h,DataW.weightsEach,t0,t1,t2,t3,t4,t5,t6,List.all_append,Bool.and_eq_true] at hli;exact⟨m0 hli.1,m1 hli.2.1,m2 hli.2.2.1,m3 hli.2.2.2.1,m4 hli.2.2.2.2.1,m5 hli.2.2.2.2.2.1,m6 hli.2.2.2.2.2.2.1⟩
 have hcs:cs=(cs.drop (0)).take (P.cellsOf T0)++((cs.drop (P.cellsOf T0)).take (P.cellsOf T1)++((cs.drop (P.cellsOf T0+P.cellsOf T1)).take (P.cellsOf T2)++((cs.drop (P.cellsOf T0+P.cellsOf T1+P.cellsOf T2)).take (P.cellsOf T3)++((cs.drop (P.cellsOf T0+P.cellsOf T1+P.cellsOf T2+P.cellsOf T3)).take (P.cellsOf T4)++((cs.drop (P.cellsOf T0+P.cellsOf T1+P.cellsOf T2+P.cellsOf T3+P.cellsOf T4)).take (P.cellsOf T5)++((cs.drop (P.cellsOf T0+P.cellsOf T1+P.cellsOf T2+P.cellsOf T3+P.cellsOf T4+P.cellsOf T5)).take (P.cellsOf T6))))))):=by
  have:(cs.drop (P.cellsOf T0+P.cellsOf T1+P.cellsOf T2+P.cellsOf T3+P.cellsOf T4+P.cellsOf T5)).take (P.cellsOf T6)=cs.drop (P.cellsOf T0+P.cellsOf T1+P.cellsOf T2+P.cellsOf T3+P.cellsOf T4+P.cellsOf T5):=List.take_of_length_le (by simp;omega)
  rw[this];have e5:=List.take_append_drop (P.cellsOf T5) (cs.drop (P.cellsOf T0+P.cellsOf T1+P.cellsOf T2+P.cellsOf T3+P.cellsOf T4));have e4:=List.take_append_drop (P.cellsOf T4) (cs.drop (P.cellsOf T0+P.cellsOf T1+P.cellsOf T2+P.cellsOf T3));have e3:=List.take_append_drop (P.cellsOf T3) (cs.drop (P.cellsOf T0+P.cellsOf T1+P.cellsOf T2));have e2:=List.take_append_drop (P.cellsOf T2) (cs.drop (P.cellsOf T0+P.cellsOf T1));have e1:=List.take_append_drop (P.cellsOf T1) (cs.drop (P.cellsOf T0));rw[List.drop_drop] at e5 e4 e3 e2 e1;rw[e5,e4,e3,e2,e1,List.drop_zero,List.take_append_drop]
 rw[hcs];exact k0.append (k1.append (k2.append (k3.append (k4.append (k5.append (k6))))))
def eK:Rdr prog 9 ByteArray:=Rdr.str underlying9 (by kernel_rfl)
def mM:Rdr prog 4 Bool:=Rdr.bool underlying4 (by kernel_rfl)
def uI:Rdr prog 46 (List Int × List Int):=Rdr.struct2 rS rS underlying46 rfl rfl rfl (by kernel_rfl) (by kernel_rfl)
theorem xC{l:List Sl}(h:rJ.ok l):l.length<=dN:=by
 have h2:l.length*prog.bytesOf 381<=reachBytes:=h.2
 rw[aFo] at h2;have:reachBytes=140737488351232:=rfl
 rw[bM];omega
theorem wK{l:List Te}(h:rB.ok l):l.length<=dN:=by
 have h2:l.length*prog.bytesOf 383<=reachBytes:=h.2
 rw[aER] at h2;have:reachBytes=140737488351232:=rfl
 rw[bM];omega
abbrev RuT:=ByteArray × (Gr × List Sl × Int × List Te) × (Gr × List Sl × Int × List Te) × (List Int × List Int) × (List Int × List Int) × Bool × Cd
theorem aMu(n:Nat):RdF prog 52 (fun x:RuT=>eK.enc x.1++(tQ.enc x.2.1++(tQ.enc x.2.2.1++(uI.enc x.2.2.2.1++(jZ.enc x.2.2.2.2.1++(mM.enc x.2.2.2.2.2.1++aKy.enc x.2.2.2.2.2.2)))))) (fun x=>eK.ok x.1/\tQ.ok x.2.1/\tQ.ok x.2.2.1/\uI.ok x.2.2.2.1/\jZ.ok x.2.2.2.2.1/\mM.ok x.2.2.2.2.2.1/\aKy.ok x.2.2.2.2.2.2) n:=by
 cases n with
 | zero=>exact .zero
 | succ n=>exact RdF.struct7 (eK.f n) (tQ.f n) (tQ.f n) (uI.f n) (jZ.f n) (mM.f n) (aKy.f n) underlying52 rfl rfl rfl rfl rfl rfl rfl rfl (by kernel_rfl) (by kernel_rfl) (by kernel_rfl) (by kernel_rfl) (by kernel_rfl) (by kernel_rfl) (by kernel_rfl)
def aPs:Rdr prog 52 RuT:=Rdr.ofF _ _ (fun x=>by simp[eK.len,tQ.len,uI.len,jZ.len,mM.len,aKy.len];kernel_rfl) aMu
def Ru.rowD(r:Ru):List D:=[.raw (.string r.name),ints r.lg.nodes,AM.edges r.lg.edges,gS r.lsl,.raw (.int .i64 r.lv),gR r.lte,ints r.rg.nodes,AM.edges r.rg.edges,gS r.rsl,.raw (.int .i64 r.rv),gR r.rte,
 ints r.k.nodes,ints r.k.edges,ints r.i.nodes,ints r.i.edges,.raw (.bool r.inj)]++r.c.cells
theorem aJt(r:Ru):r.rowD.length=prog.cellsOf 52:=by rw[Ru.rowD,r.c.cells_eq];kernel_rfl
def aRe:Rdr prog 52 Ru:=aPs.map (fun x=>⟨x.1,x.2.1.1,x.2.1.2.1,x.2.1.2.2.1,x.2.1.2.2.2,x.2.2.1.1,x.2.2.1.2.1,x.2.2.1.2.2.1,x.2.2.1.2.2.2,⟨x.2.2.2.1.1,x.2.2.2.1.2⟩,⟨x.2.2.2.2.1.1,x.2.2.2.2.1.2⟩,x.2.2.2.2.2.1,x.2.2.2.2.2.2⟩) Ru.rowD Ru.Big (fun _=>rfl) (fun x h=>⟨⟨eD h.2.2.2.1.1,eD h.2.2.2.1.2⟩,⟨eD h.2.2.2.2.1.1,eD h.2.2.2.2.1.2⟩,xC h.2.1.2.1,wK h.2.1.2.2.2,xC h.2.2.1.2.1,wK h.2.2.1.2.2.2,h.2.2.2.2.2.2⟩) aJt
end Go.AM
