/-
 Parts of the proof, as merged from many texts: a machine over data, what the functions compute, plain laws.
-/
import Derived.Test.YtainalmfffjnjaaGreatDoorPKE11
import Derived.Still
set_option linter.unusedSimpArgs false
set_option linter.unusedVariables false
namespace Go.AM
open Go Go.Proofs
theorem cloneStr_c (xs:List ByteArray) (hx:xs.length≤1000000) (tok:Tks) (nt:Nat):DCall Tryz.prog 293 [.d (strs xs)] tok nt (.d (strs xs)) tok nt:=by
 intro box nb;refine sI Tryz.func293 Tryz.ntmps293 fun hbox htok=>?_
 have hkk:TK tok nt (upd tok nt true) (nt+1) [.tok nt]:=(TK.start htok).full.app
 refine sR ?_;simp;refine sR ?_;simp;refine ⟨?_,fun h=>?_⟩
 ·refine sC ?_;simp;refine sR ?_;simp;refine ⟨by omega,?_⟩;refine sT (sG hbox htok hkk.old hkk.le ?_);simp [packA,strs]
 ·subst h;refine sC ?_;simp;refine sR ?_;simp;refine sT (sH hbox htok ?_);simp [packA,strs]
def stAtP (A:List At) (nb:Nat) (box:Bxs) (R:List (List AV)) (tok:Tks) (nt:Nat) (i:Nat):AState :=
 ⟨tl [(20,I A.length),(21,I i),(7,.msl (nb+7) 0 A.length 4)],lb nb box [(7,rowsD (A.map At.cells)++R)],tok,nt⟩
set_option maxRecDepth 100000 in
theorem attrsP_c (t:Ty) (ht:t.Fit) (hM:∀ i,(t.nd i).own.length≤1000) (i:Nat) (hi:i<t.nodes.length) (hp:∀ j,j≤i→(t.nd j).par<j) (hg:givE t [(i:Int)]=0) (hN:∀ a∈atsL t i,a.names.length≤1000000) (tok:Tks) (nt:Nat) :
  DCall Tryz.prog 265 [t.av,I i] tok nt (.tup [.d (atts (atsL t i)),I 0]) tok nt:=by
 intro box nb;obtain ⟨tok1,nt1,u,hk,hc⟩:=attrsK_c t ht hM (i+1) i (Nat.lt_succ_self _) hi hp tok nt;have hlen:=atsL_len hM (i+1) i (Nat.lt_succ_self _);have hb:(i+1) * 1000≤1000 * 1000:=Nat.mul_le_mul_right _ (by have:=ht.n; omega)
 have hgc:=fun tok nt=>given_c t ht [(i:Int)] (by simp) tok nt
 rw [hg] at hgc;generalize atsL t i=A at *;refine sI Tryz.func265 Tryz.ntmps265 fun hbox htok=>?_
 have hkk:=hk htok;repeat (first|simp|refine sR ?_)
 refine Stop.sub (args':=[t.av,.d (ints [(i:Int)])]) ⟨Sub.refl _,Sub.data _ _ _,trivial⟩ ?_;refine Stop.of_d (hgc _ _) ?_;simp;try (simp)
 repeat (first|(refine sR ?_; simp)|(refine sC ?_; simp)|(refine sX ?_; simp only [AU, ↓reduceIte]))
 refine Stop.of_d (hc) ?_;repeat (first|simp|refine sR ?_)
 refine AL.weak (Weaks.mk (l':=[(21,I 0),(20,I A.length),(7,.stk u 4 (A.map At.cells))]) (loc':=[]) hkk.le rfl (by simp [ToL,lk]) (by simp [BoxL,lk])) ?_;by_cases hne:A=[]
 ·subst hne;refine AL.stkD u hkk.live ?_;simp only [List.map_cons,List.map_nil,AV.sdT, ↓reduceIte];have htk0:TK tok nt (upd tok1 u false) nt1 [.full]:=hkk.spend.full
  refine sN ?_;refine AL.loopT (fun (_:Unit)=>⟨tl [(20,I 0),(21,I 0),(7,.d (.sl 4 []))],lb nb box [],upd tok1 u false,nt1⟩) (fun _=>True) (fun _=>0) () trivial (Weaks.mk htk0.le rfl (by simp [ToL,lk]) trivial) ?_;rintro _ S _ hS;subst hS;try (simp)
  repeat (first|(refine sR ?_; simp)|(refine sC ?_; simp)|(refine sX ?_; simp only [AU, ↓reduceIte]))
  refine sT (sG hbox htok htk0.old htk0.le ?_);simp [packA,atts]
 refine AL.thawS (l':=[(21,I 0),(20,I A.length),(7,.msl (nb+7) 0 A.length 4)]) (loc':=[]) u 7 4 (A.map At.cells) 7 rfl (show (7:Nat)<36 by decide) rfl hkk.live (by simpa using hne) rfl (by simp [CvL]) trivial ?_;intro mm;have hro:∀ (p q:Nat→Prop) fz,RowsTo p q fz (rowsD (A.map At.cells)++List.replicate mm (List.replicate 4 AV.bot)) (rowsD (A.map At.cells)++List.replicate mm (List.replicate 4 AV.bot)):=fun p q fz=>rowsTo_same fun r hr x hx=>by
  rcases List.mem_append.1 hr with hr|hr
  ·obtain ⟨e,_,rfl⟩:=List.mem_map.1 hr;obtain ⟨d,_,rfl⟩:=List.mem_map.1 hx;exact .d
  ·rw [List.eq_of_mem_replicate hr] at hx;rw [List.eq_of_mem_replicate hx];exact .bot
 generalize hRm:List.replicate mm (List.replicate 4 AV.bot)=R at *;have htk1:TK tok nt (upd tok1 u false) nt1 [.full]:=hkk.spend.full
 generalize upd tok1 u false=tok2 at *;refine sN ?_;refine AL.loopT (stAtP A nb box R tok2 nt1) (fun i=>i≤A.length) (fun i=>A.length - i) 0 (Nat.zero_le _) (Weaks.mk htk1.le rfl (by simp [ToL,lk]) (by simp only [BoxL,lk_cons, ↓reduceIte,and_true]; exact ⟨_,rfl,hro _ _ _⟩)) ?_;rintro j S hj hS;simp only [stAtP] at hS;subst hS;have hw:=sW (i:=j) (by omega);repeat (first|simp|refine sR ?_|refine sC ?_)
 refine ⟨fun hlt=>?_,fun hge=>?_⟩
 ·have hrow:(rowsD (A.map At.cells)++R)[j]?=some [Sb A[j].name,I A[j].lo,I A[j].hi,.d (strs A[j].names)]:=by
   rw [List.getElem?_append_left (by simpa [rowsD] using hlt)];simp [rowsD,hlt]
  have hset:(rowsD (A.map At.cells)).set j [Sb A[j].name,I A[j].lo,I A[j].hi,.d (strs A[j].names)]=rowsD (A.map At.cells):=by
   refine List.ext_getElem? fun k=>?_
   rw [List.getElem?_set];split
   ·rename_i e; subst e;simp [rowsD,hlt]
   ·rfl
  have hcl:=cloneStr_c A[j].names (hN _ (List.getElem_mem hlt));try (simp [hlt,hrow])
  repeat (first|(refine sR ?_; simp [hlt,hrow])|(refine sC ?_; simp [hlt,hrow])|(refine sX ?_; simp only [AU, ↓reduceIte]))
  refine Stop.of_d (hcl _ _) ?_;simp [hlt,hrow];try (simp [hlt,hrow,hset,hw])
  repeat (first|(refine sR ?_; simp [hlt,hrow,hset,hw])|(refine sC ?_; simp [hlt,hrow,hset,hw])|(refine sX ?_; simp only [AU, ↓reduceIte]))
  refine sE ?_;exact ⟨j+1,hlt,by omega,Weaks.mk htk1.le rfl (by simp [ToL,lk]) (by simp only [BoxL,lk_cons, ↓reduceIte,and_true]; exact ⟨_,rfl,hro _ _ _⟩)⟩
 ·refine sX ?_;simp only [AU, ↓reduceIte];have:j=A.length:=by omega
  subst this;try (simp)
  repeat (first|(refine sR ?_; simp)|(refine sC ?_; simp)|(refine sX ?_; simp only [AU, ↓reduceIte]))
  refine AL.weak (Weaks.mk (l':=[(5,I 0),(4,.msl (nb+7) 0 A.length 4)]) (loc':=[(7,rowsD (A.map At.cells)++R)]) htk1.le rfl (by simp [ToL,lk,lb_at]) (by simp only [BoxL,lk_cons, ↓reduceIte,and_true]; exact ⟨_,rfl,hro _ _ _⟩)) ?_;have hes:(A.map At.cells).length=A.length:=by simp
  refine AL.trans (Trans.sealD (l:=[(5,I 0),(4,.msl (nb+7) 0 A.length 4)]) (l':=[(5,I 0),(4,.d (atts A))]) (loc:=[]) (loc':=[]) 7 4 (A.map At.cells) R 4 rfl (fun e he=>by obtain ⟨b,_,rfl⟩:=List.mem_map.1 he; rfl) (by rw [hes]; rfl) rfl ⟨rfl,.same (by simp),rfl,by have:=@SpTo.msl (nb+7) 4 (A.map At.cells); rw [hes] at this; exact this,trivial⟩ trivial) ?_;refine sT (sG hbox htok htk1.old htk1.le ?_);simp [packA]
def atsK (t:Ty) (k:Int):List At:=if k.toNat<t.nodes.length then atsL t k.toNat else []
theorem hostV_c (t:Ty) (ht:t.Fit) (h:Hs) (hg:h.g.Fit) (hv:h.vals.length≤1000000) (tok:Tks) (nt:Nat) :
  DCall Tryz.prog 154 [t.av,h.av] tok nt (.tup [I (hostR t (atsK t) h).1,I (hostR t (atsK t) h).2]) tok nt:=by
 refine hostValid_c t ht ht.hM (atsK t) (fun k=>?_) h hg hv tok nt fun h0 k hk hlt _=>?_
 ·unfold atsK;split
  ·have:=atsL_len ht.hM (k.toNat+1) k.toNat (Nat.lt_succ_self _)
   have hb:(k.toNat+1) * 1000≤1000 * 1000:=Nat.mul_le_mul_right _ (by have:=ht.n; omega)
   omega
  ·simp
 ·have hi:k.toNat<t.nodes.length:=by omega
  have hkk:((k.toNat:Nat):Int)=k:=by omega
  have hgv:givE t [((k.toNat:Nat):Int)]=0:=by
   unfold givE;rw [if_pos h0,hkk];simp [anyB,insB,hk,hlt]
  have:=attrsP_c t ht ht.hM k.toNat hi (fun j hj=>tyE_par h0 j (by omega)) hgv (fun a ha=>(atsL_fit ht (k.toNat+1) k.toNat (Nat.lt_succ_self _) a ha).l.n) tok nt
  rw [hkk] at this;unfold atsK;rw [if_pos hi];exact this
def xsE (k:Int) (out:Bool) (i:Nat) (x:E):Bool:=decide (x.ty=k)&&(if out=true then decide (x.fr=i) else decide (x.to=i))
def xsC (g:Gr) (k:Int) (out:Bool) (i n:Nat):Nat:=((g.edges.take n).filter (xsE k out i)).length
def xsCnt (g:Gr) (k:Int) (out:Bool) (i:Nat):Nat:=xsC g k out i g.edges.length
theorem xsC_zero (g:Gr) (k:Int) (out:Bool) (i:Nat):xsC g k out i 0=0:=rfl
theorem xsC_succ {g:Gr} {k:Int} {out:Bool} {i n:Nat} (h:n<g.edges.length):xsC g k out i (n+1)=xsC g k out i n+(if xsE k out i g.edges[n]=true then 1 else 0):=by
 unfold xsC;rw [List.take_succ_eq_append_getElem h,List.filter_append,List.length_append];by_cases e:xsE k out i g.edges[n]=true <;> simp [e]
theorem xsC_le (g:Gr) (k:Int) (out:Bool) (i n:Nat):xsC g k out i n≤n:=by
 unfold xsC;exact Nat.le_trans (List.length_filter_le _ _) (by rw [List.length_take]; omega)
def xsW (low high:Int) (c:Nat):Bool:=decide ((c:Int)<low)||(decide (0≤high)&&decide (high<(c:Int)))
def xsHit (t:Ty) (g:Gr) (k:Int) (out:Bool) (kind low high:Int) (i:Nat):Bool:=tIs t (g.nodes.getD i 0) kind&&xsW low high (xsCnt g k out i)
def xsRow (g:Gr) (k:Int) (out:Bool) (i:Nat):List D:=[.raw (.int .i64 k),.raw (.int .i64 i),.raw (.int .i64 (xsCnt g k out i)),.raw (.bool out)]
def xsL (t:Ty) (g:Gr) (k:Int) (out:Bool) (kind low high:Int) (n:Nat):List (List D):=((List.range n).filter (xsHit t g k out kind low high)).map (xsRow g k out)
theorem xsL_succ (t:Ty) (g:Gr) (k:Int) (out:Bool) (kind low high:Int) (n:Nat):xsL t g k out kind low high (n+1)=xsL t g k out kind low high n++(if xsHit t g k out kind low high n=true then [xsRow g k out n] else []):=by
 unfold xsL;rw [List.range_succ,List.filter_append,List.map_append];by_cases h:xsHit t g k out kind low high n=true <;> simp [h]
theorem xsL_len (t:Ty) (g:Gr) (k:Int) (out:Bool) (kind low high:Int) (n:Nat):(xsL t g k out kind low high n).length≤n:=by
 unfold xsL;rw [List.length_map];have:=List.length_filter_le (xsHit t g k out kind low high) (List.range n)
 rwa [List.length_range] at this
def stXo (t:Ty) (h:Hs) (k:Int) (out:Bool) (kind low high:Int) (nb:Nat) (box:Bxs) (x:Acc):AState :=
 ⟨tl [(25,I x.i),(24,I h.g.nodes.length),(23,.d (ints h.g.nodes)),(15,.osl 4 (xsL t h.g k out kind low high x.i) x.own),(2,I k),(3,B out),(4,I kind),(5,I low),(6,I high),(8,.ptr (nb+8) 0 0),(7,.ptr (nb+7) 0 0)],
  lb nb box [(8,[[.d (ints h.g.nodes),.d (AM.edges h.g.edges),.d (lls h.vals)]]),(7,[[.d (nts t.nodes),.d (ets t.edges)]])],x.tok,x.nt⟩
def stXi (t:Ty) (h:Hs) (k:Int) (out:Bool) (kind low high:Int) (nb:Nat) (box:Bxs) (i:Nat) (own:Own) (tok:Tks) (nt:Nat) (n:Nat):AState :=
 ⟨tl [(39,I n),(38,I h.g.edges.length),(37,.d (AM.edges h.g.edges)),(18,I (xsC h.g k out i n)),(16,I i),(25,I i),(24,I h.g.nodes.length),(23,.d (ints h.g.nodes)),(15,.osl 4 (xsL t h.g k out kind low high i) own),(2,I k),(3,B out),(4,I kind),(5,I low),(6,I high),(8,.ptr (nb+8) 0 0),(7,.ptr (nb+7) 0 0)],
  lb nb box [(8,[[.d (ints h.g.nodes),.d (AM.edges h.g.edges),.d (lls h.vals)]]),(7,[[.d (nts t.nodes),.d (ets t.edges)]])],tok,nt⟩
set_option maxRecDepth 100000 in
theorem xsHost_c (t:Ty) (ht:t.Fit) (h:Hs) (hg:h.g.Fit) (k:Int) (out:Bool) (kind low high:Int) (tok:Tks) (nt:Nat) :
  DCall Tryz.prog 108 [t.av,h.av,I k,B out,I kind,I low,I high] tok nt (.d (.sl 4 (xsL t h.g k out kind low high h.g.nodes.length))) tok nt:=by
 intro box nb;have hgn:=hg.n;have hge:=hg.e;refine sI Tryz.func108 Tryz.ntmps108 fun hbox htok=>?_
 try (simp)
 repeat (first|(refine sR ?_; simp)|(refine sC ?_; simp)|(refine sX ?_; simp only [AU, ↓reduceIte]))
 refine sN ?_;refine AL.loopT (stXo t h k out kind low high nb box) (fun x=>x.i≤h.g.nodes.length∧TK tok nt x.tok x.nt [x.own]) (fun x=>h.g.nodes.length - x.i) ⟨0,.full,tok,nt⟩ ⟨Nat.zero_le _,(TK.start htok).full⟩ (Weaks.mk (Nat.le_refl _) rfl (by simp [ToL,lk,xsL]) (by simp [BoxL,lk])) ?_;rintro ⟨i,own,tok',nt'⟩ S ⟨hi,htk⟩ hS;simp only [stXo] at hS hi htk;subst hS;have hw:=sW (i:=i) (by omega);have hxl:=xsL_len t h.g k out kind low high i;by_cases hlt:i<h.g.nodes.length
 ·have hlt':(i:Int)<h.g.nodes.length:=by omega
  have hsc:=xsL_succ t h.g k out kind low high i;have hik:=isT_c t ht h.g.nodes[i] kind;have hge0:h.g.nodes.getD i 0=h.g.nodes[i]:=by simp [hlt]
  cases hI:tIs t h.g.nodes[i] kind
  ·have hh:xsHit t h.g k out kind low high i=false:=by unfold xsHit; rw [hge0,hI]; rfl
   rw [hh] at hsc;simp at hsc;try (simp [hlt,hlt'])
   repeat (first|(refine sR ?_; simp [hlt,hlt'])|(refine sC ?_; simp [hlt,hlt'])|(refine sX ?_; simp only [AU, ↓reduceIte]))
   refine Stop.of_d (hik _ _) ?_;simp;try (simp [hI,hw])
   repeat (first|(refine sR ?_; simp [hI,hw])|(refine sC ?_; simp [hI,hw])|(refine sX ?_; simp only [AU, ↓reduceIte]))
   refine sE ?_;exact ⟨⟨i+1,_,_,_⟩,⟨hlt,htk⟩,by simp only; omega,Weaks.mk htk.le rfl (by simp [ToL,lk,hsc]) (by simp [BoxL,lk])⟩
  ·have hh:xsHit t h.g k out kind low high i=xsW low high (xsCnt h.g k out i):=by unfold xsHit; rw [hge0,hI]; rfl
   rw [hh] at hsc;try (simp [hlt,hlt'])
   repeat (first|(refine sR ?_; simp [hlt,hlt'])|(refine sC ?_; simp [hlt,hlt'])|(refine sX ?_; simp only [AU, ↓reduceIte]))
   refine Stop.of_d (hik _ _) ?_;simp;try (simp [hI])
   repeat (first|(refine sR ?_; simp [hI])|(refine sC ?_; simp [hI])|(refine sX ?_; simp only [AU, ↓reduceIte]))
   refine sN ?_;refine AL.loopT (stXi t h k out kind low high nb box i own tok' nt') (fun n=>n≤h.g.edges.length) (fun n=>h.g.edges.length - n) 0 (Nat.zero_le _) (Weaks.mk htk.le rfl (by simp [ToL,lk,xsC_zero]) (by simp [BoxL,lk])) ?_;rintro n S hn hS;simp only [stXi] at hS;subst hS;have hwn:=sW (i:=n) (by omega);have hcl:=xsC_le h.g k out i n;by_cases hln:n<h.g.edges.length
   ·have hln':(n:Int)<h.g.edges.length:=by omega
    have hcs:=xsC_succ (g:=h.g) (k:=k) (out:=out) (i:=i) hln;have hwc:IntKind.i64.wrap ((xsC h.g k out i n:Int)+1)=((xsC h.g k out i n+1:Nat):Int):=by rw [wrap_in (by omega) (by omega)]; rfl
    generalize xsC h.g k out i n=c at *;have hget:h.g.edges[n]?=some h.g.edges[n]:=List.getElem?_eq_getElem hln
    generalize h.g.edges[n]=e at *;by_cases q1:e.ty=k
    ·have b1:(e.ty==k)=true:=by simp [q1]
     cases out
     ·by_cases q2:e.to=i
      ·have b2:(e.to==(i:Int))=true:=by simp [q2]
       rw [if_pos (by simp [xsE,q1,q2])] at hcs;try (simp [hln',hget,b1,b2,hwn,hwc])
       repeat (first|(refine sR ?_; simp [hln',hget,b1,b2,hwn,hwc])|(refine sC ?_; simp [hln',hget,b1,b2,hwn,hwc])|(refine sX ?_; simp only [AU, ↓reduceIte]))
       refine sE ?_;exact ⟨n+1,hln,by omega,Weaks.mk htk.le rfl (by simp [ToL,lk,hcs]) (by simp [BoxL,lk])⟩
      ·have b2:(e.to==(i:Int))=false:=by simp [q2]
       rw [if_neg (by simp [xsE,q1,q2])] at hcs;try (simp [hln',hget,b1,b2,hwn])
       repeat (first|(refine sR ?_; simp [hln',hget,b1,b2,hwn])|(refine sC ?_; simp [hln',hget,b1,b2,hwn])|(refine sX ?_; simp only [AU, ↓reduceIte]))
       refine sE ?_;exact ⟨n+1,hln,by omega,Weaks.mk htk.le rfl (by simp [ToL,lk,hcs]) (by simp [BoxL,lk])⟩
     ·by_cases q2:e.fr=i
      ·have b2:(e.fr==(i:Int))=true:=by simp [q2]
       rw [if_pos (by simp [xsE,q1,q2])] at hcs;try (simp [hln',hget,b1,b2,hwn,hwc])
       repeat (first|(refine sR ?_; simp [hln',hget,b1,b2,hwn,hwc])|(refine sC ?_; simp [hln',hget,b1,b2,hwn,hwc])|(refine sX ?_; simp only [AU, ↓reduceIte]))
       refine sE ?_;exact ⟨n+1,hln,by omega,Weaks.mk htk.le rfl (by simp [ToL,lk,hcs]) (by simp [BoxL,lk])⟩
      ·have b2:(e.fr==(i:Int))=false:=by simp [q2]
       rw [if_neg (by simp [xsE,q1,q2])] at hcs;try (simp [hln',hget,b1,b2,hwn])
       repeat (first|(refine sR ?_; simp [hln',hget,b1,b2,hwn])|(refine sC ?_; simp [hln',hget,b1,b2,hwn])|(refine sX ?_; simp only [AU, ↓reduceIte]))
       refine sE ?_;exact ⟨n+1,hln,by omega,Weaks.mk htk.le rfl (by simp [ToL,lk,hcs]) (by simp [BoxL,lk])⟩
    ·have b1:(e.ty==k)=false:=by simp [q1]
     rw [if_neg (by simp [xsE,q1])] at hcs;try (simp [hln',hget,b1,hwn])
     repeat (first|(refine sR ?_; simp [hln',hget,b1,hwn])|(refine sC ?_; simp [hln',hget,b1,hwn])|(refine sX ?_; simp only [AU, ↓reduceIte]))
     refine sE ?_;exact ⟨n+1,hln,by omega,Weaks.mk htk.le rfl (by simp [ToL,lk,hcs]) (by simp [BoxL,lk])⟩
   ·have:n=h.g.edges.length:=by omega
    subst this;have hce:xsC h.g k out i h.g.edges.length=xsCnt h.g k out i:=rfl
    have hrw:xsRow h.g k out i=[.raw (.int .i64 k),.raw (.int .i64 i),.raw (.int .i64 (xsCnt h.g k out i)),.raw (.bool out)]:=rfl
    rw [hce];generalize xsCnt h.g k out i=c at *;have hno:xsW low high c=false→xsL t h.g k out kind low high (i+1)=xsL t h.g k out kind low high i:=fun e=>by rw [hsc,e]; simp
    have hye:xsW low high c=true→xsL t h.g k out kind low high (i+1)=xsL t h.g k out kind low high i++[[.raw (.int .i64 k),.raw (.int .i64 i),.raw (.int .i64 c),.raw (.bool out)]]:=fun e=>by rw [hsc,e,hrw]; simp
    by_cases q1:(c:Int)<low
    ·have hx:=hye (by unfold xsW; simp [q1]);try (simp [q1])
     repeat (first|(refine sR ?_; simp [q1])|(refine sC ?_; simp [q1])|(refine sX ?_; simp only [AU, ↓reduceIte]))
     refine ⟨⟨by omega,htk.live⟩,?_⟩;try (simp [hw])
     repeat (first|(refine sR ?_; simp [hw])|(refine sC ?_; simp [hw])|(refine sX ?_; simp only [AU, ↓reduceIte]))
     refine sE ?_;exact ⟨⟨i+1,_,_,_⟩,⟨hlt,htk.app⟩,by simp only; omega,Weaks.mk htk.app.le rfl (by simp [ToL,lk,hx]) (by simp [BoxL,lk])⟩
    ·by_cases q2:0≤high
     ·by_cases q3:high<(c:Int)
      ·have hx:=hye (by unfold xsW; simp [q1,q2,q3]);try (simp [q1,q2,q3])
       repeat (first|(refine sR ?_; simp [q1,q2,q3])|(refine sC ?_; simp [q1,q2,q3])|(refine sX ?_; simp only [AU, ↓reduceIte]))
       refine ⟨⟨by omega,htk.live⟩,?_⟩;try (simp [hw])
       repeat (first|(refine sR ?_; simp [hw])|(refine sC ?_; simp [hw])|(refine sX ?_; simp only [AU, ↓reduceIte]))
       refine sE ?_;exact ⟨⟨i+1,_,_,_⟩,⟨hlt,htk.app⟩,by simp only; omega,Weaks.mk htk.app.le rfl (by simp [ToL,lk,hx]) (by simp [BoxL,lk])⟩
      ·have hx:=hno (by unfold xsW; simp [q1,q2,q3]);try (simp [q1,q2,q3,hw])
       repeat (first|(refine sR ?_; simp [q1,q2,q3,hw])|(refine sC ?_; simp [q1,q2,q3,hw])|(refine sX ?_; simp only [AU, ↓reduceIte]))
       refine sE ?_;exact ⟨⟨i+1,_,_,_⟩,⟨hlt,htk⟩,by simp only; omega,Weaks.mk htk.le rfl (by simp [ToL,lk,hx]) (by simp [BoxL,lk])⟩
     ·have hx:=hno (by unfold xsW; simp [q1,q2]);try (simp [q1,q2,hw])
      repeat (first|(refine sR ?_; simp [q1,q2,hw])|(refine sC ?_; simp [q1,q2,hw])|(refine sX ?_; simp only [AU, ↓reduceIte]))
      refine sE ?_;exact ⟨⟨i+1,_,_,_⟩,⟨hlt,htk⟩,by simp only; omega,Weaks.mk htk.le rfl (by simp [ToL,lk,hx]) (by simp [BoxL,lk])⟩
 ·have:i=h.g.nodes.length:=by omega
  subst this;try (simp)
  repeat (first|(refine sR ?_; simp)|(refine sC ?_; simp)|(refine sX ?_; simp only [AU, ↓reduceIte]))
  refine sT (sG hbox htok htk.old htk.le ?_);simp [packA]
def xsTwo (t:Ty) (g:Gr) (k:Nat):List (List D):=match t.edges[k]? with
 | some e=>xsL t g k true e.fr e.ol e.oh g.nodes.length++xsL t g k false e.to e.il e.ih g.nodes.length
 | none=>[]
def xsAll (t:Ty) (g:Gr) (n:Nat):List (List D):=(List.range n).flatMap (xsTwo t g)
theorem xsAll_succ (t:Ty) (g:Gr) (n:Nat):xsAll t g (n+1)=xsAll t g n++xsTwo t g n:=by
 unfold xsAll;rw [List.range_succ,List.flatMap_append];simp
theorem xsAll_len (t:Ty) (g:Gr):∀ n,(xsAll t g n).length≤n * (2 * g.nodes.length)
 | 0=>Nat.zero_le _
 | n+1=>by
  have ih:=xsAll_len t g n;rw [xsAll_succ,List.length_append,Nat.succ_mul];have:(xsTwo t g n).length≤2 * g.nodes.length:=by
   unfold xsTwo;split
   ·rename_i e _;have h1:=xsL_len t g n true e.fr e.ol e.oh g.nodes.length;have h2:=xsL_len t g n false e.to e.il e.ih g.nodes.length;rw [List.length_append];omega
   ·exact Nat.zero_le _
  omega
theorem hostValid2_c (t:Ty) (ht:t.Fit) (h:Hs) (hg:h.g.Fit) (hv:h.vals.length≤1000000) (tok:Tks) (nt:Nat) :
  DCall Tryz.prog 107 [t.av,h.av] tok nt (I (hostR t (atsK t) h).2) tok nt:=by
 intro box nb;have h1:=hostV_c t ht h hg hv;generalize hostR t (atsK t) h=R at *;refine sI Tryz.func107 Tryz.ntmps107 fun hbox htok=>?_
 try (simp)
 repeat (first|(refine sR ?_; simp)|(refine sC ?_; simp)|(refine sX ?_; simp only [AU, ↓reduceIte]))
 refine Stop.of_d (h1 _ _) ?_;simp;try (simp)
 repeat (first|(refine sR ?_; simp)|(refine sC ?_; simp)|(refine sX ?_; simp only [AU, ↓reduceIte]))
 refine sT (sH hbox htok ?_);simp [packA]
def stXa (t:Ty) (h:Hs) (nb:Nat) (box:Bxs) (x:Acc):AState :=
 ⟨tl [(19,I x.i),(18,I t.edges.length),(17,.d (ets t.edges)),(7,.osl 4 (xsAll t h.g x.i) x.own),(3,.ptr (nb+3) 0 0),(2,.ptr (nb+2) 0 0)],
  lb nb box [(3,[[.d (ints h.g.nodes),.d (AM.edges h.g.edges),.d (lls h.vals)]]),(2,[[.d (nts t.nodes),.d (ets t.edges)]])],x.tok,x.nt⟩
set_option maxRecDepth 100000 in
theorem excesses_c (t:Ty) (ht:t.Fit) (h:Hs) (hg:h.g.Fit) (hv:h.vals.length≤1000000) (he:t.edges.length≤1000) (hn:h.g.nodes.length≤1000) (h0:(hostR t (atsK t) h).2=0) (tok:Tks) (nt:Nat) :
  DCall Tryz.prog 46 [t.av,h.av] tok nt (.tup [.d (.sl 4 (xsAll t h.g t.edges.length)),I 0]) tok nt:=by
 intro box nb;have h1:=hostValid2_c t ht h hg hv;rw [h0] at h1;refine sI Tryz.func46 Tryz.ntmps46 fun hbox htok=>?_
 try (simp)
 repeat (first|(refine sR ?_; simp)|(refine sC ?_; simp)|(refine sX ?_; simp only [AU, ↓reduceIte]))
 refine Stop.of_d (h1 _ _) ?_;simp;try (simp)
 repeat (first|(refine sR ?_; simp)|(refine sC ?_; simp)|(refine sX ?_; simp only [AU, ↓reduceIte]))
 refine sN ?_;refine AL.loopT (stXa t h nb box) (fun x=>x.i≤t.edges.length∧TK tok nt x.tok x.nt [x.own]) (fun x=>t.edges.length - x.i) ⟨0,.full,tok,nt⟩ ⟨Nat.zero_le _,(TK.start htok).full⟩ (Weaks.mk (Nat.le_refl _) rfl (by simp [ToL,lk,xsAll]) (by simp [BoxL,lk])) ?_;rintro ⟨i,own,tok',nt'⟩ S ⟨hi,htk⟩ hS;simp only [stXa] at hS hi htk;subst hS;have hw:=sW (i:=i) (by omega);have hsc:=xsAll_succ t h.g i;have hlen:=xsAll_len t h.g i;by_cases hlt:i<t.edges.length
 ·have hlt':(i:Int)<t.edges.length:=by omega
  have hget:t.edges[i]?=some t.edges[i]:=List.getElem?_eq_getElem hlt
  have htwo:xsTwo t h.g i=xsL t h.g i true t.edges[i].fr t.edges[i].ol t.edges[i].oh h.g.nodes.length++xsL t h.g i false t.edges[i].to t.edges[i].il t.edges[i].ih h.g.nodes.length:=by unfold xsTwo; rw [hget]
  rw [htwo] at hsc;generalize t.edges[i]=e at *;have c1:=xsHost_c t ht h hg i true e.fr e.ol e.oh;have c2:=xsHost_c t ht h hg i false e.to e.il e.ih;have l1:=xsL_len t h.g i true e.fr e.ol e.oh h.g.nodes.length;have l2:=xsL_len t h.g i false e.to e.il e.ih h.g.nodes.length;have hbig:i * (2 * h.g.nodes.length)≤1000 * 2000:=Nat.mul_le_mul (by omega) (by omega)
  generalize xsL t h.g i true e.fr e.ol e.oh h.g.nodes.length=X1 at *;generalize xsL t h.g i false e.to e.il e.ih h.g.nodes.length=X2 at *;generalize xsAll t h.g i=A at *;try (simp [hlt',hget])
  repeat (first|(refine sR ?_; simp [hlt',hget])|(refine sC ?_; simp [hlt',hget])|(refine sX ?_; simp only [AU, ↓reduceIte]))
  refine Stop.of_d (c1 _ _) ?_;simp;refine ⟨⟨by omega,htk.live⟩,?_⟩;try (simp)
  repeat (first|(refine sR ?_; simp)|(refine sC ?_; simp)|(refine sX ?_; simp only [AU, ↓reduceIte]))
  refine Stop.of_d (c2 _ _) ?_;simp;refine ⟨⟨?_,htk.app.live⟩,?_⟩
  ·omega
  try (simp [hw])
  repeat (first|(refine sR ?_; simp [hw])|(refine sC ?_; simp [hw])|(refine sX ?_; simp only [AU, ↓reduceIte]))
  refine sE ?_;exact ⟨⟨i+1,_,_,_⟩,⟨hlt,htk.app.app⟩,by simp only; omega,Weaks.mk htk.app.app.le rfl (by simp [ToL,lk,hsc]) (by simp [BoxL,lk])⟩
 ·have:i=t.edges.length:=by omega
  subst this;try (simp)
  repeat (first|(refine sR ?_; simp)|(refine sC ?_; simp)|(refine sX ?_; simp only [AU, ↓reduceIte]))
  refine sT (sG hbox htok htk.old htk.le ?_);simp [packA]
def vioB (c:Co) (xt:Mo→Bool) (m:Mo):Bool:=if c.kind=1 then true else !xt m
def vioK (c:Co) (xt:Mo→Bool) (l:List Mo) (i:Nat):List Mo:=(l.take i).filter (vioB c xt)
def vioS (t:Ty) (c:Co) (g:Gr) (xt:Mo→Bool):List Mo × Int :=
 if cnE t c≠0 then ([],cnE t c) else if (allS t c.g g true).2≠0 then ([],(allS t c.g g true).2) else ((allS t c.g g true).1.filter (vioB c xt),0)
theorem vioK_succ {c:Co} {xt:Mo→Bool} {l:List Mo} {i:Nat} (h:i<l.length):vioK c xt l (i+1)=vioK c xt l i++if vioB c xt l[i]=true then [l[i]] else []:=by
 unfold vioK;rw [List.take_succ_eq_append_getElem h,List.filter_append];congr 1
 by_cases e:vioB c xt l[i]=true <;> simp [e]
theorem vioK_len (c:Co) (xt:Mo→Bool) (l:List Mo) (i:Nat):(vioK c xt l i).length≤i:=Nat.le_trans (List.length_filter_le _ _) (by simp; omega)
theorem allS_len (t:Ty) (p g:Gr) (inj:Bool):(allS t p g inj).1.length≤5000:=by
 unfold allS;split
 ·simp
 ·split
  ·simp
  ·simp only; omega
def stVk (t:Ty) (c:Co) (g:Gr) (L:List Mo) (xt:Mo→Bool) (nb:Nat) (box:Bxs) (x:Acc):AState :=
 ⟨tl [(33,I x.i),(32,I L.length),(31,.d (.sl 2 (mosR L))),(11,.osl 2 (mosR (vioK c xt L x.i)) x.own),(5,.ptr (nb+5) 0 0),(4,.ptr (nb+4) 0 0),(3,.ptr (nb+3) 0 0)],lb nb box [(5,[[.d (ints g.nodes),.d (AM.edges g.edges)]]),(4,[c.row]),(3,[[.d (nts t.nodes),.d (ets t.edges)]])],x.tok,x.nt⟩
theorem violationsK_c (t:Ty) (ht:t.Fit) (c:Co) (hc:c.Fit) (g:Gr) (hg:g.Fit) (xt:Mo→Bool)
  (hx:c.kind≠1→∀ m∈(allS t c.g g true).1,∀ tok nt,DCall Tryz.prog 110 [t.av,c.av,g.av,m.av] tok nt (B (xt m)) tok nt) (tok:Tks) (nt:Nat) :
  DCall Tryz.prog 47 [t.av,c.av,g.av] tok nt (.tup [.d (.sl 2 (mosR (vioS t c g xt).1)),I (vioS t c g xt).2]) tok nt:=by
 intro box nb;have hv:=validK_c t ht c hc;have hA:=allF2_c t ht c.g g hc.g hg true;have main:ACalls Tryz.prog 47 [t.av,c.av,g.av] ⟨box,nb,tok,nt⟩ fun v m=>(v=.tup [.d (.sl 2 (mosR (vioS t c g xt).1)),I (vioS t c g xt).2]∨(vioS t c g xt).1=[]∧v=.tup [.osl 0 [] .full,I (vioS t c g xt).2])∧m=⟨box,nb,tok,nt⟩:=by
  refine sI Tryz.func47 Tryz.ntmps47 fun hbox htok=>?_
  repeat (first|simp|refine sR ?_)
  refine Stop.of_d (hv _ _) ?_;simp;by_cases c1:cnE t c=0
  ·try (simp [c1])
   repeat (first|(refine sR ?_; simp [c1])|(refine sC ?_; simp [c1])|(refine sX ?_; simp only [AU, ↓reduceIte]))
   refine Stop.of_d (hA _ _) ?_;simp;by_cases c2:(allS t c.g g true).2=0
   ·try (simp [c2])
    repeat (first|(refine sR ?_; simp [c2])|(refine sC ?_; simp [c2])|(refine sX ?_; simp only [AU, ↓reduceIte]))
    refine sN ?_;have hR:vioS t c g xt=((allS t c.g g true).1.filter (vioB c xt),0):=by unfold vioS; rw [if_neg (by simp [c1]),if_neg (by simp [c2])]
    have hL:=allS_len t c.g g true;generalize (allS t c.g g true).1=L at *;refine AL.loopT (stVk t c g L xt nb box) (fun x=>x.i≤L.length∧TK tok nt x.tok x.nt [x.own]) (fun x=>L.length - x.i) ⟨0,.full,tok,nt⟩ ⟨Nat.zero_le _,(TK.start htok).full⟩ (Weaks.mk (Nat.le_refl _) rfl (by simp [ToL,lk,vioK]) (by simp [BoxL,lk])) ?_;rintro ⟨i,own,tok',nt'⟩ S ⟨hi,htk⟩ hS;simp only [stVk] at hS hi htk;subst hS;have hw:=sW (i:=i) (by omega);have hln:=vioK_len c xt L i;by_cases hlt:i<L.length
    ·have hs:=vioK_succ (c:=c) (xt:=xt) hlt;by_cases k1:c.kind=1
     ·have b:(c.kind==1)=true:=by simp [k1]
      rw [if_pos (by simp [vioB,k1])] at hs;try (simp [hlt,b])
      repeat (first|(refine sR ?_; simp [hlt,b])|(refine sC ?_; simp [hlt,b])|(refine sX ?_; simp only [AU, ↓reduceIte]))
      refine ⟨⟨by omega,htk.live⟩,?_⟩;try (simp [hw])
      repeat (first|(refine sR ?_; simp [hw])|(refine sC ?_; simp [hw])|(refine sX ?_; simp only [AU, ↓reduceIte]))
      refine sE ?_;exact ⟨⟨i+1,_,_,_⟩,⟨hlt,htk.app⟩,by simp only; omega,Weaks.mk htk.app.le rfl (by simp [ToL,lk,hs]) (by simp [BoxL,lk])⟩
     ·have hxi:=hx k1 _ (List.getElem_mem hlt);have b:(c.kind==1)=false:=by simp [k1]
      try (simp [hlt,b])
      repeat (first|(refine sR ?_; simp [hlt,b])|(refine sC ?_; simp [hlt,b])|(refine sX ?_; simp only [AU, ↓reduceIte]))
      refine Stop.of_d (hxi _ _) ?_;cases e:xt L[i]
      ·rw [if_pos (by simp [vioB,k1,e])] at hs;try (simp [hlt,b])
       repeat (first|(refine sR ?_; simp [hlt,b])|(refine sC ?_; simp [hlt,b])|(refine sX ?_; simp only [AU, ↓reduceIte]))
       refine ⟨⟨by omega,htk.live⟩,?_⟩;try (simp [hw])
       repeat (first|(refine sR ?_; simp [hw])|(refine sC ?_; simp [hw])|(refine sX ?_; simp only [AU, ↓reduceIte]))
       refine sE ?_;exact ⟨⟨i+1,_,_,_⟩,⟨hlt,htk.app⟩,by simp only; omega,Weaks.mk htk.app.le rfl (by simp [ToL,lk,hs]) (by simp [BoxL,lk])⟩
      ·rw [if_neg (by simp [vioB,k1,e]),List.append_nil] at hs;try (simp [hlt,b,hw])
       repeat (first|(refine sR ?_; simp [hlt,b,hw])|(refine sC ?_; simp [hlt,b,hw])|(refine sX ?_; simp only [AU, ↓reduceIte]))
       refine sE ?_;exact ⟨⟨i+1,_,_,_⟩,⟨hlt,htk⟩,by simp only; omega,Weaks.mk htk.le rfl (by simp [ToL,lk,hs]) (by simp [BoxL,lk])⟩
    ·have:i=L.length:=by omega
     subst this;have hf:vioK c xt L L.length=L.filter (vioB c xt):=by simp [vioK]
     rw [hf];try (simp)
     repeat (first|(refine sR ?_; simp)|(refine sC ?_; simp)|(refine sX ?_; simp only [AU, ↓reduceIte]))
     refine sN ?_;refine AL.ret ?_;try simp only [AU]
     refine ⟨by simp,(Fin.data (av:=.tup [.d (.sl 2 (mosR (L.filter (vioB c xt)))),I 0]) (by simp [resAs,resA]; rfl) hbox rfl htok htk.old htk.le (by simp [packA])).mono fun v m hq=>⟨.inl (by rw [hR,hq.1]),hq.2⟩⟩
   ·have hR:vioS t c g xt=([],(allS t c.g g true).2):=by unfold vioS; rw [if_neg (by simp [c1]),if_pos c2]
    try (simp [c2])
    repeat (first|(refine sR ?_; simp [c2])|(refine sC ?_; simp [c2])|(refine sX ?_; simp only [AU, ↓reduceIte]))
    refine sN ?_;refine AL.ret ?_;try simp only [AU]
    refine ⟨by simp,(Fin.data (av:=.tup [.osl 0 [] .full,I (allS t c.g g true).2]) (by simp [resAs,resA]; rfl) hbox rfl htok (fun _ h=>h) (Nat.le_refl _) (by simp [packA])).mono fun v m hq=>⟨.inr ⟨by rw [hR],by rw [hR,hq.1]⟩,hq.2⟩⟩
  ·have hR:vioS t c g xt=([],cnE t c):=by unfold vioS; rw [if_pos c1]
   try (simp [c1])
   repeat (first|(refine sR ?_; simp [c1])|(refine sC ?_; simp [c1])|(refine sX ?_; simp only [AU, ↓reduceIte]))
   refine sN ?_;refine AL.ret ?_;try simp only [AU]
   refine ⟨by simp,(Fin.data (av:=.tup [.osl 0 [] .full,I (cnE t c)]) (by simp [resAs,resA]; rfl) hbox rfl htok (fun _ h=>h) (Nat.le_refl _) (by simp [packA])).mono fun v m hq=>⟨.inr ⟨by rw [hR],by rw [hR,hq.1]⟩,hq.2⟩⟩
 refine main.conv fun v m h=>?_
 obtain ⟨rfl|⟨h1,rfl⟩,rfl⟩:=h
 ·exact ⟨_,_,Conv.refl _ _,rfl,rfl⟩
 ·refine ⟨_,_,Conv.sub (v':=.tup [.d (.sl 2 (mosR (vioS t c g xt).1)),I (vioS t c g xt).2]) (Sub.tup ⟨?_,Sub.refl _,trivial⟩),rfl,rfl⟩;rw [h1];exact Sub.nil _ _ _
structure Lg (t:Ty) (g:Gr):Prop where
 ty:tyE t=0
 n:g.nodes.length≤6
 e:g.edges.length≤8
 lf:∀ x∈g.nodes,(0≤x∧x<t.nodes.length)∧leafB t x=true
 fr:∀ e∈g.edges,(0≤e.fr∧e.fr<g.nodes.length)∧(0≤e.to∧e.to<g.nodes.length)∧fitB t e.ty (g.nodes.getD e.fr.toNat 0) (g.nodes.getD e.to.toNat 0)=true
theorem tIs_iff {t:Ty} (h0:tyE t=0) {a b:Int}:tIs t a b=true↔(0≤a∧a<t.nodes.length)∧(0≤b∧b<t.nodes.length)∧isB t a b=true:=by
 unfold tIs;constructor
 ·intro h;split at h
  ·rename_i h1;have:=(givE_in h1).2
   exact ⟨this a (by simp),this b (by simp),h⟩
  ·cases h
 ·rintro ⟨h1,h2,h3⟩;have:givE t [a,b]=0:=by simp [givE,h0,anyB,insB,h1,h2]
  rw [if_pos this,h3]
theorem par_lt {t:Ty} (h0:tyE t=0):∀ j,j<t.nodes.length→t.pars.getD j 0<j:=fun j hj=>by
 have:=tyE_par h0 j hj
 simpa [Ty.pars,Ty.nd,hj] using this
theorem leaf_is {t:Ty} (h0:tyE t=0) {a b:Int} (ha:a<t.nodes.length) (hl:leafB t b=true) (h:isB t a b=true):a=b:=by
 unfold isB at h;have h:=of_decide_eq_true h;rcases upI_child (par_lt h0) (a.toNat+1) a (by omega) ha b h with h1|⟨j,hj,h1⟩
 ·exact h1.symm
 ·unfold leafB anyB at hl;have:∀ x∈t.nodes,¬ x.par=b:=by simpa using hl
  exact absurd (by simpa [Ty.pars,hj] using h1) (this t.nodes[j] (List.getElem_mem hj))
theorem self_is {t:Ty} (h0:tyE t=0) {a:Int} (h:0≤a) (ha:a<t.nodes.length):isB t a a=true:=isB_self h ha (tyE_par h0)
theorem fit_iff {t:Ty} (h0:tyE t=0) {e a b:Int}:fitB t e a b=true↔(0≤a∧a<t.nodes.length)∧(0≤b∧b<t.nodes.length)∧(0≤e∧e<t.edges.length)∧isB t a (t.ed e.toNat).fr=true∧isB t b (t.ed e.toNat).to=true:=by
 unfold fitB;constructor
 ·intro h;split at h
  ·rename_i h1;have hg:=(givE_in h1).2;split at h
   ·split at h
    ·split at h
     ·exact ⟨hg a (by simp),hg b (by simp),⟨by assumption,by assumption⟩,by assumption,h⟩
     ·cases h
    ·cases h
   ·cases h
  ·cases h
 ·rintro ⟨h1,h2,h3,h4,h5⟩;have:givE t [a,b]=0:=by simp [givE,h0,anyB,insB,h1,h2]
  rw [if_pos this,if_pos h3.1,if_pos h3.2,if_pos h4,h5]
theorem tyE_len {t:Ty} (h0:tyE t=0):0<t.nodes.length∧t.nodes.length≤12∧t.edges.length≤20:=by
 unfold tyE at h0;split at h0
 ·cases h0
 ·split at h0
  ·cases h0
  ·split at h0
   ·cases h0
   ·omega
theorem tyE_edR {t:Ty} (h0:tyE t=0) {k:Nat} (hk:k<t.edges.length):edR t (t.ed k)=0:=by
 have hz:firstE (edgE t) t.edges.length=0:=by
  unfold tyE at h0;split at h0
  ·cases h0
  ·split at h0
   ·cases h0
   ·split at h0
    ·cases h0
    ·split at h0
     ·rename_i h; exact absurd h0 h
     ·exact h0
 have:=firstE_allZ _ hz k hk
 unfold edgE at this;split at this
 ·cases this
 ·split at this
  ·cases this
  ·exact this
theorem Lg.valid {t:Ty} {g:Gr} (h:Lg t g):validG g=0:=by
 have hl:=tyE_len h.ty;have hn:=h.n;have he:=h.e;unfold validG;rw [if_neg (by omega),if_neg,if_neg]
 ·simp only [anyB,List.any_eq_true,not_exists,not_and];intro e hm;obtain ⟨h1,h2,h3⟩:=h.fr e hm;have:=(fit_iff h.ty).1 h3
  simp [fitsB,withinB];omega
 ·simp only [anyB,List.any_eq_true,not_exists,not_and];intro n hm;have:=h.lf n hm
  simp [withinB];omega
theorem Lg.small {t:Ty} {g:Gr} (h:Lg t g):lrgB g=false:=by
 have hn:=h.n;have he:=h.e;unfold lrgB;rw [if_neg (by omega)];simpa using he
theorem Lg.leaves {t:Ty} {g:Gr} (h:Lg t g):lvsB t g=true:=by
 unfold lvsB;rw [if_pos]
 ·unfold allP;rw [List.all_eq_true];intro e he;exact (h.fr e he).2.2
 ·unfold allP;rw [List.all_eq_true];intro x hx;have:=h.lf x hx
  unfold lvN;rw [if_neg (by omega),this.2]
theorem Lg.typ {t:Ty} {g:Gr} (h:Lg t g):typG t g=true:=by
 unfold typG;rw [Bool.and_eq_true,List.all_eq_true,List.all_eq_true];refine ⟨fun x hx=>?_,fun e he=>?_⟩
 ·have:=(h.lf x hx).1
  simpa [typN] using this
 ·have:=((fit_iff h.ty).1 (h.fr e he).2.2).2.2.1
  simpa [typX] using this
theorem Lg.giv {t:Ty} {p g:Gr} (hp:Lg t p) (hg:Lg t g):givS t p g=0:=by
 unfold givS;simp [hp.ty,hp.valid,hg.valid,hp.typ,hg.typ]
theorem Lg.gfit {t:Ty} {g:Gr} (h:Lg t g):g.Fit:=by
 have hn:=h.n;have he:=h.e;have hl:=tyE_len h.ty;constructor
 all_goals first|omega|skip
def Sd.nr (s:Sd) (e:E):Int:=if s.o=true then e.fr else e.to
def Sd.fa (s:Sd) (e:E):Int:=if s.o=true then e.to else e.fr
theorem xsE_iff {s:Sd} {i:Nat} {e:E}:xsE s.k s.o i e=true↔e.ty=s.k∧s.nr e=i:=by
 unfold xsE Sd.nr;cases s.o <;> simp
theorem sds_mem {t:Ty} {s:Sd}:s∈sdsR t↔∃ k,∃ h:k<t.edges.length,s=⟨k,true,t.edges[k].fr,t.edges[k].to,t.edges[k].ol,t.edges[k].oh⟩∨s=⟨k,false,t.edges[k].to,t.edges[k].fr,t.edges[k].il,t.edges[k].ih⟩:=by
 unfold sdsR sdL;simp only [List.mem_flatMap,List.mem_range];constructor
 ·rintro ⟨k,hk,hm⟩;rw [List.getElem?_eq_getElem hk] at hm;simp only [sdTwo,List.mem_cons,List.not_mem_nil,or_false] at hm;exact ⟨k,hk,hm⟩
 ·rintro ⟨k,hk,hm⟩;refine ⟨k,hk,?_⟩;rw [List.getElem?_eq_getElem hk];simpa only [sdTwo,List.mem_cons,List.not_mem_nil,or_false] using hm
structure SdOk (t:Ty) (s:Sd):Prop where
 k0:0≤s.k
 k1:s.k<t.edges.length
 nr:s.near=if s.o=true then (t.ed s.k.toNat).fr else (t.ed s.k.toNat).to
 fa:s.far=if s.o=true then (t.ed s.k.toNat).to else (t.ed s.k.toNat).fr
theorem sds_ok {t:Ty} {s:Sd} (h:s∈sdsR t):SdOk t s:=by
 obtain ⟨k,hk,h⟩:=sds_mem.1 h;rcases h with rfl|rfl
 ·exact ⟨by simp,by simpa using hk,by simp [Ty.ed,hk],by simp [Ty.ed,hk]⟩
 ·exact ⟨by simp,by simpa using hk,by simp [Ty.ed,hk],by simp [Ty.ed,hk]⟩
theorem sd_edge {t:Ty} (h0:tyE t=0) {s:Sd} (hs:SdOk t s):(0≤s.near∧s.near<t.nodes.length)∧0≤s.far∧s.far<t.nodes.length:=by
 have hk:s.k.toNat<t.edges.length:=by have:=hs.k0; have:=hs.k1; omega
 have:=tyE_edR h0 hk
 have h1:=hs.nr;have h2:=hs.fa;unfold edR at this;split at this
 ·cases this
 rename_i a;split at this
 ·cases this
 rename_i b;have a:0≤(t.ed s.k.toNat).fr∧(t.ed s.k.toNat).fr<t.nodes.length:=by simpa [insB] using a
 have b:0≤(t.ed s.k.toNat).to∧(t.ed s.k.toNat).to<t.nodes.length:=by simpa [insB] using b
 rw [h1,h2];cases s.o
 ·exact ⟨b,a⟩
 ·exact ⟨a,b⟩
theorem side_fit {t:Ty} {g:Gr} (hg:Lg t g) {s:Sd} (hs:SdOk t s) {e:E} (he:e∈g.edges) (hk:e.ty=s.k) :
  (0≤s.nr e∧s.nr e<g.nodes.length)∧(0≤s.fa e∧s.fa e<g.nodes.length)∧tIs t (g.nodes.getD (s.nr e).toNat 0) s.near=true∧tIs t (g.nodes.getD (s.fa e).toNat 0) s.far=true:=by
 obtain ⟨h1,h2,h3⟩:=hg.fr e he;obtain ⟨f1,f2,f3,f4,f5⟩:=(fit_iff hg.ty).1 h3;have hn:=sd_edge hg.ty hs;have a:=hs.nr;have b:=hs.fa;rw [hk] at f4 f5;unfold Sd.nr Sd.fa;cases ho:s.o
 ·rw [ho] at a b;simp only [Bool.false_eq_true,if_false] at a b ⊢;exact ⟨h2,h1,(tIs_iff hg.ty).2 ⟨f2,hn.1,by rw [a]; exact f5⟩,(tIs_iff hg.ty).2 ⟨f1,hn.2,by rw [b]; exact f4⟩⟩
 ·rw [ho] at a b;simp only [if_true] at a b ⊢;exact ⟨h1,h2,(tIs_iff hg.ty).2 ⟨f1,hn.1,by rw [a]; exact f4⟩,(tIs_iff hg.ty).2 ⟨f2,hn.2,by rw [b]; exact f5⟩⟩
theorem link_fit {t:Ty} (h0:tyE t=0) {s:Sd} (hs:SdOk t s) {a b:Int} (ha:tIs t a s.near=true) (hb:tIs t b s.far=true) (ns:List Int) (h1:ns.getD 0 0=a) {x:Int} (h2:ns.getD x.toNat 0=b) :
  fitB t (s.link x).ty (ns.getD (s.link x).fr.toNat 0) (ns.getD (s.link x).to.toNat 0)=true:=by
 obtain ⟨a1,a2,a3⟩:=(tIs_iff h0).1 ha;obtain ⟨b1,b2,b3⟩:=(tIs_iff h0).1 hb;rw [hs.nr] at a3;rw [hs.fa] at b3;have hk0:=hs.k0;have hk1:=hs.k1;unfold Sd.link;cases ho:s.o
 ·rw [ho] at a3 b3;simp only [Bool.false_eq_true,if_false] at a3 b3 ⊢;rw [h2,show ((0:Int)).toNat=0 from rfl,h1];exact (fit_iff h0).2 ⟨b1,a1,⟨hk0,hk1⟩,b3,a3⟩
 ·rw [ho] at a3 b3;simp only [if_true] at a3 b3 ⊢;rw [h2,show ((0:Int)).toNat=0 from rfl,h1];exact (fit_iff h0).2 ⟨a1,b1,⟨hk0,hk1⟩,a3,b3⟩
theorem ends_mem {t:Ty} (h0:tyE t=0) {s:Sd} {node x:Int}:x∈endsR t s node↔(x = -1∧tIs t node s.far=true)∨((0≤x∧x<t.nodes.length)∧leafB t x=true∧tIs t x s.far=true):=by
 unfold endsR endsN;rw [List.mem_append,List.mem_map];refine or_congr ?_ ?_
 ·split
  ·rename_i h; simp [h]
  ·rename_i h; simp [h]
 ·constructor
  ·rintro ⟨n,hn,rfl⟩;obtain ⟨h1,h2⟩:=List.mem_filter.1 hn;have h1:=List.mem_range.1 h1;unfold endB at h2;split at h2
   ·exact ⟨by omega,by assumption,h2⟩
   ·cases h2
  ·rintro ⟨h1,h2,h3⟩;have hx:((x.toNat:Nat):Int)=x:=by omega
   refine ⟨x.toNat,List.mem_filter.2 ⟨List.mem_range.2 (by omega),?_⟩,hx⟩;unfold endB;rw [hx,if_pos h2,h3]
def xsI (g:Gr) (s:Sd) (i:Nat):List Nat:=(List.range g.edges.length).filter fun j=>xsE s.k s.o i (g.edges.getD j default)
theorem xsC_len (g:Gr) (s:Sd) (i:Nat):∀ n,n≤g.edges.length→xsC g s.k s.o i n=((List.range n).filter fun j=>xsE s.k s.o i (g.edges.getD j default)).length
 | 0,_=>rfl
 | n+1,h=>by
  have ih:=xsC_len g s i n (by omega);unfold xsC at ih ⊢;rw [List.take_succ_eq_append_getElem (by omega),List.filter_append,List.length_append,ih,List.range_succ,List.filter_append,List.length_append];have:g.edges.getD n default=g.edges[n]:=by simp [show n<g.edges.length by omega]
  rw [List.filter_cons,List.filter_cons,this];split <;> simp
theorem xsI_len (g:Gr) (s:Sd) (i:Nat):(xsI g s i).length=xsCnt g s.k s.o i:=(xsC_len g s i _ (Nat.le_refl _)).symm
theorem xsI_mem {g:Gr} {s:Sd} {i j:Nat}:j∈xsI g s i↔j<g.edges.length∧(g.edges.getD j default).ty=s.k∧s.nr (g.edges.getD j default)=i:=by
 unfold xsI;rw [List.mem_filter,List.mem_range,xsE_iff]
theorem xsI_nodup (g:Gr) (s:Sd) (i:Nat):(xsI g s i).Nodup:=List.nodup_range.filter _
theorem xs_all {t:Ty} {g:Gr}:xsAll t g t.edges.length≠[]↔∃ s∈sdsR t,∃ i,i<g.nodes.length∧tIs t (g.nodes.getD i 0) s.near=true∧xsW s.low s.high (xsCnt g s.k s.o i)=true:=by
 have key:∀ (s:Sd),xsL t g s.k s.o s.near s.low s.high g.nodes.length≠[]↔∃ i,i<g.nodes.length∧tIs t (g.nodes.getD i 0) s.near=true∧xsW s.low s.high (xsCnt g s.k s.o i)=true:=by
  intro s;unfold xsL;rw [Ne,List.map_eq_nil_iff,List.filter_eq_nil_iff];simp only [List.mem_range,xsHit,Bool.and_eq_true,Classical.not_forall,Decidable.not_not];constructor
  ·rintro ⟨i,h1,h2⟩; exact ⟨i,h1,h2⟩
  ·rintro ⟨i,h1,h2⟩; exact ⟨i,h1,h2⟩
 unfold xsAll;rw [Ne,List.flatMap_eq_nil_iff];simp only [List.mem_range,Classical.not_forall];constructor
 ·rintro ⟨k,hk,h⟩;unfold xsTwo at h;rw [List.getElem?_eq_getElem hk] at h;simp only [List.append_eq_nil_iff] at h;rcases Classical.not_and_iff_not_or_not.1 h with h|h
  ·exact ⟨_,sds_mem.2 ⟨k,hk,.inl rfl⟩,(key ⟨k,true,t.edges[k].fr,t.edges[k].to,t.edges[k].ol,t.edges[k].oh⟩).1 h⟩
  ·exact ⟨_,sds_mem.2 ⟨k,hk,.inr rfl⟩,(key ⟨k,false,t.edges[k].to,t.edges[k].fr,t.edges[k].il,t.edges[k].ih⟩).1 h⟩
 ·rintro ⟨s,hs,h⟩;have h:=(key s).2 h;obtain ⟨k,hk,hs⟩:=sds_mem.1 hs;refine ⟨k,hk,fun h2=>h ?_⟩;unfold xsTwo at h2;rw [List.getElem?_eq_getElem hk] at h2;simp only [List.append_eq_nil_iff] at h2;rcases hs with rfl|rfl
  ·exact h2.1
  ·exact h2.2
structure MulM (t:Ty) (s:Sd) (node:Nat) (c:Co):Prop where
 ok:mulOk t s node=true
 n:node<t.nodes.length
 w:(s.low=1∧(endsR t s node).length≤6∧c=lstC s node (endsR t s node))∨(0≤s.high∧c∈greL s node (endsR t s node))
theorem mulN_mem {t:Ty} {s:Sd} {node:Nat} (hn:node<t.nodes.length) {out l:List Co} (h:mulN t s node out=some l):(out.length≤100→l.length≤100)∧∀ c,c∈l↔c∈out∨MulM t s node c:=by
 unfold mulN at h;split at h
 ·rename_i hok;cases hl:mulLo s node (endsR t s node) out with
  | none=>rw [hl] at h; cases h
  | some o =>
   rw [hl] at h;simp only at h;split at h
   ·cases h
   ·rename_i h100;cases h;refine ⟨fun _=>by omega,fun c=>?_⟩;have ho:c∈o↔c∈out∨(s.low=1∧(endsR t s node).length≤6∧c=lstC s node (endsR t s node)):=by
     unfold mulLo at hl;split at hl
     ·split at hl
      ·cases hl
      ·cases hl;rename_i a b;rw [List.mem_append,List.mem_singleton];exact or_congr Iff.rfl ⟨fun h=>⟨a,by omega,h⟩,fun h=>h.2.2⟩
     ·cases hl;rename_i a;exact ⟨.inl,fun h=>h.elim id fun h=>absurd h.1 a⟩
    have hh:c∈mulHi s node (endsR t s node) o↔c∈o∨(0≤s.high∧c∈greL s node (endsR t s node)):=by
     unfold mulHi;split
     ·rename_i a;rw [List.mem_append];exact or_congr Iff.rfl ⟨fun h=>⟨a,h⟩,fun h=>h.2⟩
     ·rename_i a;exact ⟨.inl,fun h=>h.elim id fun h=>absurd h.1 a⟩
    rw [hh,ho,or_assoc];exact or_congr Iff.rfl ⟨fun h=>⟨hok,hn,h⟩,fun h=>h.w⟩
 ·cases h;rename_i hno;exact ⟨id,fun c=>⟨.inl,fun h=>h.elim id fun h=>absurd h.ok hno⟩⟩
theorem mulT_mem {t:Ty} {s:Sd}:∀ (n i:Nat) (out l:List Co),i+n≤t.nodes.length→mulT t s i n out=some l→(out.length≤100→l.length≤100)∧∀ c,c∈l↔c∈out∨∃ node,i≤node∧node<i+n∧MulM t s node c
 | 0,i,out,l,_,h=>by
  cases h;exact ⟨id,fun c=>⟨.inl,fun h=>h.elim id fun ⟨q,h1,h2,_⟩=>by omega⟩⟩
 | n+1,i,out,l,hi,h=>by
  unfold mulT at h;cases hl:mulN t s i out with
  | none=>rw [hl] at h; cases h
  | some o =>
   rw [hl] at h;obtain ⟨a1,a2⟩:=mulN_mem (by omega) hl;obtain ⟨b1,b2⟩:=mulT_mem n (i+1) o l (by omega) h;refine ⟨fun h=>b1 (a1 h),fun c=>?_⟩;rw [b2,a2,or_assoc];refine or_congr Iff.rfl ⟨fun h=>?_,fun ⟨q,h1,h2,h3⟩=>?_⟩
   ·rcases h with h|⟨q,h1,h2,h3⟩
    ·exact ⟨i,Nat.le_refl _,by omega,h⟩
    ·exact ⟨q,by omega,by omega,h3⟩
   ·rcases Nat.eq_or_lt_of_le h1 with e|e
    ·subst e; exact .inl h3
    ·exact .inr ⟨q,by omega,by omega,h3⟩
theorem mulS_mem {t:Ty}:∀ (S:List Sd) (out l:List Co),mulS t S out=some l→(out.length≤100→l.length≤100)∧∀ c,c∈l↔c∈out∨∃ s∈S,∃ node,MulM t s node c
 | [],out,l,h=>by
  cases h;exact ⟨id,fun c=>by simp⟩
 | s::S,out,l,h=>by
  unfold mulS at h;cases hl:mulT t s 0 t.nodes.length out with
  | none=>rw [hl] at h; cases h
  | some o =>
   rw [hl] at h;obtain ⟨a1,a2⟩:=mulT_mem _ _ _ _ (by omega) hl;obtain ⟨b1,b2⟩:=mulS_mem S o l h;refine ⟨fun h=>b1 (a1 h),fun c=>?_⟩;rw [b2,a2,or_assoc];refine or_congr Iff.rfl ⟨fun h=>?_,fun ⟨q,h1,h2⟩=>?_⟩
   ·rcases h with ⟨q,_,_,h3⟩|⟨q,h1,h2⟩
    ·exact ⟨s,by simp,q,h3⟩
    ·exact ⟨q,by simp [h1],h2⟩
   ·rcases List.mem_cons.1 h1 with rfl|h1
    ·obtain ⟨node,h3⟩:=h2;exact .inl ⟨node,Nat.zero_le _,by have:=h3.n; omega,h3⟩
    ·exact .inr ⟨q,h1,h2⟩
theorem mulR0_mem {t:Ty} {l:List Co} (h:mulR0 t=some l):l.length≤100∧∀ c,c∈l↔∃ s∈sdsR t,∃ node,MulM t s node c:=by
 obtain ⟨a,b⟩:=mulS_mem _ _ _ h;exact ⟨a (by simp),fun c=>by rw [b]; simp⟩
theorem numN_app (l:List Int) (x:Int):∀ i,i≤l.length→numN (l++[x]) i=numN l i
 | 0,_=>rfl
 | i+1,h=>by
  have ih:=numN_app l x i (by omega);have hg:(l++[x]).getD i 0=l.getD i 0:=by
   rw [List.getD_eq_getElem?_getD,List.getD_eq_getElem?_getD,List.getElem?_append_left (by omega)]
  simp only [numN,hg,ih]
structure PtOf (f p v:List Int):Prop where
 mem:p∈partsN f.length
 nd:v.Nodup
 len:(v.length:Int)=(numN p f.length).2
 sub:∀ x∈v,x∈f
 at':∀ j,j<f.length→∃ q:Nat,q<v.length∧(numN p f.length).1.getD j 0=(q:Int)∧v.getD q 0=f.getD j 0
 rep:∀ q:Nat,q<v.length→∃ x,x<f.length∧p.getD x 0=(x:Int)∧(numN p f.length).1.getD x 0=(q:Int)
theorem getD_app_left {l m:List Int} {i:Nat} (h:i<l.length):(l++m).getD i 0=l.getD i 0:=by
 rw [List.getD_eq_getElem?_getD,List.getD_eq_getElem?_getD,List.getElem?_append_left h]
theorem getD_app_end {l:List Int} {x:Int}:(l++[x]).getD l.length 0=x:=by simp
theorem getD_end2 {l:List Int} {x:Int} {n:Nat} (h:l.length=n):(l++[x]).getD n 0=x:=by subst h; exact getD_app_end
theorem ptOf (f:List Int):∃ p v,PtOf f p v:=by
 have gen:∀ g:List Int,∃ p v,PtOf g.reverse p v:=by
  intro g;induction g with
  | nil=>exact ⟨[],[],⟨by simp [partsN],List.nodup_nil,rfl,by simp,fun j h=>by simp at h,fun q h=>by simp at h⟩⟩
  | cons y g ih =>
   obtain ⟨p,v,h⟩:=ih;rw [List.reverse_cons];generalize g.reverse=f at *;have hpl:=partsN_len _ _ h.mem;obtain ⟨nl1,nl2,nl3⟩:=numN_len p f.length;have hlen:(f++[y]).length=f.length+1:=by simp
   by_cases hm:y∈v
   ·obtain ⟨q,hq,hy⟩:=List.getElem_of_mem hm;obtain ⟨x,hx,hx1,hx2⟩:=h.rep q hq;have hne:¬ (p++[(x:Int)]).getD f.length 0=(f.length:Int):=by
     rw [←hpl,getD_app_end]; omega
    have hnum:numN (p++[(x:Int)]) (f.length+1)=((numN p f.length).1++[(q:Int)],(numN p f.length).2):=by
     rw [numN,if_neg hne,numN_app _ _ _ (by omega)];rw [show (p++[(x:Int)]).getD f.length 0=(x:Int) by rw [←hpl,getD_app_end],Int.toNat_natCast,hx2]
    refine ⟨p++[(x:Int)],v,?_⟩;constructor
    ·rw [hlen,partsN,List.mem_flatMap];refine ⟨p,h.mem,?_⟩;unfold nextsK;refine List.mem_map.2 ⟨x,List.mem_filter.2 ⟨List.mem_range.2 (by omega),?_⟩,rfl⟩;rw [Bool.or_eq_true];exact .inr (decide_eq_true hx1)
    ·exact h.nd
    ·rw [hlen,hnum]; exact h.len
    ·exact fun z hz=>List.mem_append_left _ (h.sub z hz)
    ·intro j hj;rw [hlen] at hj;rw [hlen,hnum];by_cases e:j<f.length
     ·obtain ⟨a,a1,a2,a3⟩:=h.at' j e;exact ⟨a,a1,by rw [getD_app_left (by omega)]; exact a2,by rw [getD_app_left e]; exact a3⟩
     ·have:j=f.length:=by omega
      subst this;refine ⟨q,hq,?_,?_⟩
      ·exact getD_end2 nl1
      ·rw [getD_app_end,←hy]; simp [hq]
    ·intro a ha;obtain ⟨z,z1,z2,z3⟩:=h.rep a ha;rw [hlen,hnum];exact ⟨z,by omega,by rw [getD_app_left (by omega)]; exact z2,by rw [getD_app_left (by omega)]; exact z3⟩
   ·have hnum:numN (p++[(f.length:Int)]) (f.length+1)=((numN p f.length).1++[(numN p f.length).2],(numN p f.length).2+1):=by
     rw [numN,if_pos (by rw [←hpl,getD_app_end]),numN_app _ _ _ (by omega)]
    refine ⟨p++[(f.length:Int)],v++[y],?_⟩;constructor
    ·rw [hlen,partsN,List.mem_flatMap];refine ⟨p,h.mem,?_⟩;unfold nextsK;refine List.mem_map.2 ⟨f.length,List.mem_filter.2 ⟨List.mem_range.2 (by omega),?_⟩,rfl⟩;simp [hpl]
    ·rw [List.nodup_append];refine ⟨h.nd,by simp,fun a ha b hb=>?_⟩;rw [List.mem_singleton.1 hb];exact fun e=>hm (e ▸ ha)
    ·rw [hlen,hnum,List.length_append];have:=h.len
     simp only [List.length_cons,List.length_nil];omega
    ·intro z hz;rcases List.mem_append.1 hz with hz|hz
     ·exact List.mem_append_left _ (h.sub z hz)
     ·exact List.mem_append_right _ hz
    ·intro j hj;rw [hlen] at hj;rw [hlen,hnum];by_cases e:j<f.length
     ·obtain ⟨a,a1,a2,a3⟩:=h.at' j e;exact ⟨a,by simp; omega,by rw [getD_app_left (by omega)]; exact a2,by rw [getD_app_left e,getD_app_left a1]; exact a3⟩
     ·have:j=f.length:=by omega
      subst this;refine ⟨v.length,by simp,?_,?_⟩
      ·exact (getD_end2 nl1).trans h.len.symm
      ·rw [getD_app_end,getD_app_end]
    ·intro a ha;rw [hlen,hnum];rw [List.length_append] at ha;by_cases e:a<v.length
     ·obtain ⟨z,z1,z2,z3⟩:=h.rep a e;exact ⟨z,by omega,by rw [getD_app_left (by omega)]; exact z2,by rw [getD_app_left (by omega)]; exact z3⟩
     ·have:a=v.length:=by simp only [List.length_cons,List.length_nil] at ha; omega
      subst this;refine ⟨f.length,by omega,by rw [←hpl,getD_app_end],?_⟩;exact (getD_end2 nl1).trans h.len.symm
 have:=gen f.reverse
 rwa [List.reverse_reverse] at this
theorem cho_of {ends:List Int}:∀ (c:List Int),(∀ x∈c,x∈ends)→(∀ i,i<c.length→c.getD i 0 = -1→(-1:Int)∉c.take i)→c∈choR ends c.length:=by
 have gen:∀ g:List Int,(∀ x∈g.reverse,x∈ends)→(∀ i,i<g.reverse.length→g.reverse.getD i 0 = -1→(-1:Int)∉g.reverse.take i)→g.reverse∈choR ends g.reverse.length:=by
  intro g;induction g with
  | nil=>intro _ _; simp [choR]
  | cons y g ih =>
   rw [List.reverse_cons];generalize g.reverse=c at *;intro h1 h2;have hc:=ih (fun x hx=>h1 x (List.mem_append_left _ hx)) fun i hi he=>by
    have:=h2 i (by simp; omega) (by rw [getD_app_left hi]; exact he)
    rwa [List.take_append_of_le_length (by omega)] at this
   have hl:(c++[y]).length=c.length+1:=by simp
   rw [hl];unfold choR;refine List.mem_flatMap.2 ⟨c,hc,?_⟩;unfold chL;refine List.mem_map.2 ⟨y,List.mem_filter.2 ⟨h1 y (by simp),?_⟩,rfl⟩;unfold chB;split
   ·rename_i e;have:=h2 c.length (by simp) (by rw [getD_app_end]; exact e)
    rw [List.take_append_of_le_length (Nat.le_refl _),List.take_length] at this;simp [this]
   ·rfl
 intro c h1 h2;have:=gen c.reverse
 rw [List.reverse_reverse] at this;exact this h1 h2
theorem cho_sub {ends:List Int}:∀ {n:Nat} {c:List Int},c∈choR ends n→∀ x∈c,x∈ends
 | 0,c,h=>by simp [choR] at h; subst h; simp
 | n+1,c,h=>by
  unfold choR at h;obtain ⟨l,hl,h⟩:=List.mem_flatMap.1 h;unfold chL at h;obtain ⟨y,hy,rfl⟩:=List.mem_map.1 h;intro x hx;rcases List.mem_append.1 hx with hx|hx
  ·exact cho_sub hl x hx
  ·rw [List.mem_singleton.1 hx]; exact (List.mem_filter.1 hy).1
theorem numN_lt {l:List Int} (hp:PartL l):∀ i,i≤l.length→∀ x∈(numN l i).1,0≤x∧x<(numN l i).2
 | 0,_=>by simp [numN]
 | i+1,h=>by
  have ih:=numN_lt hp i (by omega);obtain ⟨n1,n2,n3⟩:=numN_len l i;obtain ⟨h1,h2,h3⟩:=hp i (by omega);have hg:l.getD i 0=l[i]:=by simp [show i<l.length by omega]
  intro x hx;simp only [numN] at hx ⊢;split at hx
  ·rename_i e;rw [if_pos e];simp only at hx ⊢;rcases List.mem_append.1 hx with hx|hx
   ·have:=ih x hx; omega
   ·rw [List.mem_singleton] at hx; omega
  ·rename_i e;rw [if_neg e];simp only at hx ⊢;rcases List.mem_append.1 hx with hx|hx
   ·exact ih x hx
   ·rw [List.mem_singleton] at hx;have hlt:(l.getD i 0).toNat<(numN l i).1.length:=by rw [hg] at e ⊢; omega
    rw [hx];refine ih _ ?_;rw [List.getD_eq_getElem?_getD,List.getElem?_eq_getElem hlt,Option.getD_some];exact List.getElem_mem hlt
theorem cntO_take {c:List Int} {i:Nat} (h:i<c.length) (h1:c.getD i 0 ≠ -1):cntO (c.take i)<cntO c∧(c.filter (· != -1)).getD (cntO (c.take i)) 0=c.getD i 0:=by
 have hs:c=c.take i++c[i]::c.drop (i+1):=by rw [←List.drop_eq_getElem_cons h,List.take_append_drop]
 have hg:c.getD i 0=c[i]:=by simp [h]
 rw [hg] at h1 ⊢;have hf:c.filter (· != -1)=(c.take i).filter (· != -1)++c[i]::(c.drop (i+1)).filter (· != -1):=by
  conv=>lhs; rw [hs]
  rw [List.filter_append,List.filter_cons_of_pos (by simpa using h1)]
 unfold cntO;rw [hf];constructor
 ·simp; try omega
 ·simp
theorem gAt_at {c:List Int} {q:Nat} (h:q<c.length):(gAtL c).getD q 0=if c.getD q 0 = -1 then 0 else (1:Int)+cntO (c.take q):=by
 unfold gAtL;simp [h]
theorem nodup_subL {α:Type} [DecidableEq α]:∀ {L M:List α},L.Nodup→(∀ x∈L,x∈M)→L.length≤M.length
 | [],M,_,_=>Nat.zero_le _
 | x::L,M,hn,hs=>by
  have hx:=hs x (by simp);rw [List.nodup_cons] at hn;have:=nodup_subL (L:=L) (M:=M.erase x) hn.2 fun y hy=>by
   have hne:y≠x:=fun e=>hn.1 (e ▸ hy)
   exact (List.mem_erase_of_ne hne).2 (hs y (by simp [hy]))
  rw [List.length_erase_of_mem hx] at this;have:=List.length_pos_of_mem hx
  simp only [List.length_cons];omega
theorem enumL_pre {ok:List Int→Nat→Bool} {m r:Nat} {L x:List Int} (h:x∈enumL ok m r L):∃ T,x=L++T:=by
 obtain ⟨T,_,_,h,_⟩:=enumL_mem.1 h;exact ⟨_,h⟩
theorem enumL_nodup (ok:List Int→Nat→Bool) (m:Nat):∀ (r:Nat) (L:List Int),(enumL ok m r L).Nodup
 | 0,L=>by simp [enumL]
 | r+1,L=>by
  unfold enumL List.Nodup;rw [List.pairwise_flatMap];refine ⟨fun k _=>?_,?_⟩
  ·split
   ·exact enumL_nodup ok m r _
   ·exact List.Pairwise.nil
  ·refine List.Pairwise.imp (R:=fun a b=>a≠b) (fun {a b} hab=>?_) List.nodup_range;intro x hx y hy e;split at hx
   ·split at hy
    ·obtain ⟨T,hT⟩:=enumL_pre hx;obtain ⟨U,hU⟩:=enumL_pre hy;rw [e,hU,List.append_assoc,List.append_assoc] at hT;have:=List.append_cancel_left hT
     simp only [List.cons_append,List.nil_append,List.cons.injEq] at this;omega
    ·simp at hy
   ·simp at hx
theorem allF_nodup (okN:List Int→Nat→Bool) (mn:Nat) (okE:List Int→List Int→Nat→Bool) (me re r:Nat) (N:List Int):(allF okN mn okE me re r N).Nodup:=by
 unfold allF List.Nodup;rw [List.pairwise_flatMap];refine ⟨fun k _=>?_,?_⟩
 ·refine List.Pairwise.map _ (fun a b hab=>?_) (enumL_nodup (okE k) me re []);simpa using hab
 ·refine List.Pairwise.imp (R:=fun a b=>a≠b) (fun {a b} hab=>?_) (enumL_nodup okN mn r N);intro x hx y hy e;obtain ⟨_,_,rfl⟩:=List.mem_map.1 hx;obtain ⟨_,_,rfl⟩:=List.mem_map.1 hy;simp only [Mo.mk.injEq] at e;exact hab e.1
theorem flat_const {α β:Type} (c:Nat) (f:α→List β):∀ l:List α,(∀ x∈l,(f x).length=c)→(l.flatMap f).length=l.length * c
 | [],_=>by simp
 | x::l,h=>by
  rw [List.flatMap_cons,List.length_append,h x (by simp),flat_const c f l fun y hy=>h y (by simp [hy]),List.length_cons,Nat.add_mul];omega
theorem enumL_full (m:Nat):∀ (r:Nat) (L:List Int),(enumL (fun _ _=>true) m r L).length=m ^ r
 | 0,L=>by simp [enumL]
 | r+1,L=>by
  unfold enumL;simp only [if_true];rw [flat_const (m ^ r) _ _ fun k _=>enumL_full m r _,List.length_range,Nat.pow_succ,Nat.mul_comm]
theorem enumL_any {ok:List Int→Nat→Bool} {m r:Nat} {x:List Int} (h1:x.length=r) (h2:∀ y∈x,0≤y∧y<m):x∈enumL (fun _ _=>true) m r []:=by
 refine enumL_nil.2 ⟨h1,fun i hi=>⟨x[i].toNat,?_,?_,rfl⟩⟩
 ·have:=h2 _ (List.getElem_mem hi); omega
 ·have:=h2 _ (List.getElem_mem hi); omega
theorem all_le {A:List Mo} (hA:A.Nodup) (F:Mo→List Int) (hF:∀ a∈A,∀ b∈A,F a=F b→a=b) (m r:Nat) (h:∀ a∈A,(F a).length=r∧∀ y∈F a,0≤y∧y<(m:Int)):A.length≤m ^ r:=by
 have hn:(A.map F).Nodup:=by
  clear h;induction A with
  | nil=>simp
  | cons a A ih =>
   rw [List.nodup_cons] at hA;rw [List.map_cons,List.nodup_cons];refine ⟨fun hm=>?_,ih hA.2 fun x hx y hy=>hF x (by simp [hx]) y (by simp [hy])⟩;obtain ⟨b,hb,e⟩:=List.mem_map.1 hm;have:=hF b (by simp [hb]) a (by simp) e
   exact hA.1 (this ▸ hb)
 have:=nodup_subL (M:=enumL (fun _ _=>true) m r []) hn fun x hx=>by
  obtain ⟨a,ha,rfl⟩:=List.mem_map.1 hx;exact enumL_any (ok:=fun _ _=>true) (h a ha).1 (h a ha).2
 rwa [List.length_map,enumL_full] at this
theorem allS_few {t:Ty} (ht:t.Fit) {p g:Gr} (hp:Lg t p) (hg:Lg t g) (h:(allF (allSr t p g true).okN g.nodes.length (allSr t p g true).okE g.edges.length p.edges.length p.nodes.length []).length≤5000) :
  (allS t p g true).2=0∧∀ m,m∈(allS t p g true).1↔Img t p g true m:=by
 have h0:=hp.giv hg;have hl:(allL t p g true).length≤5000:=by
  have e:allL t p g true=_:=Sr.fnR_all (allSr_ok (inj:=true) ht hp.gfit hg.gfit h0)
  have e2:(allSr t p g true).most+1=5001:=rfl
  rw [e,e2,List.length_take];exact Nat.le_trans (Nat.min_le_right _ _) h
 have h2:(allS t p g true).2=0:=by
  unfold allS;rw [if_neg (by simp [h0]),if_neg (by omega)]
 exact ⟨h2,fun m=>(allS_mem ht hp.gfit hg.gfit h2).trans allSr_Mt⟩
theorem allF_img {t:Ty} {p g:Gr} {m:Mo}:m∈allF (allSr t p g true).okN g.nodes.length (allSr t p g true).okE g.edges.length p.edges.length p.nodes.length []↔Img t p g true m :=
 (Sr.all_mem (s:=allSr t p g true)).trans allSr_Mt
theorem getD_ext {a b:List Int} (h:a.length=b.length) (h2:∀ i,i<a.length→a.getD i 0=b.getD i 0):a=b:=by
 refine List.ext_getElem h fun i h3 h4=>?_
 have:=h2 i h3
 simpa [h3,h4] using this
theorem allS_cov {t:Ty} (ht:t.Fit) {p g:Gr} (hp:Lg t p) (hg:Lg t g) (he:p.edges.length≤3) (hc:∀ i,i<p.nodes.length→∃ j,j<p.edges.length∧((p.edges.getD j default).fr=(i:Int)∨(p.edges.getD j default).to=(i:Int))) :
  (allS t p g true).2=0∧∀ m,m∈(allS t p g true).1↔Img t p g true m:=by
 refine allS_few ht hp hg ?_;have:=all_le (A:=allF (allSr t p g true).okN g.nodes.length (allSr t p g true).okE g.edges.length p.edges.length p.nodes.length []) (allF_nodup _ _ _ _ _ _ _) Mo.edges (fun a ha b hb e=>?_) g.edges.length p.edges.length fun a ha=>?_
 ·refine Nat.le_trans this ?_;have h1:g.edges.length ^ p.edges.length≤8 ^ p.edges.length:=Nat.pow_le_pow_left hg.e _
  have h2:(8:Nat) ^ p.edges.length≤8 ^ 3:=Nat.pow_le_pow_right (by decide) he
  have h3:(8:Nat) ^ 3=512:=by decide
  omega
 ·have ia:=allF_img.1 ha;have ib:=allF_img.1 hb;have hn:a.nodes=b.nodes:=by
   refine getD_ext (by rw [ia.n,ib.n]) fun i hi=>?_
   rw [ia.n] at hi;obtain ⟨j,hj,hcj⟩:=hc i hi;have ja:j<a.edges.length:=by rw [ia.e]; exact hj
   have jb:j<b.edges.length:=by rw [ib.e]; exact hj
   have ea:=ia.ed j ja;have eb:=ib.ed j jb;have hab:a.edges[j]=b.edges[j]:=by simp [e]
   rw [hab,eb] at ea;unfold wantX at ea;simp only [E.mk.injEq,true_and] at ea;rcases hcj with h|h
   ·rw [h] at ea; exact ea.1.symm
   ·rw [h] at ea; exact ea.2.symm
  obtain ⟨an,ae⟩:=a;obtain ⟨bn,be⟩:=b;simp only at e hn;rw [e,hn]
 ·have ia:=allF_img.1 ha;exact ⟨ia.e,ia.re⟩
theorem allS_one {t:Ty} (ht:t.Fit) {g:Gr} {k:Int} (hp:Lg t ⟨[k],[]⟩) (hg:Lg t g) :
  (allS t ⟨[k],[]⟩ g true).2=0∧∀ m,m∈(allS t ⟨[k],[]⟩ g true).1↔Img t ⟨[k],[]⟩ g true m:=by
 refine allS_few ht hp hg ?_;have:=all_le (A:=allF (allSr t ⟨[k],[]⟩ g true).okN g.nodes.length (allSr t ⟨[k],[]⟩ g true).okE g.edges.length 0 1 []) (allF_nodup _ _ _ _ _ _ _) Mo.nodes (fun a ha b hb e=>?_) g.nodes.length 1 fun a ha=>?_
 ·refine Nat.le_trans this ?_;have:=hg.n
  rw [Nat.pow_one];omega
 ·have ia:=allF_img.1 ha;have ib:=allF_img.1 hb;have h1:a.edges=[]:=List.eq_nil_of_length_eq_zero ia.e
  have h2:b.edges=[]:=List.eq_nil_of_length_eq_zero ib.e
  obtain ⟨an,ae⟩:=a;obtain ⟨bn,be⟩:=b;simp only at e h1 h2;rw [e,h1,h2]
 ·have ia:=allF_img.1 ha;exact ⟨ia.n,ia.rn⟩
theorem gre_x {c:List Int} {q:Nat} (h:q<c.length) (node:Int):0≤(gAtL c).getD q 0∧((gAtL c).getD q 0).toNat<(node::c.filter (· != -1)).length∧(node::c.filter (· != -1)).getD ((gAtL c).getD q 0).toNat 0=if c.getD q 0 = -1 then node else c.getD q 0:=by
 rw [gAt_at h];split
 ·simp
 ·rename_i h1;obtain ⟨h2,h3⟩:=cntO_take h h1;have e:((1:Int)+(cntO (c.take q):Nat)).toNat=cntO (c.take q)+1:=by omega
  rw [e];refine ⟨by omega,?_,?_⟩
  ·have h2:cntO (c.take q)<(c.filter (· != -1)).length:=h2
   rw [List.length_cons]; omega
  ·rw [List.getD_cons_succ]; exact h3
theorem link_fr {s:Sd} {x:Int} {n:Nat} (h0:0<n) (h1:0≤x) (h2:x<n):(0≤(s.link x).fr∧(s.link x).fr<n)∧0≤(s.link x).to∧(s.link x).to<n:=by
 unfold Sd.link;cases s.o <;> simp <;> omega
theorem gre_lg {t:Ty} (h0:tyE t=0) {s:Sd} (hs:SdOk t s) {node:Int} (hl:leafB t node=true) (hn:tIs t node s.near=true) {c cls:List Int} (hc:∀ x∈c,x∈endsR t s node) (hcl:c.length≤5) (hk:∀ x∈cls,0≤x∧x.toNat<c.length) (hkl:cls.length≤8) :
  Lg t (greG s node cls c):=by
 have hn1:=((tIs_iff h0).1 hn).1;constructor
 ·exact h0
 ·show (node::c.filter (· != -1)).length≤6
  have:=List.length_filter_le (· != -1) c
  rw [List.length_cons]; omega
 ·show (cls.map _).length≤8
  rw [List.length_map]; exact hkl
 ·intro x hx;have hx:x∈node::c.filter (· != -1):=hx
  rcases List.mem_cons.1 hx with rfl|hx
  ·exact ⟨hn1,hl⟩
  ·obtain ⟨h1,h2⟩:=List.mem_filter.1 hx;rcases (ends_mem h0).1 (hc x h1) with ⟨h3,_⟩|⟨h3,h4,h5⟩
   ·rw [h3] at h2; exact absurd h2 (by decide)
   ·exact ⟨h3,h4⟩
 ·intro e he;have he:e∈cls.map fun k=>s.link ((gAtL c).getD k.toNat 0):=he
  obtain ⟨k,hk1,rfl⟩:=List.mem_map.1 he;obtain ⟨k1,k2⟩:=hk k hk1;obtain ⟨x1,x2,x3⟩:=gre_x k2 node;have:=link_fr (s:=s) (n:=(node::c.filter (· != -1)).length) (by simp) x1 (by omega)
  refine ⟨this.1,this.2,?_⟩;show fitB t _ ((node::c.filter (· != -1)).getD _ 0) ((node::c.filter (· != -1)).getD _ 0)=true
  refine link_fit h0 hs hn (b:=if c.getD k.toNat 0 = -1 then node else c.getD k.toNat 0) ?_ _ rfl x3;have hm:c.getD k.toNat 0∈c:=by
   rw [List.getD_eq_getElem?_getD,List.getElem?_eq_getElem k2,Option.getD_some];exact List.getElem_mem k2
  rcases (ends_mem h0).1 (hc _ hm) with ⟨h3,h4⟩|⟨h3,h4,h5⟩
  ·rw [if_pos h3]; exact h4
  ·rw [if_neg (by omega)]; exact h5
theorem greL_mem {t:Ty} {s:Sd} {node:Int} {c:Co} (h:c∈greL s node (endsR t s node)):∃ p∈partsN (s.high.toNat+1),∃ ch∈choR (endsR t s node) (numN p (s.high.toNat+1)).2.toNat,c=greC s node (numN p (s.high.toNat+1)).1 ch:=by
 unfold greL at h;obtain ⟨p,hp,h⟩:=List.mem_flatMap.1 h;have hl:=partsN_len _ _ hp;unfold greP at h;rw [hl] at h;obtain ⟨ch,hch,rfl⟩:=List.mem_map.1 h;exact ⟨p,hp,ch,hch,rfl⟩
theorem gre_ok {t:Ty} (h0:tyE t=0) {s:Sd} (hs:SdOk t s) {node:Int} (hl:leafB t node=true) (hn:tIs t node s.near=true) (h2:s.high≤2) {p ch:List Int} (hp:p∈partsN (s.high.toNat+1)) (hch:ch∈choR (endsR t s node) (numN p (s.high.toNat+1)).2.toNat) :
  Lg t (greG s node (numN p (s.high.toNat+1)).1 ch)∧(numN p (s.high.toNat+1)).1.length=s.high.toNat+1:=by
 have hpl:=partsN_len _ _ hp;have hP:=partsN_partL _ _ hp;obtain ⟨n1,n2,n3⟩:=numN_len p (s.high.toNat+1);have hcl:=choR_mem hch;refine ⟨gre_lg h0 hs hl hn (fun x hx=>cho_sub hch x hx) (by omega) (fun x hx=>?_) (by omega),n1⟩;have:=numN_lt hP _ (by omega) x hx
 omega
theorem link_nr (s:Sd) (x:Int) (N:List Int):s.nr ⟨(s.link x).ty,N.getD (s.link x).fr.toNat 0,N.getD (s.link x).to.toNat 0⟩=N.getD 0 0∧s.fa ⟨(s.link x).ty,N.getD (s.link x).fr.toNat 0,N.getD (s.link x).to.toNat 0⟩=N.getD x.toNat 0∧(s.link x).ty=s.k:=by
 unfold Sd.nr Sd.fa Sd.link;cases s.o <;> simp
theorem sd_ext {s:Sd} {a b:E} (h:a.ty=b.ty) (h1:s.nr a=s.nr b) (h2:s.fa a=s.fa b):a=b:=by
 obtain ⟨a1,a2,a3⟩:=a;obtain ⟨b1,b2,b3⟩:=b;unfold Sd.nr Sd.fa at *;cases ho:s.o <;> simp_all
theorem gre_many {t:Ty} {g:Gr} (hg:Lg t g) {s:Sd} {node:Int} (hl:leafB t node=true) {c cls:List Int} {m:Mo} (hm:Img t (greG s node cls c) g true m) :
  ∃ i,i<g.nodes.length∧g.nodes.getD i 0=node∧cls.length≤xsCnt g s.k s.o i:=by
 have hn:=hm.n;have hln:m.nodes.length=(c.filter (· != -1)).length+1:=hn
 have hle:m.edges.length=cls.length:=by have:=hm.e; rw [this]; exact List.length_map _
 have h0:0<m.nodes.length:=by omega
 have hr:=hm.rn _ (List.getElem_mem h0);have ht:=hm.ty 0 h0;have hnd:(greG s node cls c).nodes.getD 0 0=node:=rfl
 rw [hnd] at ht;have hlt:m.nodes[0].toNat<g.nodes.length:=by omega
 have hlf:=hg.lf (g.nodes.getD m.nodes[0].toNat 0) (by rw [List.getD_eq_getElem?_getD,List.getElem?_eq_getElem hlt,Option.getD_some]; exact List.getElem_mem hlt);refine ⟨m.nodes[0].toNat,hlt,leaf_is hg.ty hlf.1.2 hl ht,?_⟩;rw [←xsI_len,←hle];have hnn:(m.edges.map Int.toNat).Nodup:=by
  have hd:=hm.de rfl;unfold List.Nodup at hd ⊢;rw [List.pairwise_map];refine List.Pairwise.imp_of_mem (fun {a b} ha hb hab=>?_) hd;have:=hm.re a ha
  have:=hm.re b hb
  omega
 have:=nodup_subL (M:=xsI g s m.nodes[0].toNat) hnn fun x hx=>?_
 ·rwa [List.length_map] at this
 ·obtain ⟨a,ha,rfl⟩:=List.mem_map.1 hx;obtain ⟨j,hj,rfl⟩:=List.getElem_of_mem ha;have hra:=hm.re _ (List.getElem_mem hj);have he:=hm.ed j hj;have hjc:j<cls.length:=by omega
  have hpe:(greG s node cls c).edges.getD j default=s.link ((gAtL c).getD cls[j].toNat 0):=by
   show (cls.map fun k=>s.link ((gAtL c).getD k.toNat 0)).getD j default=_
   simp [hjc]
  unfold wantX at he;rw [hpe] at he;have hlk:=link_nr s ((gAtL c).getD cls[j].toNat 0) m.nodes;refine xsI_mem.2 ⟨by omega,?_,?_⟩
  ·rw [he]; exact hlk.2.2
  ·rw [he,hlk.1,List.getD_eq_getElem?_getD,List.getElem?_eq_getElem h0,Option.getD_some];omega
theorem getD_memI {l:List Int} {i:Nat} (h:i<l.length):l.getD i 0∈l:=by
 rw [List.getD_eq_getElem?_getD,List.getElem?_eq_getElem h,Option.getD_some];exact List.getElem_mem h
theorem filter_map_ty {g:Gr} {i:Nat}:∀ {v:List Int},(∀ x∈v,0≤g.nodes.getD x.toNat 0)→(v.map fun x=>if x=(i:Int) then -1 else g.nodes.getD x.toNat 0).filter (· != -1)=(v.filter (· != (i:Int))).map fun x=>g.nodes.getD x.toNat 0
 | [],_=>rfl
 | y::v,h=>by
  have ih:=filter_map_ty (g:=g) (i:=i) (v:=v) fun x hx=>h x (by simp [hx])
  have h0:=h y (by simp);rw [List.map_cons,List.filter_cons,List.filter_cons,ih];by_cases e:y=(i:Int)
  ·simp [e]
  ·have h1:(g.nodes.getD y.toNat 0 != -1)=true:=by rw [bne_iff_ne]; omega
   have h2:(y != (i:Int))=true:=by simpa using e
   rw [if_neg e,h1,h2];simp
theorem cnt_filter {v:List Int} {i:Nat} {g:Gr}:∀ {q:Nat},q<v.length→(∀ x∈v,0≤g.nodes.getD x.toNat 0)→v.getD q 0≠(i:Int) →
  cntO ((v.map fun x=>if x=(i:Int) then -1 else g.nodes.getD x.toNat 0).take q)=((v.take q).filter (· != (i:Int))).length:=by
 intro q hq h hne;unfold cntO;rw [←List.map_take,filter_map_ty fun x hx=>h x (List.mem_of_mem_take hx),List.length_map]
theorem img_at {v:List Int} {i q:Nat} (h:q<v.length) (h1:v.getD q 0≠(i:Int)):(v.filter (· != (i:Int))).getD ((v.take q).filter (· != (i:Int))).length 0=v.getD q 0:=by
 have hs:v=v.take q++v[q]::v.drop (q+1):=by rw [←List.drop_eq_getElem_cons h,List.take_append_drop]
 have hg:v.getD q 0=v[q]:=by simp [h]
 rw [hg] at h1 ⊢;have hf:v.filter (· != (i:Int))=(v.take q).filter (· != (i:Int))++v[q]::(v.drop (q+1)).filter (· != (i:Int)):=by
  conv=>lhs; rw [hs]
  rw [List.filter_append,List.filter_cons_of_pos (by simpa using h1)]
 rw [hf];simp
theorem gre_some {t:Ty} {g:Gr} (hg:Lg t g) {s:Sd} (hs:SdOk t s) (h0:0≤s.high) (h2:s.high≤2) {i:Nat} (hi:i<g.nodes.length) (hn:tIs t (g.nodes.getD i 0) s.near=true) (hc:s.high<xsCnt g s.k s.o i) :
  ∃ c∈greL s (g.nodes.getD i 0) (endsR t s (g.nodes.getD i 0)),c.kind=1∧c.exts=[]∧∃ m,Img t c.g g true m:=by
 rw [←xsI_len] at hc;obtain ⟨es,hes⟩:∃ es,(xsI g s i).take (s.high.toNat+1)=es:=⟨_,rfl⟩
 have hel:es.length=s.high.toNat+1:=by rw [←hes,List.length_take]; omega
 have hem:∀ j∈es,j<g.edges.length∧(g.edges.getD j default).ty=s.k∧s.nr (g.edges.getD j default)=i:=fun j hj=>xsI_mem.1 (List.mem_of_mem_take (by rw [hes]; exact hj))
 have hen:es.Nodup:=by rw [←hes]; exact (xsI_nodup g s i).sublist (List.take_sublist _ _)
 have hfit:∀ j∈es,(0≤s.fa (g.edges.getD j default)∧s.fa (g.edges.getD j default)<g.nodes.length)∧tIs t (g.nodes.getD (s.fa (g.edges.getD j default)).toNat 0) s.far=true:=fun j hj=>by
  obtain ⟨a,b,c⟩:=hem j hj;have hm:g.edges.getD j default∈g.edges:=by
   rw [List.getD_eq_getElem?_getD,List.getElem?_eq_getElem a,Option.getD_some];exact List.getElem_mem a
  have:=side_fit hg hs hm b
  exact ⟨this.2.1,this.2.2.2⟩
 obtain ⟨f,hf⟩:∃ f,es.map (fun j=>s.fa (g.edges.getD j default))=f:=⟨_,rfl⟩
 have hfl:f.length=s.high.toNat+1:=by rw [←hf,List.length_map,hel]
 have hfm:∀ x∈f,(0≤x∧x<g.nodes.length)∧tIs t (g.nodes.getD x.toNat 0) s.far=true:=fun x hx=>by
  rw [←hf] at hx;obtain ⟨j,hj,rfl⟩:=List.mem_map.1 hx;exact hfit j hj
 obtain ⟨p,v,hP⟩:=ptOf f;have hpm:=hP.mem;have hlen:=hP.len;have hat:=hP.at';rw [hfl] at hpm hlen hat;have hv:∀ x∈v,(0≤x∧x<g.nodes.length)∧tIs t (g.nodes.getD x.toNat 0) s.far=true:=fun x hx=>hfm x (hP.sub x hx)
 have hv0:∀ x∈v,0≤g.nodes.getD x.toNat 0:=fun x hx=>((tIs_iff hg.ty).1 (hv x hx).2).1.1
 obtain ⟨ch,hch⟩:∃ ch,(v.map fun x=>if x=(i:Int) then -1 else g.nodes.getD x.toNat 0)=ch:=⟨_,rfl⟩
 have hcl:ch.length=v.length:=by rw [←hch,List.length_map]
 have hlfi:=hg.lf (g.nodes.getD i 0) (getD_memI hi);have hchm:ch∈choR (endsR t s (g.nodes.getD i 0)) (numN p (s.high.toNat+1)).2.toNat:=by
  have:(numN p (s.high.toNat+1)).2.toNat=ch.length:=by omega
  rw [this];refine cho_of ch (fun x hx=>?_) fun q hq he hm=>?_
  ·rw [←hch] at hx;obtain ⟨y,hy,rfl⟩:=List.mem_map.1 hx;obtain ⟨y1,y2⟩:=hv y hy;refine (ends_mem hg.ty).2 ?_;split
   ·rename_i e;subst e;exact .inl ⟨rfl,by simpa using y2⟩
   ·have hlt:y.toNat<g.nodes.length:=by omega
    have:=hg.lf _ (getD_memI hlt)
    exact .inr ⟨this.1,this.2,y2⟩
  ·rw [←hch] at he hm;have hq2:q<v.length:=by omega
   rw [←List.map_take] at hm;obtain ⟨y,hy,e⟩:=List.mem_map.1 hm;have hyv:=List.mem_of_mem_take hy;have e1:y=(i:Int):=by
    by_cases h:y=(i:Int)
    ·exact h
    ·rw [if_neg h] at e;have:=hv0 y hyv
     omega
   have e2:v[q]=(i:Int):=by
    have he:(if v[q]=(i:Int) then -1 else g.nodes.getD v[q].toNat 0) = -1:=by simpa [hq2] using he
    by_cases h:v[q]=(i:Int)
    ·exact h
    ·rw [if_neg h] at he;have:=hv0 _ (List.getElem_mem hq2)
     omega
   rw [e1,←e2] at hy;obtain ⟨a,ha,e3⟩:=List.mem_take_iff_getElem.1 hy;have:=hP.nd
   unfold List.Nodup at this;rw [List.pairwise_iff_getElem] at this;exact this a q (by omega) hq2 (by omega) e3
 obtain ⟨glg,gcl⟩:=gre_ok hg.ty hs hlfi.2 hn h2 hpm hchm;obtain ⟨cls,hcls⟩:∃ cls,(numN p (s.high.toNat+1)).1=cls:=⟨_,rfl⟩
 rw [hcls] at glg gcl hat;refine ⟨greC s (g.nodes.getD i 0) cls ch,?_,rfl,rfl,?_⟩
 ·unfold greL;refine List.mem_flatMap.2 ⟨p,hpm,?_⟩;unfold greP;rw [partsN_len _ _ hpm,hcls];exact List.mem_map.2 ⟨ch,hchm,rfl⟩
 ·have hcf:ch.filter (· != -1)=(v.filter (· != (i:Int))).map fun x=>g.nodes.getD x.toNat 0:=by rw [←hch]; exact filter_map_ty hv0
  refine ⟨⟨(i:Int)::v.filter (· != (i:Int)),es.map fun (j:Nat)=>(j:Int)⟩,?_⟩;constructor
  ·show ((i:Int)::v.filter (· != (i:Int))).length=(g.nodes.getD i 0::ch.filter (· != -1)).length
   rw [hcf]; simp
  ·show (es.map _).length=(cls.map _).length
   rw [List.length_map,List.length_map,hel,gcl]
  ·intro x hx;rcases List.mem_cons.1 hx with rfl|hx
   ·omega
   ·exact (hv x (List.mem_filter.1 hx).1).1
  ·intro x hx;obtain ⟨j,hj,rfl⟩:=List.mem_map.1 hx;have:=(hem j hj).1
   omega
  ·intro q hq;show isB t _ ((g.nodes.getD i 0::ch.filter (· != -1)).getD q 0)=true
   rw [hcf];cases q with
   | zero=>exact self_is hg.ty hlfi.1.1 hlfi.1.2
   | succ q =>
    have hq:q<(v.filter (· != (i:Int))).length:=by simpa using hq
    have e1:((i:Int)::v.filter (· != (i:Int)))[q+1]=(v.filter (· != (i:Int)))[q]:=rfl
    simp only [List.getElem_cons_succ,List.getD_cons_succ];have e2:((v.filter (· != (i:Int))).map fun x=>g.nodes.getD x.toNat 0).getD q 0=g.nodes.getD ((v.filter (· != (i:Int)))[q]).toNat 0:=by simp [hq]
    rw [e2];have:=((tIs_iff hg.ty).1 (hv _ (List.mem_filter.1 (List.getElem_mem hq)).1).2).1
    exact self_is hg.ty this.1 this.2
  ·intro j hj;have hj2:j<es.length:=by simpa using hj
   have hjc:j<cls.length:=by omega
   have e1:(es.map fun (j:Nat)=>(j:Int))[j]=((es[j]:Nat):Int):=by simp
   obtain ⟨b1,b2,b3⟩:=hem _ (List.getElem_mem hj2);obtain ⟨q,hq,hq1,hq2⟩:=hat j (by omega);have hclsj:cls[j]=(q:Int):=by simpa [hjc] using hq1
   have hfj:f.getD j 0=s.fa (g.edges.getD es[j] default):=by rw [←hf]; simp [hj2]
   show g.edges.getD _ default=_
   simp only [e1,Int.toNat_natCast];have hpe:(greC s (g.nodes.getD i 0) cls ch).g.edges.getD j default=s.link ((gAtL ch).getD q 0):=by
    show (cls.map fun k=>s.link ((gAtL ch).getD k.toNat 0)).getD j default=_
    simp [hjc,hclsj]
   unfold wantX;rw [hpe];obtain ⟨l1,l2,l3⟩:=link_nr s ((gAtL ch).getD q 0) ((i:Int)::v.filter (· != (i:Int)));refine sd_ext (s:=s) ?_ ?_ ?_
   ·rw [b2]; exact l3.symm
   ·rw [b3,l1]; rfl
   ·rw [l2,←hfj,←hq2,gAt_at (by omega),←hch];have hmq:(v.map fun x=>if x=(i:Int) then -1 else g.nodes.getD x.toNat 0).getD q 0=if v.getD q 0=(i:Int) then -1 else g.nodes.getD (v.getD q 0).toNat 0:=by simp [hq]
    rw [hmq];by_cases e:v.getD q 0=(i:Int)
    ·rw [if_pos e,if_pos rfl,e]; rfl
    ·have:=hv0 _ (getD_memI hq)
     rw [if_neg e,if_neg (by omega),cnt_filter hq hv0 e];rw [show ((1:Int)+(((v.take q).filter (· != (i:Int))).length:Nat)).toNat=((v.take q).filter (· != (i:Int))).length+1 by omega,List.getD_cons_succ,img_at hq e]
  ·intro _;rw [List.nodup_cons];refine ⟨fun hm=>?_,hP.nd.sublist List.filter_sublist⟩;have:=(List.mem_filter.1 hm).2
   simp at this
  ·intro _;unfold List.Nodup at hen ⊢;rw [List.pairwise_map];exact hen.imp fun h=>by omega
theorem ext_some {t:Ty} (ht:t.Fit) {p g:Gr} {pt:Mo} (hp:p.Fit) (hg:g.Fit) (h:givS t p g=0) (h1:pt.nodes.length=p.nodes.length) (h2:pt.edges.length=p.edges.length) (h3:opE pt.nodes g.nodes.length=0) (h4:opE pt.edges g.edges.length=0) :
  (decide ((extS t p g pt true).2=3)||(decide ((extS t p g pt true).2=0)&&decide (0<(extS t p g pt true).1.length)))=true↔∃ m,(extSr t p g pt true).Mt m:=by
 have e:extL t p g pt true=_:=Sr.fnR_all (extSr_ok (inj:=true) ht hp hg h h1 h2)
 have e2:(extSr t p g pt true).most+1=5001:=rfl
 rw [e2] at e;have e3:extS t p g pt true=if 5000<(extL t p g pt true).length then ([],3) else (extL t p g pt true,0):=by
  unfold extS;rw [if_neg (by simp [h]),if_neg (by omega),if_neg (by simp [h3]),if_neg (by simp [h4])]
 have hm:∀ m,m∈_↔(extSr t p g pt true).Mt m:=fun m=>Sr.all_mem (s:=extSr t p g pt true) (m:=m)
 have e4:(∃ m,(extSr t p g pt true).Mt m)↔0<(extL t p g pt true).length:=by
  rw [e,List.length_take];generalize allF _ _ _ _ _ _ _=A at *;constructor
  ·rintro ⟨m,hm2⟩;have:=List.length_pos_of_mem ((hm m).2 hm2)
   omega
  ·intro hl;obtain ⟨m,hm2⟩:=List.exists_mem_of_length_pos (l:=A) (by omega);exact ⟨m,(hm m).1 hm2⟩
 rw [e3,e4];split
 ·simp; omega
 ·simp
theorem opE_ok {l:List Int} {n:Nat} (h:∀ x∈l, -1≤x∧x<n):opE l n=0:=by
 unfold opE;rw [if_neg];simp only [anyB,List.any_eq_true,not_exists,not_and];intro x hx;have:=h x hx
 simp [opB]; omega
theorem ext_okN {t:Ty} {p g:Gr} {pt:Mo} {N:List Int} {k:Nat}:(extSr t p g pt true).okN N k=true↔gvB pt.nodes N.length k=true∧(k:Int)∉N∧isB t (g.nodes.getD k 0) (p.nodes.getD N.length 0)=true:=by
 unfold Sr.okN;show (if gvB pt.nodes N.length k=true then (if usB true N k=true then false else isB t (g.nodes.getD k 0) (p.nodes.getD N.length 0)) else false)=true↔_
 unfold usB;cases gvB pt.nodes N.length k <;> by_cases hm:(k:Int)∈N <;> simp [hm]
theorem ext_okE {t:Ty} {p g:Gr} {pt:Mo} {N M:List Int} {k:Nat}:(extSr t p g pt true).okE N M k=true↔gvB pt.edges M.length k=true∧(k:Int)∉M∧g.edges.getD k default=wantX p N M.length:=by
 unfold Sr.okE;show (if gvB pt.edges M.length k=true then (if usB true M k=true then false else decide (g.edges.getD k default=wantX p N M.length)) else false)=true↔_
 unfold usB;cases gvB pt.edges M.length k <;> by_cases hm:(k:Int)∈M <;> simp [hm]
theorem lstX_lg {t:Ty} (h0:tyE t=0) {s:Sd} (hs:SdOk t s) {node:Int} (hl:leafB t node=true) (hn:tIs t node s.near=true) {x:Int} (hx:x∈endsR t s node):Lg t (lstX s node x).g:=by
 have hn1:=((tIs_iff h0).1 hn).1;rcases (ends_mem h0).1 hx with ⟨h3,h4⟩|⟨h3,h4,h5⟩
 ·unfold lstX;rw [if_pos h3];refine ⟨h0,by simp,by simp,fun y hy=>?_,fun e he=>?_⟩
  ·rw [List.mem_singleton.1 hy]; exact ⟨hn1,hl⟩
  ·rw [List.mem_singleton.1 he];have:=link_fr (s:=s) (x:=0) (n:=1) (by omega) (by omega) (by omega)
   exact ⟨this.1,this.2,link_fit h0 hs hn h4 [node] rfl rfl⟩
 ·unfold lstX;rw [if_neg (by omega)];refine ⟨h0,by simp,by simp,fun y hy=>?_,fun e he=>?_⟩
  ·simp only [List.mem_cons,List.not_mem_nil,or_false] at hy;rcases hy with rfl|rfl
   ·exact ⟨hn1,hl⟩
   ·exact ⟨h3,h4⟩
  ·rw [List.mem_singleton.1 he];have:=link_fr (s:=s) (x:=1) (n:=2) (by omega) (by omega) (by omega)
   exact ⟨this.1,this.2,link_fit h0 hs hn h5 [node,x] rfl rfl⟩
theorem one_lg {t:Ty} (h0:tyE t=0) {node:Int} (hl:leafB t node=true) (hn:0≤node∧node<t.nodes.length):Lg t ⟨[node],[]⟩ :=
 ⟨h0,by simp,by simp,fun y hy=>by rw [List.mem_singleton.1 hy]; exact ⟨hn,hl⟩,fun e he=>by simp at he⟩
theorem one_img {t:Ty} {g:Gr} (hg:Lg t g) {node:Int} (hl:leafB t node=true) {m:Mo} (h:Img t ⟨[node],[]⟩ g true m):∃ i:Nat,i<g.nodes.length∧g.nodes.getD i 0=node∧m=⟨[(i:Int)],[]⟩:=by
 obtain ⟨mn,me⟩:=m;have h1:mn.length=1:=h.n
 have h2:me.length=0:=h.e
 obtain ⟨a,rfl⟩:=List.length_eq_one_iff.1 h1;obtain rfl:=List.eq_nil_of_length_eq_zero h2;have hr:=h.rn a (by simp);have ht:=h.ty 0 (by simp);simp only [List.getElem_cons_zero] at ht;have hlt:a.toNat<g.nodes.length:=by omega
 have:=hg.lf _ (getD_memI hlt)
 exact ⟨a.toNat,hlt,leaf_is hg.ty this.1.2 hl ht,by rw [Int.toNat_of_nonneg hr.1]⟩
theorem img_one {t:Ty} {g:Gr} (hg:Lg t g) {i:Nat} (hi:i<g.nodes.length):Img t ⟨[g.nodes.getD i 0],[]⟩ g true ⟨[(i:Int)],[]⟩:=by
 have hl:=hg.lf _ (getD_memI hi);refine ⟨rfl,rfl,fun x hx=>?_,fun x hx=>by simp at hx,fun q hq=>?_,fun q hq=>by simp at hq,fun _=>by simp,fun _=>by simp⟩
 ·rw [List.mem_singleton.1 hx]; omega
 ·have:q=0:=by simpa using hq
  subst this;exact self_is hg.ty hl.1.1 hl.1.2
theorem xtP_one (s:Sd) (node x:Int) (i:Nat):xtP ⟨[(i:Int)],[]⟩ (lstX s node x)=if x = -1 then ⟨[(i:Int)],[-1]⟩ else ⟨[(i:Int), -1],[-1]⟩:=by
 unfold xtP lstX;by_cases h:x = -1
 ·rw [if_pos h,if_pos h]; rfl
 ·rw [if_neg h,if_neg h]; rfl
theorem ext_iff {t:Ty} (ht:t.Fit) {g:Gr} (hg:Lg t g) {s:Sd} (hs:SdOk t s) {i:Nat} (hi:i<g.nodes.length) (hn:tIs t (g.nodes.getD i 0) s.near=true) :
  ((endsR t s (g.nodes.getD i 0)).map (lstX s (g.nodes.getD i 0))).any (xtH t g ⟨[(i:Int)],[]⟩)=true↔0<xsCnt g s.k s.o i:=by
 have hlf:=hg.lf _ (getD_memI hi);have hx:∀ x∈endsR t s (g.nodes.getD i 0),xtH t g ⟨[(i:Int)],[]⟩ (lstX s (g.nodes.getD i 0) x)=true↔∃ m,(extSr t (lstX s (g.nodes.getD i 0) x).g g (xtP ⟨[(i:Int)],[]⟩ (lstX s (g.nodes.getD i 0) x)) true).Mt m:=by
  intro x hx;have hp:=lstX_lg hg.ty hs hlf.2 hn hx;unfold xtH xtR;refine ext_some ht hp.gfit hg.gfit (hp.giv hg) ?_ ?_ ?_ ?_
  ·rw [xtP_one]; unfold lstX; split <;> rfl
  ·rw [xtP_one]; unfold lstX; split <;> rfl
  ·rw [xtP_one];refine opE_ok fun y hy=>?_
   split at hy
   ·rw [List.mem_singleton.1 hy]; omega
   ·simp only [List.mem_cons,List.not_mem_nil,or_false] at hy;rcases hy with rfl|rfl <;> omega
  ·rw [xtP_one];refine opE_ok fun y hy=>?_
   have:y = -1:=by split at hy <;> exact List.mem_singleton.1 hy
   omega
 rw [List.any_map,List.any_eq_true,←xsI_len];constructor
 ·rintro ⟨x,hxm,h⟩;obtain ⟨m,hm⟩:=(hx x hxm).1 h;have hp:=lstX_lg hg.ty hs hlf.2 hn hxm;have hpn:0<(lstX s (g.nodes.getD i 0) x).g.nodes.length:=by unfold lstX; split <;> simp
  have hpe:0<(lstX s (g.nodes.getD i 0) x).g.edges.length:=by unfold lstX; split <;> simp
  have hmn:m.nodes.length=_:=hm.n
  have hme:m.edges.length=_:=hm.e
  have hmn:0<m.nodes.length:=by rw [hmn]; exact hpn
  have hme:0<m.edges.length:=by rw [hme]; exact hpe
  obtain ⟨k,k1,k2,k3⟩:=hm.nodes 0 hmn;obtain ⟨q,q1,q2,q3⟩:=hm.edges 0 hme;have k4:=(ext_okN.1 k3).1;have q4:=(ext_okE.1 q3).2.2;have hg0:(xtP ⟨[(i:Int)],[]⟩ (lstX s (g.nodes.getD i 0) x)).nodes.getD 0 0=(i:Int):=by rw [xtP_one]; split <;> rfl
  unfold gvB at k4;simp only [List.take_zero,List.length_nil,hg0] at k4;rw [if_pos (by omega)] at k4;have k5:i=k:=by have:=of_decide_eq_true k4; omega
  obtain ⟨y,hy⟩:∃ y,(lstX s (g.nodes.getD i 0) x).g.edges.getD 0 default=s.link y:=by unfold lstX; split <;> exact ⟨_,rfl⟩
  have q4:g.edges.getD q default=wantX (lstX s (g.nodes.getD i 0) x).g m.nodes 0:=by simpa using q4
  unfold wantX at q4;rw [hy] at q4;obtain ⟨l1,l2,l3⟩:=link_nr s y m.nodes;refine List.length_pos_of_mem (a:=q) (xsI_mem.2 ⟨q1,?_,?_⟩)
  ·rw [q4]; exact l3
  ·rw [q4,l1,List.getD_eq_getElem?_getD,List.getElem?_eq_getElem hmn,Option.getD_some,k2,k5]
 ·intro hc;obtain ⟨j,hj⟩:=List.exists_mem_of_length_pos hc;obtain ⟨j1,j2,j3⟩:=xsI_mem.1 hj;have hme:g.edges.getD j default∈g.edges:=by
   rw [List.getD_eq_getElem?_getD,List.getElem?_eq_getElem j1,Option.getD_some];exact List.getElem_mem j1
  obtain ⟨f1,f2,f3,f4⟩:=side_fit hg hs hme j2;obtain ⟨f,hf⟩:∃ f,s.fa (g.edges.getD j default)=f:=⟨_,rfl⟩
  rw [hf] at f2 f4;have hflt:f.toNat<g.nodes.length:=by omega
  have hfl:=hg.lf _ (getD_memI hflt);by_cases e:f=(i:Int)
  ·have hm:(-1:Int)∈endsR t s (g.nodes.getD i 0):=(ends_mem hg.ty).2 (.inl ⟨rfl,by rw [e] at f4; simpa using f4⟩)
   refine ⟨-1,hm,(hx _ hm).2 ⟨⟨[(i:Int)],[(j:Int)]⟩,?_⟩⟩;refine ⟨rfl,rfl,fun q hq=>?_,fun q hq=>?_⟩
   ·have:q=0:=by simpa using hq
    subst this;refine ⟨i,hi,rfl,ext_okN.2 ⟨?_,by simp,self_is hg.ty hlf.1.1 hlf.1.2⟩⟩;rw [xtP_one];simp [gvB]
   ·have:q=0:=by simpa using hq
    subst this;refine ⟨j,j1,rfl,ext_okE.2 ⟨?_,by simp,?_⟩⟩
    ·rw [xtP_one]; simp [gvB]
    ·show g.edges.getD j default=⟨(s.link 0).ty,[(i:Int)].getD (s.link 0).fr.toNat 0,[(i:Int)].getD (s.link 0).to.toNat 0⟩
     obtain ⟨l1,l2,l3⟩:=link_nr s 0 [(i:Int)];refine sd_ext (s:=s) ?_ ?_ ?_
     ·rw [j2]; exact l3.symm
     ·rw [j3,l1]; rfl
     ·rw [hf,l2,e]; rfl
  ·have hm:g.nodes.getD f.toNat 0∈endsR t s (g.nodes.getD i 0):=(ends_mem hg.ty).2 (.inr ⟨hfl.1,hfl.2,f4⟩)
   have hne:g.nodes.getD f.toNat 0 ≠ -1:=by omega
   have hX:lstX s (g.nodes.getD i 0) (g.nodes.getD f.toNat 0)=⟨⟨[0],[]⟩,⟨[g.nodes.getD i 0,g.nodes.getD f.toNat 0],[s.link 1]⟩⟩:=by unfold lstX; rw [if_neg hne]
   refine ⟨_,hm,(hx _ hm).2 ⟨⟨[(i:Int),f],[(j:Int)]⟩,?_⟩⟩;rw [xtP_one,if_neg hne,hX];refine ⟨rfl,rfl,fun q hq=>?_,fun q hq=>?_⟩
   ·have hq:q<2:=by simpa using hq
    rcases (by omega:q=0∨q=1) with rfl|rfl
    ·exact ⟨i,hi,rfl,ext_okN.2 ⟨by simp [gvB],by simp,self_is hg.ty hlf.1.1 hlf.1.2⟩⟩
    ·refine ⟨f.toNat,hflt,by simp; omega,ext_okN.2 ⟨by simp [gvB],?_,self_is hg.ty hfl.1.1 hfl.1.2⟩⟩;simp; omega
   ·have:q=0:=by simpa using hq
    subst this;refine ⟨j,j1,rfl,ext_okE.2 ⟨by simp [gvB],by simp,?_⟩⟩;show g.edges.getD j default=⟨(s.link 1).ty,[(i:Int),f].getD (s.link 1).fr.toNat 0,[(i:Int),f].getD (s.link 1).to.toNat 0⟩
    obtain ⟨l1,l2,l3⟩:=link_nr s 1 [(i:Int),f];refine sd_ext (s:=s) ?_ ?_ ?_
    ·rw [j2]; exact l3.symm
    ·rw [j3,l1]; rfl
    ·rw [hf,l2]; rfl
set_option maxRecDepth 100000 in
theorem nm_one:∀ i,i<10→nameB (⟨#[109]⟩++⟨[UInt8.ofNat (48+i)].toArray⟩)=true:=by decide
set_option maxRecDepth 100000 in
theorem nm_two:∀ a,a<10→∀ b,b<10→nameB (⟨#[109]⟩++⟨[UInt8.ofNat (48+a),UInt8.ofNat (48+b)].toArray⟩)=true:=by decide
theorem nm_ok {i:Nat} (h:i<100):nameB (⟨#[109]⟩++dgB i)=true∧((⟨#[109]⟩:ByteArray)++dgB i).size≤1000:=by
 refine ⟨?_,?_⟩
 ·unfold dgB;by_cases h1:i<10
  ·rw [Lib.decDigits_one h1]; exact nm_one i h1
  ·rw [Lib.decDigits_two h1 h]; exact nm_two _ (by omega) _ (by omega)
 ·have:=dgB_size h
  rw [ByteArray.size_append];have e:(⟨#[109]⟩:ByteArray).size=1:=rfl
  omega
structure CoOk (t:Ty) (g:Gr) (c:Co):Prop where
 e:cnE t c=0
 s:(allS t c.g g true).2=0
 i:∀ m,m∈(allS t c.g g true).1↔Img t c.g g true m
 fit:c.Fit
 xt:∀ m∈(allS t c.g g true).1,∀ x∈c.exts,XtOk m x
def cVio (t:Ty) (g:Gr) (c:Co):List Mo × Int:=vioS t c g fun m=>c.exts.any (xtH t g m)
theorem CoOk.vio {t:Ty} {g:Gr} {c:Co} (h:CoOk t g c):(cVio t g c).2=0∧((cVio t g c).1≠[]↔∃ m,Img t c.g g true m∧(c.kind=1∨c.exts.any (xtH t g m)=false)):=by
 unfold cVio vioS;rw [if_neg (by simp [h.e]),if_neg (by simp [h.s])];refine ⟨rfl,?_⟩;rw [Ne,List.filter_eq_nil_iff];simp only [Classical.not_forall,Decidable.not_not];constructor
 ·rintro ⟨m,hm,hv⟩;refine ⟨m,(h.i m).1 hm,?_⟩;unfold vioB at hv;split at hv
  ·exact .inl (by assumption)
  ·exact .inr (by simpa using hv)
 ·rintro ⟨m,hm,hv⟩;refine ⟨m,(h.i m).2 hm,?_⟩;unfold vioB;split
  ·rfl
  ·rename_i hk;rcases hv with hv|hv
   ·exact absurd hv hk
   ·show (!(c.exts.any (xtH t g m)))=true
    rw [hv]; rfl
theorem co_ok {t:Ty} {g:Gr} {c:Co} (hn:nameB c.name=true∧c.name.size≤1000) (hk:kdE c=0) (hg:Lg t c.g) (hx:∀ x∈c.exts,xtE c.g x=0∧Lg t x.g) (hl:c.exts.length≤1000)
  (hi:(allS t c.g g true).2=0∧∀ m,m∈(allS t c.g g true).1↔Img t c.g g true m) (hm:∀ x∈c.exts,x.m.Fit∧∀ m,Img t c.g g true m→XtOk m x):CoOk t g c:=by
 refine ⟨?_,hi.1,hi.2,⟨by omega,hg.gfit,by omega,fun x h=>⟨(hm x h).1,(hx x h).2.gfit⟩⟩,fun m h x hxm=>(hm x hxm).2 m ((hi.2 m).1 h)⟩;have h1:shpE c=0:=by
  unfold shpE;rw [if_neg (by simp [hn.1]),if_neg (by simp [hk]),if_neg (by simp [hg.valid]),if_neg (by simp [hg.small])];have:∀ n,n≤c.exts.length→firstE (xtAt c) n=0:=by
   intro n;induction n with
   | zero=>intro _; rfl
   | succ n ih =>
    intro h;have hlt:n<c.exts.length:=by omega
    rw [firstE,if_pos (ih (by omega))];unfold xtAt;rw [List.getElem?_eq_getElem hlt];exact (hx _ (List.getElem_mem hlt)).1
  exact this _ (Nat.le_refl _)
 have h2:lvX t c=true:=by
  unfold lvX;rw [if_pos hg.leaves];unfold allP;rw [List.all_eq_true];exact fun x h=>(hx x h).2.leaves
 unfold cnE;rw [if_neg (by simp [hg.ty]),if_neg (by simp [h1]),if_pos h2]
theorem valid_one {t:Ty} {s:Sd} {node x:Int} (h1:Lg t ⟨[node],[]⟩) (h2:Lg t (lstX s node x).g):xtE ⟨[node],[]⟩ (lstX s node x)=0:=by
 have hv:validM ⟨[node],[]⟩ (lstX s node x).g (lstX s node x).m=0:=by
  unfold validM;rw [if_neg (by simp [h1.valid]),if_neg (by simp [h2.valid])];unfold lstX;split <;> simp [firstE,nodeE]
 unfold xtE;rw [if_neg (by simp [hv]),if_neg (by simp [h2.small]),if_pos];unfold injM;rw [hv];unfold lstX;split <;> rfl
theorem gre_cov {s:Sd} {node:Int} {cls c:List Int} (hpos:0<cls.length) (hsur:∀ q:Nat,q<c.length→∃ j,j<cls.length∧cls.getD j 0=(q:Int)):∀ i,i<(greG s node cls c).nodes.length→∃ j,j<(greG s node cls c).edges.length∧(((greG s node cls c).edges.getD j default).fr=(i:Int)∨((greG s node cls c).edges.getD j default).to=(i:Int)):=by
 have hed:∀ j,j<cls.length→(greG s node cls c).edges.getD j default=s.link ((gAtL c).getD (cls.getD j 0).toNat 0):=fun j hj=>by
  show (cls.map fun k=>s.link ((gAtL c).getD k.toNat 0)).getD j default=_
  simp [hj]
 have hel:(greG s node cls c).edges.length=cls.length:=List.length_map _
 have hends:∀ y:Int,((s.link y).fr=0∨(s.link y).to=0)∧((s.link y).fr=y∨(s.link y).to=y):=fun y=>by
  unfold Sd.link;cases s.o <;> simp
 intro i hi;cases i with
 | zero=>exact ⟨0,by omega,by rw [hed 0 hpos]; exact (hends _).1⟩
 | succ i =>
  have hi:i<(c.filter (· != -1)).length:=by
   have:i+1<(node::c.filter (· != -1)).length:=hi
   simpa using this
  -- the place of the i-th one
  have:∃ q,q<c.length∧c.getD q 0 ≠ -1∧cntO (c.take q)=i:=by
   have gen:∀ (l:List Int) (i:Nat),i<(l.filter (· != -1)).length→∃ q,q<l.length∧l.getD q 0 ≠ -1∧cntO (l.take q)=i:=by
    intro l;induction l with
    | nil=>intro i h; simp at h
    | cons y l ih =>
     intro i h;by_cases hy:y = -1
     ·have h':i<(l.filter (· != -1)).length:=by rw [List.filter_cons_of_neg (by simp [hy])] at h; exact h
      obtain ⟨q,q1,q2,q3⟩:=ih i h';refine ⟨q+1,by simp; omega,by rw [List.getD_cons_succ]; exact q2,?_⟩;unfold cntO at q3 ⊢;rw [List.take_succ_cons,List.filter_cons_of_neg (by simp [hy])];exact q3
     ·rw [List.filter_cons_of_pos (by simpa using hy)] at h;cases i with
      | zero=>exact ⟨0,by simp,by simpa using hy,rfl⟩
      | succ i =>
       obtain ⟨q,q1,q2,q3⟩:=ih i (by simpa using h);refine ⟨q+1,by simp; omega,by rw [List.getD_cons_succ]; exact q2,?_⟩;unfold cntO at q3 ⊢;rw [List.take_succ_cons,List.filter_cons_of_pos (by simpa using hy),List.length_cons,q3]
   exact gen c i hi
  obtain ⟨q,q1,q2,q3⟩:=this;obtain ⟨j,j1,j2⟩:=hsur q q1;refine ⟨j,by omega,?_⟩;rw [hed j j1,j2,Int.toNat_natCast,gAt_at q1,if_neg q2,q3];have:=(hends ((1:Int)+(i:Nat))).2
  rw [show (((i+1:Nat):Int))=1+(i:Nat) by omega];exact this
theorem numN_sur (l:List Int):∀ i,i≤l.length→∀ q:Nat,(q:Int)<(numN l i).2→∃ j,j<i∧(numN l i).1.getD j 0=(q:Int)
 | 0,_,q,h=>by simp [numN] at h; omega
 | i+1,hi,q,h=>by
  have ih:=numN_sur l i (by omega) q;obtain ⟨n1,n2,n3⟩:=numN_len l i;simp only [numN] at h ⊢;split at h
  ·rename_i e;rw [if_pos e];simp only at h ⊢;by_cases hq:(q:Int)<(numN l i).2
   ·obtain ⟨j,j1,j2⟩:=ih hq;exact ⟨j,by omega,by rw [getD_app_left (by omega)]; exact j2⟩
   ·refine ⟨i,by omega,?_⟩;rw [getD_end2 n1];omega
  ·rename_i e;rw [if_neg e];simp only at h ⊢;obtain ⟨j,j1,j2⟩:=ih h;exact ⟨j,by omega,by rw [getD_app_left (by omega)]; exact j2⟩
theorem mulOk_iff {t:Ty} {s:Sd} {node:Nat}:mulOk t s node=true↔leafB t (node:Int)=true∧tIs t (node:Int) s.near=true:=by
 unfold mulOk;split
 ·rename_i h; simp [h]
 ·rename_i h; simp [h]
theorem bds_ok {t:Ty} (hb:bdR t=0) {s:Sd} (hs:s∈sdsR t):s.low≤1∧s.high≤2:=by
 unfold bdR at hb;split at hb
 ·rename_i h; exact absurd hb h
 split at hb
 ·cases hb
 split at hb
 ·cases hb
 rename_i h;have h:(sdsR t).all bdS=true:=by simpa using h
 have:=List.all_eq_true.1 h s hs
 unfold bdS at this;split at this
 ·cases this
 ·exact ⟨by omega,of_decide_eq_true this⟩
theorem mul_co {t:Ty} (ht:t.Fit) {g:Gr} (hg:Lg t g) (hb:bdR t=0) {s:Sd} (hsm:s∈sdsR t) {node:Nat} {c:Co} (h:MulM t s node c) {j:Nat} (hj:j<100) :
  CoOk t g (nmC c j)∧((cVio t g (nmC c j)).1≠[]→∃ i,i<g.nodes.length∧g.nodes.getD i 0=(node:Int)∧xsW s.low s.high (xsCnt g s.k s.o i)=true):=by
 have hs:=sds_ok hsm;obtain ⟨hl,hn⟩:=mulOk_iff.1 h.ok;obtain ⟨b1,b2⟩:=bds_ok hb hsm;have h0:=hg.ty;have hn1:=((tIs_iff h0).1 hn).1;have hnm:=nm_ok hj;have hone:=one_lg h0 hl hn1;rcases h.w with ⟨w1,w2,rfl⟩|⟨w1,w2⟩
 ·-- the lower bound
  have hI:=allS_one ht hone hg;have hok:CoOk t g (nmC (lstC s node (endsR t s node)) j):=by
   refine co_ok hnm ?_ hone (fun x hx=>?_) ?_ hI fun x hx=>?_
   ·unfold kdE;show (if (if endsR t s node=[] then (1:Int) else 2)=1 then (if (endsR t s node).map (lstX s node)=[] then (0:Int) else 1) else if (if endsR t s node=[] then (1:Int) else 2)=2 then (if (endsR t s node).map (lstX s node)=[] then 7 else if 6<((endsR t s node).map (lstX s node)).length then 3 else 0) else 1)=0
    by_cases e:endsR t s node=[]
    ·simp [e]
    ·rw [if_neg e,if_neg (by decide),if_pos rfl,if_neg (by simpa using e),if_neg (by rw [List.length_map]; omega)]
   ·obtain ⟨y,hy,rfl⟩:=List.mem_map.1 (show x∈(endsR t s node).map (lstX s node) from hx);have:=lstX_lg h0 hs hl hn hy
    exact ⟨valid_one hone this,this⟩
   ·show ((endsR t s node).map (lstX s node)).length≤1000
    rw [List.length_map]; omega
   ·obtain ⟨y,hy,rfl⟩:=List.mem_map.1 (show x∈(endsR t s node).map (lstX s node) from hx);have hlg:=lstX_lg h0 hs hl hn hy;have hmf:(lstX s node y).m.Fit:=by unfold lstX; split <;> exact ⟨by simp,by simp⟩
    refine ⟨hmf,fun m hm=>⟨⟨hmf,hlg.gfit⟩,?_,?_,?_,?_⟩⟩
    ·have h1:m.nodes.length=1:=hm.n
     have h2:(lstX s node y).m.nodes.length=1:=by unfold lstX; split <;> rfl
     omega
    ·have h2:(lstX s node y).m.edges.length=0:=by unfold lstX; split <;> rfl
     omega
    ·intro k hk;have h2:(lstX s node y).m.nodes=[0]:=by unfold lstX; split <;> rfl
     rw [h2] at hk;rw [List.mem_singleton.1 hk];have h3:0<(lstX s node y).g.nodes.length:=by unfold lstX; split <;> simp
     omega
    ·intro k hk;have h2:(lstX s node y).m.edges=[]:=by unfold lstX; split <;> rfl
     rw [h2] at hk;simp at hk
  refine ⟨hok,fun hv=>?_⟩;obtain ⟨m,hm,hv⟩:=hok.vio.2.1 hv;obtain ⟨i,hi,hgi,rfl⟩:=one_img hg hl hm;have hnI:tIs t (g.nodes.getD i 0) s.near=true:=by rw [hgi]; exact hn
  have hE:=ext_iff ht hg hs hi hnI;rw [hgi] at hE;refine ⟨i,hi,hgi,?_⟩;have hz:xsCnt g s.k s.o i=0:=by
   rcases hv with hv|hv
   ·have hv:(if endsR t s node=[] then (1:Int) else 2)=1:=hv
    by_cases e:endsR t s node=[]
    ·rw [e] at hE;have:¬ 0<xsCnt g s.k s.o i:=fun h=>by have:=hE.2 h; simp at this
     omega
    ·rw [if_neg e] at hv; cases hv
   ·have hv:((endsR t s node).map (lstX s node)).any (xtH t g ⟨[(i:Int)],[]⟩)=false:=hv
    have:¬ 0<xsCnt g s.k s.o i:=fun h=>by rw [hE.2 h] at hv; cases hv
    omega
  unfold xsW;rw [hz,w1];rfl
 ·-- the upper bound
  obtain ⟨p,hp,ch,hch,rfl⟩:=greL_mem w2;obtain ⟨glg,gcl⟩:=gre_ok h0 hs hl hn b2 hp hch;have hpl:=partsN_len _ _ hp;have hcl:=choR_mem hch;obtain ⟨n1,n2,n3⟩:=numN_len p (s.high.toNat+1);have hI:=allS_cov ht glg hg (by show ((numN p (s.high.toNat+1)).1.map _).length≤3; rw [List.length_map]; omega) (gre_cov (by omega) fun q hq=>by
   obtain ⟨j,j1,j2⟩:=numN_sur p (s.high.toNat+1) (by omega) q (by omega);exact ⟨j,by omega,j2⟩)
  have hok:CoOk t g (nmC (greC s node (numN p (s.high.toNat+1)).1 ch) j):=by
   refine co_ok hnm ?_ glg (fun x hx=>?_) ?_ hI fun x hx=>?_
   ·rfl
   ·exact absurd (show x∈([]:List Xt) from hx) (by simp)
   ·show ([]:List Xt).length≤1000
    simp
   ·exact absurd (show x∈([]:List Xt) from hx) (by simp)
  refine ⟨hok,fun hv=>?_⟩;obtain ⟨m,hm,_⟩:=hok.vio.2.1 hv;obtain ⟨i,i1,i2,i3⟩:=gre_many hg hl hm;refine ⟨i,i1,i2,?_⟩;unfold xsW;have h3:s.high<(xsCnt g s.k s.o i:Int):=by omega
  rw [decide_eq_true w1,decide_eq_true h3];simp
theorem nmL_mem {l:List Co} {c:Co}:c∈nmL l l.length↔∃ j,∃ h:j<l.length,c=nmC l[j] j:=by
 unfold nmL;rw [List.mem_map];constructor
 ·rintro ⟨j,hj,rfl⟩;have hj:=List.mem_range.1 hj;exact ⟨j,hj,by simp [hj]⟩
 ·rintro ⟨j,hj,rfl⟩;exact ⟨j,List.mem_range.2 hj,by simp [hj]⟩
theorem mulT_low {t:Ty} {s:Sd}:∀ (n i:Nat) (out l:List Co),mulT t s i n out=some l→∀ node,i≤node→node<i+n→mulOk t s node=true→s.low=1→(endsR t s node).length≤6
 | 0,i,out,l,_,node,h1,h2,_,_=>by omega
 | n+1,i,out,l,h,node,h1,h2,h3,h4=>by
  unfold mulT at h;cases hl:mulN t s i out with
  | none=>rw [hl] at h; cases h
  | some o =>
   rw [hl] at h;rcases Nat.eq_or_lt_of_le h1 with e|e
   ·subst e;unfold mulN at hl;rw [if_pos h3] at hl;unfold mulLo at hl;rw [if_pos h4] at hl;by_cases e:6<(endsR t s i).length
    ·rw [if_pos e] at hl; cases hl
    ·omega
   ·exact mulT_low n (i+1) o l h node (by omega) (by omega) h3 h4
theorem mulS_low0 {t:Ty}:∀ (S:List Sd) (out l:List Co),mulS t S out=some l→∀ s∈S,∀ node,node<t.nodes.length→mulOk t s node=true→s.low=1→(endsR t s node).length≤6
 | [],_,_,_,s,hs,_,_,_,_=>by simp at hs
 | s::S,out,l,h,s2,hs,node,h1,h2,h3=>by
  unfold mulS at h;cases hl:mulT t s 0 t.nodes.length out with
  | none=>rw [hl] at h; cases h
  | some o =>
   rw [hl] at h;rcases List.mem_cons.1 hs with rfl|hs
   ·exact mulT_low _ _ _ _ hl node (Nat.zero_le _) (by omega) h2 h3
   ·exact mulS_low0 S o l h s2 hs node h1 h2 h3
theorem mulS_low {t:Ty} {l:List Co} (hl:mulR0 t=some l) {s:Sd} (hs:s∈sdsR t) {node:Nat} (h1:node<t.nodes.length) (h2:mulOk t s node=true) (h3:s.low=1):(endsR t s node).length≤6 :=
 mulS_low0 _ _ _ hl s hs node h1 h2 h3
theorem xq_main {t:Ty} (ht:t.Fit) {g:Gr} (hg:Lg t g) (hb:bdR t=0) {l:List Co} (hl:mulR0 t=some l) :
  (∀ c∈nmL l l.length,CoOk t g c)∧((∃ c∈nmL l l.length,(cVio t g c).1≠[])↔xsAll t g t.edges.length≠[]):=by
 obtain ⟨h100,hmem⟩:=mulR0_mem hl;have hok:∀ c∈nmL l l.length,CoOk t g c:=fun c hc=>by
  obtain ⟨j,hj,rfl⟩:=nmL_mem.1 hc;obtain ⟨s,hs,node,hM⟩:=(hmem _).1 (List.getElem_mem hj);exact (mul_co ht hg hb hs hM (by omega)).1
 refine ⟨hok,?_⟩;rw [xs_all];constructor
 ·rintro ⟨c,hc,hv⟩;obtain ⟨j,hj,rfl⟩:=nmL_mem.1 hc;obtain ⟨s,hs,node,hM⟩:=(hmem _).1 (List.getElem_mem hj);obtain ⟨i,i1,i2,i3⟩:=(mul_co ht hg hb hs hM (by omega:j<100)).2 hv;exact ⟨s,hs,i,i1,by rw [i2]; exact (mulOk_iff.1 hM.ok).2,i3⟩
 ·rintro ⟨s,hs,i,hi,hn,hw⟩;have hS:=sds_ok hs;obtain ⟨b1,b2⟩:=bds_ok hb hs;have hlf:=hg.lf _ (getD_memI hi);obtain ⟨node,hnode⟩:∃ node:Nat,g.nodes.getD i 0=(node:Int):=⟨(g.nodes.getD i 0).toNat,by omega⟩
  rw [hnode] at hlf hn;have hmo:mulOk t s node=true:=mulOk_iff.2 ⟨hlf.2,hn⟩
  unfold xsW at hw;rw [Bool.or_eq_true,Bool.and_eq_true] at hw;by_cases hlow:s.low=1∧xsCnt g s.k s.o i=0
  ·-- no edge where there must be one
   have hM:∃ c∈l,c=lstC s node (endsR t s node):=by
    refine ⟨_,(hmem _).2 ⟨s,hs,node,hmo,by omega,.inl ⟨hlow.1,?_,rfl⟩⟩,rfl⟩;exact mulS_low hl hs (by omega) hmo hlow.1
   obtain ⟨c,hc,rfl⟩:=hM;obtain ⟨j,hj,e⟩:=List.getElem_of_mem hc;have hcm:nmC l[j] j∈nmL l l.length:=nmL_mem.2 ⟨j,hj,rfl⟩
   refine ⟨_,hcm,(hok _ hcm).vio.2.2 ⟨⟨[(i:Int)],[]⟩,?_,.inr ?_⟩⟩
   ·rw [e];have:=img_one hg hi
    rw [hnode] at this;exact this
   ·rw [e];show ((endsR t s node).map (lstX s node)).any (xtH t g ⟨[(i:Int)],[]⟩)=false
    rw [←Bool.not_eq_true];have hE:=ext_iff ht hg hS hi (by rw [hnode]; exact hn);rw [hnode] at hE;rw [hE,hlow.2];omega
  ·have hh:0≤s.high∧s.high<(xsCnt g s.k s.o i:Int):=by
    rcases hw with h|⟨h1,h2⟩
    ·have:=of_decide_eq_true h; omega
    ·exact ⟨of_decide_eq_true h1,of_decide_eq_true h2⟩
   obtain ⟨c,c1,c2,c3,m,hm⟩:=gre_some hg hS hh.1 b2 hi (by rw [hnode]; exact hn) hh.2;rw [hnode] at c1;have hc:=(hmem c).2 ⟨s,hs,node,hmo,by omega,.inr ⟨hh.1,c1⟩⟩;obtain ⟨j,hj,e⟩:=List.getElem_of_mem hc;have hcm:nmC l[j] j∈nmL l l.length:=nmL_mem.2 ⟨j,hj,rfl⟩
   refine ⟨_,hcm,(hok _ hcm).vio.2.2 ⟨m,?_,.inl ?_⟩⟩
   ·rw [e]; exact hm
   ·rw [e]; exact c2
def lwNd (t:Ty) (j:Nat):NT:=⟨(t.nd j).name,(t.nd j).par,if leafB t j=true then false else (t.nd j).abs,[]⟩
def lwC (t:Ty) (k:Nat):List NT:=(List.range t.nodes.length).map fun j=>if j<k then lwNd t j else t.nd j
def lwT (t:Ty):Ty:=⟨lwC t t.nodes.length,t.edges⟩
theorem lwC_len (t:Ty) (k:Nat):(lwC t k).length=t.nodes.length:=by simp [lwC]
theorem lwC_zero (t:Ty):lwC t 0=t.nodes:=by
 refine List.ext_getElem (by simp [lwC]) fun i h1 h2=>?_
 simp [lwC,Ty.nd,h2]
theorem lwC_par (t:Ty) (k:Nat):(lwC t k).map NT.par=t.nodes.map NT.par:=by
 refine List.ext_getElem (by simp [lwC]) fun i h1 h2=>?_
 have h:i<t.nodes.length:=by simpa using h2
 simp only [lwC,List.getElem_map,List.getElem_range];split <;> simp [lwNd,Ty.nd,h]
theorem leafB_par {t u:Ty} (h:t.nodes.map NT.par=u.nodes.map NT.par) (c:Int):leafB t c=leafB u c:=by
 have:∀ l:List NT,anyB (fun n=>n.par==c) l=anyB (fun n=>n==c) (l.map NT.par):=fun l=>by unfold anyB; rw [List.any_map]; rfl
 unfold leafB;rw [this,this,h]
theorem lwC_leaf (t:Ty) (k:Nat) (E:List ET) (c:Int):leafB ⟨lwC t k,E⟩ c=leafB t c:=leafB_par (lwC_par t k) c
theorem lwT_nd {t:Ty} {i:Nat} (h:i<t.nodes.length):(lwT t).nd i=lwNd t i:=by
 unfold Ty.nd lwT lwC;simp [h]
theorem bdT_nd {t:Ty} {cs:List Int} {i:Nat} (h:i<t.nodes.length):(bdT t cs).nd i=bdNd t i:=by
 unfold Ty.nd bdT bdNs;simp [h]
theorem bdT_len (t:Ty) (cs:List Int):(bdT t cs).nodes.length=t.nodes.length∧(bdT t cs).edges.length=t.edges.length:=by simp [bdT,bdNs,bdEs]
theorem bdT_par (t:Ty) (cs:List Int):(bdT t cs).nodes.map NT.par=t.nodes.map NT.par:=by
 refine List.ext_getElem (by simp [bdT,bdNs]) fun i h1 h2=>?_
 have h:i<t.nodes.length:=by simpa using h2
 simp [bdT,bdNs,bdNd,Ty.nd,h]
theorem bdT_leaf (t:Ty) (cs:List Int) (c:Int):leafB (bdT t cs) c=leafB t c:=leafB_par (bdT_par t cs) c
theorem mtT_len (ns es:List (Int × Int)):(mtT ns es).nodes.length=mtn ns∧(mtT ns es).edges.length=min es.length 5:=by simp [mtT,mtNs,mtEs]
theorem mtT_nd {ns es:List (Int × Int)} {i:Nat} (h:i<mtn ns):(mtT ns es).nd i=mtN i (ns.getD i (0,0)):=by
 unfold Ty.nd mtT mtNs;simp [h]
def lawT (ns es:List (Int × Int)) (cs:List Int):Ty:=lwT (bdT (mtT ns es) cs)
theorem lawT_len (ns es:List (Int × Int)) (cs:List Int):(lawT ns es cs).nodes.length=mtn ns∧(lawT ns es cs).edges.length=min es.length 5:=by
 have h1:=bdT_len (mtT ns es) cs;have h2:=mtT_len ns es;constructor
 ·show (lwC _ _).length=_; rw [lwC_len]; omega
 ·show (bdT (mtT ns es) cs).edges.length=_; omega
theorem lawT_nd {ns es:List (Int × Int)} {cs:List Int} {i:Nat} (h:i<mtn ns):(lawT ns es cs).nd i=⟨abcS.extract i (i+1),(ns.getD i (0,0)).1 % ((i:Int)+1) - 1,!leafB (mtT ns es) i,[]⟩:=by
 have h1:=bdT_len (mtT ns es) cs;have h2:=mtT_len ns es;unfold lawT;rw [lwT_nd (by omega)];unfold lwNd;rw [bdT_nd (by omega),bdT_leaf];unfold bdNd;rw [mtT_nd h];simp only [mtN];cases leafB (mtT ns es) (i:Int) <;> simp
theorem lawT_leaf (ns es:List (Int × Int)) (cs:List Int) (c:Int):leafB (lawT ns es cs) c=leafB (mtT ns es) c:=by
 unfold lawT lwT;rw [lwC_leaf,bdT_leaf]
theorem abc_ok:∀ i,i<6→nameB (abcS.extract i (i+1))=true∧(abcS.extract i (i+1)).size≤1∧∀ j,j<i→abcS.extract j (j+1)≠abcS.extract i (i+1):=by decide
theorem efg_ok:∀ i,i<5→nameB (efgS.extract i (i+1))=true∧(efgS.extract i (i+1)).size≤1∧∀ j,j<i→efgS.extract j (j+1)≠efgS.extract i (i+1):=by decide
theorem atsL_nil {t:Ty} (h:∀ i,(t.nd i).own=[]):∀ n i,i<n→atsL t i=[]
 | 0,i,hi=>absurd hi (Nat.not_lt_zero _)
 | n+1,i,hi=>by
  rw [atsL];split
  ·rename_i h1;rw [atsL_nil h n _ (by omega),h];rfl
  ·exact h i
theorem lawT_own (ns es:List (Int × Int)) (cs:List Int) (i:Nat):((lawT ns es cs).nd i).own=[]:=by
 by_cases h:i<mtn ns
 ·rw [lawT_nd h]
 ·have:=(lawT_len ns es cs).1
  unfold Ty.nd;rw [List.getD_eq_getElem?_getD,List.getElem?_eq_none (by omega)];rfl
theorem firstE_zeroI {f:Nat→Int}:∀ {n:Nat},(∀ i,i<n→f i=0)→firstE f n=0
 | 0,_=>rfl
 | n+1,h=>by
  rw [firstE,if_pos (firstE_zeroI fun i hi=>h i (by omega)),h n (by omega)]
theorem bd_in {cs:List Int} (h8:∀ x∈cs,0≤x∧x<256) (x:ET) (hx:x.ol=0∧x.oh = -1∧x.il=0∧x.ih = -1) (i:Nat) :
  ((bdE2 (bdE1 cs i x)).ol=0∨(bdE2 (bdE1 cs i x)).ol=1)∧((bdE2 (bdE1 cs i x)).oh = -1∨(bdE2 (bdE1 cs i x)).ol≤(bdE2 (bdE1 cs i x)).oh)∧(-1≤(bdE2 (bdE1 cs i x)).oh∧(bdE2 (bdE1 cs i x)).oh≤2) ∧
  ((bdE2 (bdE1 cs i x)).il=0∨(bdE2 (bdE1 cs i x)).il=1)∧((bdE2 (bdE1 cs i x)).ih = -1∨(bdE2 (bdE1 cs i x)).il≤(bdE2 (bdE1 cs i x)).ih)∧(-1≤(bdE2 (bdE1 cs i x)).ih∧(bdE2 (bdE1 cs i x)).ih≤2) ∧
  (bdE2 (bdE1 cs i x)).name=x.name∧(bdE2 (bdE1 cs i x)).fr=x.fr∧(bdE2 (bdE1 cs i x)).to=x.to:=by
 obtain ⟨x1,x2,x3,x4⟩:=hx;unfold bdE1;by_cases h:i<cs.length
 ·rw [if_pos h];have:=h8 _ (List.getElem_mem h)
  rw [List.getD_eq_getElem?_getD,List.getElem?_eq_getElem h,Option.getD_some];generalize cs[i]=c at *;simp only [bdE2,bdHi,and_true,true_and];refine ⟨by omega,?_,?_,by omega,?_,?_⟩ <;> split <;> omega
 ·rw [if_neg h];simp only [bdE2,bdHi,x1,x2,x3,x4];simp
theorem lawT_ed {ns es:List (Int × Int)} {cs:List Int} {k:Nat} (h:k<min es.length 5):(lawT ns es cs).ed k=bdE2 (bdE1 cs k (mtE (mtn ns) k (es.getD k (0,0)))):=by
 have h2:=(mtT_len ns es).2;show (bdEs (mtT ns es) cs (mtT ns es).edges.length).getD k default=_
 unfold bdEs;have h3:(mtT ns es).edges.getD k default=mtE (mtn ns) k (es.getD k (0,0)):=by
  show (mtEs (mtn ns) es (min es.length 5)).getD k default=_
  unfold mtEs;rw [List.getD_eq_getElem?_getD,List.getElem?_map,List.getElem?_range h];rfl
 rw [List.getD_eq_getElem?_getD,List.getElem?_map,List.getElem?_range (by omega)];simp only [Option.map_some,Option.getD_some,h3]
theorem lawT_tyE {ns es:List (Int × Int)} {cs:List Int} (h1:U82 ns) (h2:U82 es) (h8:∀ x∈cs,0≤x∧x<256):tyE (lawT ns es cs)=0:=by
 obtain ⟨l1,l2⟩:=lawT_len ns es cs;have hmt:1≤mtn ns∧mtn ns≤6:=by unfold mtn; omega
 have hx:∀ i,0≤(ns.getD i (0,0)).1:=fun i=>by
  by_cases h:i<ns.length
  ·rw [List.getD_eq_getElem?_getD,List.getElem?_eq_getElem h,Option.getD_some]; exact (h1 _ (List.getElem_mem h)).1.1
  ·rw [List.getD_eq_getElem?_getD,List.getElem?_eq_none (by omega)]; exact Int.le_refl 0
 have hN:∀ i,i<mtn ns→nodE (lawT ns es cs) i=0:=by
  intro i hi;obtain ⟨a1,a2,a3⟩:=abc_ok i (by omega);have hp1:=Int.emod_nonneg (ns.getD i (0,0)).1 (b:=(i:Int)+1) (by omega);have hp2:=Int.emod_lt_of_pos (ns.getD i (0,0)).1 (b:=(i:Int)+1) (by omega);unfold nodE;rw [atsL_nil (lawT_own ns es cs) (i+1) i (by omega),lawT_nd hi];simp only;rw [if_neg (by simp [a1]),if_neg,if_neg (by omega),if_neg (by simp),if_neg (by simp)]
  ·rfl
  ·simp only [anyB,List.any_eq_true,not_exists,not_and];intro y hy;obtain ⟨j,hj,e⟩:=List.mem_take_iff_getElem.1 hy;have hj2:j<mtn ns:=by omega
   have:(lawT ns es cs).nd j=y:=by rw [←e]; unfold Ty.nd; simp [show j<(lawT ns es cs).nodes.length by omega]
   rw [lawT_nd hj2] at this;rw [←this];simpa using a3 j (by omega)
 have hE:∀ i,i<min es.length 5→edgE (lawT ns es cs) i=0:=by
  intro i hi;obtain ⟨a1,a2,a3⟩:=efg_ok i (by omega);have hb:=bd_in h8 (mtE (mtn ns) i (es.getD i (0,0))) ⟨rfl,rfl,rfl,rfl⟩ i;have hil:i<es.length:=by omega
  have hm:=h2 _ (List.getElem_mem hil);have hg:es.getD i (0,0)=es[i]:=by simp [hil]
  have e5:=Int.emod_nonneg es[i].1 (b:=(mtn ns:Int)) (by omega);have e6:=Int.emod_lt_of_pos es[i].1 (b:=(mtn ns:Int)) (by omega);have e7:=Int.emod_nonneg es[i].2 (b:=(mtn ns:Int)) (by omega);have e8:=Int.emod_lt_of_pos es[i].2 (b:=(mtn ns:Int)) (by omega);unfold edgE;rw [lawT_ed hi];obtain ⟨b1,b2,b3,b4,b5,b6,b7,b8,b9⟩:=hb;rw [hg] at b1 b2 b3 b4 b5 b6 b7 b8 b9 ⊢;generalize bdE2 (bdE1 cs i (mtE (mtn ns) i es[i]))=y at *;have b7:y.name=efgS.extract i (i+1):=b7
  have b8:y.fr=es[i].1 % (mtn ns:Int):=b8
  have b9:y.to=es[i].2 % (mtn ns:Int):=b9
  rw [if_neg (by simp [b7,a1]),if_neg]
  ·unfold edR;have i1:insB (lawT ns es cs) y.fr=true:=by simp [insB]; omega
   have i2:insB (lawT ns es cs) y.to=true:=by simp [insB]; omega
   have i3:bndB y.ol y.oh=true:=by simp [bndB]; omega
   have i4:bndB y.il y.ih=true:=by simp [bndB]; omega
   simp [i1,i2,i3,i4]
  ·simp only [anyE,anyB,List.any_eq_true,not_exists,not_and];intro z hz;obtain ⟨j,hj,e⟩:=List.mem_take_iff_getElem.1 hz;have hj2:j<min es.length 5:=by omega
   have:(lawT ns es cs).ed j=z:=by rw [←e]; unfold Ty.ed; simp [show j<(lawT ns es cs).edges.length by omega]
   rw [lawT_ed hj2] at this;rw [←this,b7];have:=(bd_in h8 (mtE (mtn ns) j (es.getD j (0,0))) ⟨rfl,rfl,rfl,rfl⟩ j).2.2.2.2.2.2.1
   rw [this];simpa [mtE] using a3 j (by omega)
 unfold tyE;rw [if_neg (by omega),if_neg (by omega),if_neg (by omega),l1,l2,firstE_zeroI hN,firstE_zeroI hE];rfl
theorem lawT_fit {ns es:List (Int × Int)} {cs:List Int} (h8:∀ x∈cs,0≤x∧x<256):(lawT ns es cs).Fit:=by
 obtain ⟨l1,l2⟩:=lawT_len ns es cs;have hmt:1≤mtn ns∧mtn ns≤6:=by unfold mtn; omega
 refine ⟨by omega,by omega,fun x hx=>?_,fun x hx=>?_,fun x hx=>?_⟩
 ·obtain ⟨i,hi,e⟩:=List.getElem_of_mem hx;have:(lawT ns es cs).nd i=x:=by rw [←e]; unfold Ty.nd; simp [hi]
  rw [lawT_nd (by omega)] at this;rw [←this];have:=(abc_ok i (by omega)).2.1
  show (abcS.extract i (i+1)).size≤_
  omega
 ·obtain ⟨i,hi,e⟩:=List.getElem_of_mem hx;have:(lawT ns es cs).ed i=x:=by rw [←e]; unfold Ty.ed; simp [hi]
  rw [lawT_ed (by omega)] at this;rw [←this,(bd_in h8 (mtE (mtn ns) i (es.getD i (0,0))) ⟨rfl,rfl,rfl,rfl⟩ i).2.2.2.2.2.2.1];have:=(efg_ok i (by omega)).2.1
  show (efgS.extract i (i+1)).size≤_
  omega
 ·obtain ⟨i,hi,e⟩:=List.getElem_of_mem hx;have:(lawT ns es cs).nd i=x:=by rw [←e]; unfold Ty.nd; simp [hi]
  have:=lawT_own ns es cs i
  rename_i h;rw [h] at this;rw [this];simp
theorem lawT_bd {ns es:List (Int × Int)} {cs:List Int} (h1:U82 ns) (h2:U82 es) (h8:∀ x∈cs,0≤x∧x<256):bdR (lawT ns es cs)=0:=by
 obtain ⟨l1,l2⟩:=lawT_len ns es cs;unfold bdR;rw [if_neg (by simp [lawT_tyE h1 h2 h8]),if_neg,if_neg]
 ·rw [Bool.not_eq_false,List.all_eq_true];intro s hs;obtain ⟨k,hk,e⟩:=sds_mem.1 hs;have hed:(lawT ns es cs).edges[k]=(lawT ns es cs).ed k:=by unfold Ty.ed; simp [hk]
  have hb:=bd_in h8 (mtE (mtn ns) k (es.getD k (0,0))) ⟨rfl,rfl,rfl,rfl⟩ k;rw [hed,lawT_ed (by omega)] at e;generalize bdE2 (bdE1 cs k (mtE (mtn ns) k (es.getD k (0,0))))=y at *;unfold bdS;rcases e with rfl|rfl
  ·simp only;rw [if_neg (by omega)];exact decide_eq_true (by omega)
  ·simp only;rw [if_neg (by omega)];exact decide_eq_true (by omega)
 ·rw [Bool.not_eq_false,List.all_eq_true];intro i hi;have hi:=List.mem_range.1 hi;unfold bdN;rw [lawT_nd (by omega),lawT_leaf];cases leafB (mtT ns es) (i:Int) <;> simp
theorem lfs_mem {t:Ty} {x:Int}:x∈lfs t↔(0≤x∧x<t.nodes.length)∧leafB t x=true:=by
 unfold lfs lfN;rw [List.mem_map];constructor
 ·rintro ⟨n,hn,rfl⟩;obtain ⟨a,b⟩:=List.mem_filter.1 hn;have a:=List.mem_range.1 a;exact ⟨by omega,b⟩
 ·rintro ⟨a,b⟩;have hx:((x.toNat:Nat):Int)=x:=by omega
  exact ⟨x.toNat,List.mem_filter.2 ⟨List.mem_range.2 (by omega),by rw [hx]; exact b⟩,hx⟩
theorem lfs_pos {t:Ty} (h0:tyE t=0):0<(lfs t).length:=by
 have hl:=tyE_len h0;refine List.length_pos_of_mem (a:=((t.nodes.length - 1:Nat):Int)) (lfs_mem.2 ⟨by omega,?_⟩);unfold leafB anyB;rw [Bool.not_eq_true',←Bool.not_eq_true,List.any_eq_true];rintro ⟨x,hx,e⟩;obtain ⟨i,hi,rfl⟩:=List.getElem_of_mem hx;have:=tyE_par h0 i hi
 have e:t.nodes[i].par=((t.nodes.length - 1:Nat):Int):=by simpa using e
 have h2:(t.nd i).par=t.nodes[i].par:=by unfold Ty.nd; simp [hi]
 omega
theorem lgR_lg {t:Ty} (h0:tyE t=0) {ns:List Int} {es:List (Int × Int × Int)} (h3:U83 es):Lg t (lgR t ns es 6):=by
 have hp:=lfs_pos h0;obtain ⟨N,hN⟩:∃ N,lgN (lfs t) ns 6=N:=⟨_,rfl⟩
 have hG:lgR t ns es 6=⟨N,lgE t N es (lgJ t N es)⟩:=by unfold lgR; rw [hN]
 rw [hG];have hJ:lgJ t N es≤8:=by unfold lgJ; split <;> omega
 refine ⟨h0,?_,?_,fun x hx=>?_,fun e he=>?_⟩
 ·rw [←hN];show (lgN (lfs t) ns 6).length≤6
  unfold lgN; rw [List.length_map,List.length_take]; omega
 ·show (lgE t N es (lgJ t N es)).length≤8
  unfold lgE;refine Nat.le_trans (List.length_filter_le _ _) ?_;rw [List.length_map,List.length_take]; omega
 ·have hx:x∈N:=hx
  rw [←hN] at hx;unfold lgN at hx;obtain ⟨y,hy,rfl⟩:=List.mem_map.1 hx;exact lfs_mem.1 (getD_memI (Nat.mod_lt _ hp))
 ·have he:e∈lgE t N es (lgJ t N es):=he
  unfold lgE at he;obtain ⟨a,b⟩:=List.mem_filter.1 he;obtain ⟨y,hy,rfl⟩:=List.mem_map.1 a;have hpos:0<N.length:=by
   unfold lgJ at hy;split at hy
   ·rename_i h; exact h.1
   ·simp at hy
  have e5:=Int.emod_nonneg y.2.1 (b:=(N.length:Int)) (by omega);have e6:=Int.emod_lt_of_pos y.2.1 (b:=(N.length:Int)) (by omega);have e7:=Int.emod_nonneg y.2.2 (b:=(N.length:Int)) (by omega);have e8:=Int.emod_lt_of_pos y.2.2 (b:=(N.length:Int)) (by omega);exact ⟨⟨e5,e6⟩,⟨e7,e8⟩,b⟩
theorem host_ok {t:Ty} {g:Gr} (hg:Lg t g) (hown:∀ i,(t.nd i).own=[]) (habs:∀ i,i<t.nodes.length→leafB t i=true→(t.nd i).abs=false):(hostR t (atsK t) ⟨g,List.replicate g.nodes.length []⟩).2=0:=by
 unfold hostR;have h1:∀ i,i<g.nodes.length→hndE t (atsK t) ⟨g,List.replicate g.nodes.length []⟩ i=0:=by
  intro i hi;have hl:=hg.lf _ (getD_memI hi);unfold hndE hnodE;simp only;have ha:atsK t (g.nodes.getD i 0)=[]:=by
   unfold atsK;split
   ·exact atsL_nil hown _ _ (Nat.lt_succ_self _)
   ·rfl
  have hv:(List.replicate g.nodes.length ([]:List Int)).getD i []=[]:=by simp [hi]
  rw [ha,hv,if_neg (by omega),if_neg,if_neg (by simp)]
  ·rfl
  ·have:=habs (g.nodes.getD i 0).toNat (by omega) (by rw [Int.toNat_of_nonneg hl.1.1]; exact hl.2)
   rw [this]; simp
 have h2:∀ i,i<g.edges.length→hedE t ⟨g,List.replicate g.nodes.length []⟩ i=0:=by
  intro i hi;have he:g.edges.getD i default∈g.edges:=by
   rw [List.getD_eq_getElem?_getD,List.getElem?_eq_getElem hi,Option.getD_some];exact List.getElem_mem hi
  have hf:=(hg.fr _ he).2.2;have:=((fit_iff hg.ty).1 hf).2.2.1
  unfold hedE;simp only;rw [if_neg (by omega),if_pos hf]
 rw [if_neg (by simp [hg.ty]),if_neg (by simp [hg.valid]),if_neg (by simp),if_neg (by simp [firstE_zeroI h1]),if_neg (by simp [firstE_zeroI h2])]
theorem lawT_abs {ns es:List (Int × Int)} {cs:List Int} {i:Nat} (h:i<(lawT ns es cs).nodes.length) (hl:leafB (lawT ns es cs) i=true):((lawT ns es cs).nd i).abs=false:=by
 rw [(lawT_len ns es cs).1] at h;rw [lawT_leaf] at hl;rw [lawT_nd h,hl];rfl
def oneC:Co:=⟨⟨#[111,110,101]⟩,1,⟨[3,3,1],[⟨0,0,2⟩,⟨0,1,2⟩]⟩,[]⟩
def oneG:Gr:=⟨[3,1,1],[⟨0,0,1⟩,⟨0,0,2⟩]⟩
def oneH:Gr:=⟨[3,1,1,3],[⟨0,0,1⟩,⟨0,0,2⟩,⟨0,3,1⟩]⟩
theorem aw42a:(vioS exT oneC oneG fun _=>true).2=0∧(vioS exT oneC oneG fun _=>true).1.length=0:=by decide +kernel
theorem aw42b:(vioS exT oneC oneH fun _=>true).2=0∧(vioS exT oneC oneH fun _=>true).1.length=2:=by decide +kernel
theorem aw42c:(mulR exT).2=0∧(mulR exT).1.length=6:=by decide +kernel
theorem aw42d:cnE exT oneC=0:=by decide +kernel
theorem oneC_fit:oneC.Fit:=⟨by decide,⟨by decide,by decide⟩,by decide,by simp [oneC]⟩
set_option maxRecDepth 100000 in
theorem awake42_c (tok:Tks) (nt:Nat):DCall Tryz.prog 12 [] tok nt (B true) tok nt:=by
 intro box nb;have hE:=example04_c;have h1:=violationsK_c exT exT_fit oneC oneC_fit oneG ⟨by decide,by decide⟩ (fun _=>true) (fun h=>absurd rfl h);have h2:=violationsK_c exT exT_fit oneC oneC_fit oneH ⟨by decide,by decide⟩ (fun _=>true) (fun h=>absurd rfl h);have h3:=multP_c exT exT_fit;have h4:=validK_c exT exT_fit oneC oneC_fit;obtain ⟨a1,a2⟩:=aw42a;obtain ⟨b1,b2⟩:=aw42b;obtain ⟨c1,c2⟩:=aw42c;rw [aw42d] at h4;generalize vioS exT oneC oneG (fun _=>true)=L at *;generalize vioS exT oneC oneH (fun _=>true)=M at *;generalize mulR exT=U at *;refine sI Tryz.func12 Tryz.ntmps12 fun hbox htok=>?_
 repeat (first|simp|refine sR ?_)
 refine Stop.of_d (hE _ _) ?_;simp;try (simp)
 repeat (first|(refine sR ?_; simp)|(refine sC ?_; simp)|(refine sX ?_; simp only [AU, ↓reduceIte]))
 try refine ⟨rfl,?_⟩
 try (simp)
 repeat (first|(refine sR ?_; simp)|(refine sC ?_; simp)|(refine sX ?_; simp only [AU, ↓reduceIte]))
 try refine ⟨rfl,?_⟩
 try (simp)
 repeat (first|(refine sR ?_; simp)|(refine sC ?_; simp)|(refine sX ?_; simp only [AU, ↓reduceIte]))
 try refine ⟨rfl,?_⟩
 try (simp)
 repeat (first|(refine sR ?_; simp)|(refine sC ?_; simp)|(refine sX ?_; simp only [AU, ↓reduceIte]))
 try refine ⟨rfl,?_⟩
 try (simp)
 repeat (first|(refine sR ?_; simp)|(refine sC ?_; simp)|(refine sX ?_; simp only [AU, ↓reduceIte]))
 try refine ⟨rfl,?_⟩
 try (simp)
 repeat (first|(refine sR ?_; simp)|(refine sC ?_; simp)|(refine sX ?_; simp only [AU, ↓reduceIte]))
 try refine ⟨rfl,?_⟩
 try (simp)
 repeat (first|(refine sR ?_; simp)|(refine sC ?_; simp)|(refine sX ?_; simp only [AU, ↓reduceIte]))
 refine Stop.sub (args':=[exT.av,oneC.av,oneG.av]) ⟨Sub.refl _,Sub.agg ⟨Sub.refl _,Sub.refl _,Sub.data _ _ _,Sub.data _ _ _,Sub.nil _ _ _,trivial⟩,Sub.agg ⟨Sub.data _ _ _,Sub.data _ _ _,trivial⟩,trivial⟩ ?_;refine Stop.of_d (h1 _ _) ?_;try (simp)
 repeat (first|(refine sR ?_; simp)|(refine sC ?_; simp)|(refine sX ?_; simp only [AU, ↓reduceIte]))
 refine Stop.sub (args':=[exT.av,oneC.av,oneH.av]) ⟨Sub.refl _,Sub.agg ⟨Sub.refl _,Sub.refl _,Sub.data _ _ _,Sub.data _ _ _,Sub.nil _ _ _,trivial⟩,Sub.agg ⟨Sub.data _ _ _,Sub.data _ _ _,trivial⟩,trivial⟩ ?_;refine Stop.of_d (h2 _ _) ?_;try (simp)
 repeat (first|(refine sR ?_; simp)|(refine sC ?_; simp)|(refine sX ?_; simp only [AU, ↓reduceIte]))
 refine Stop.of_a (h3 _ _ _ _) ?_;rintro v m' ⟨rfl,rfl|⟨e,rfl⟩⟩
 ·try (simp [a1,a2,b1,b2,c1,c2])
  repeat (first|(refine sR ?_; simp [a1,a2,b1,b2,c1,c2])|(refine sC ?_; simp [a1,a2,b1,b2,c1,c2])|(refine sX ?_; simp only [AU, ↓reduceIte]))
  refine Stop.sub (args':=[exT.av,oneC.av]) ⟨Sub.refl _,Sub.agg ⟨Sub.refl _,Sub.refl _,Sub.data _ _ _,Sub.data _ _ _,Sub.nil _ _ _,trivial⟩,trivial⟩ ?_;refine Stop.of_d (h4 _ _) ?_;try (simp)
  repeat (first|(refine sR ?_; simp)|(refine sC ?_; simp)|(refine sX ?_; simp only [AU, ↓reduceIte]))
  refine sT ?_;try simp only [AU]
  refine ⟨by simp,sF hbox htok (fun t ht=>by have:=htok t ht; rw [upd_other _ _ (by omega),upd_other _ _ (by omega)]; exact ht) (by omega) ?_⟩;simp [packA,packA]
 ·rw [e] at c2;cases c2
variable {P:Program}
def pureOp:Op→Bool
 | .alloc _=>false
 | .buildSlice .. => false
 | _=>true
set_option maxHeartbeats 1000000 in
theorem stillN {base:Nat} {o:Oper} {ρ:Operand→AV} {ρv:Operand→Value} {G:Gh} {w:World} {v:AV} (hpu:pureOp o.op=true) (h:EffN P base o ρ v)
  (hρ:∀ x∈o.op.operands,RV G w (ρ x) (ρv x)):∃ u,(execOp ρv o).run P w=.ok (.value u) w∧RV G w v u:=by
 have keep:∀ u,(execOp ρv o).run P w=.ok (.value u) w→RV G w v u→∃ u,(execOp ρv o).run P w=.ok (.value u) w∧RV G w v u:=fun u h1 h2=>⟨u,h1,h2⟩
 unfold EffN at h;split at h
 ·rename_i x ho;subst h;exact keep (ρv x) (by simp only [execOp,ho,Sem.run_pure]) (hρ x (by rw [ho]; simp [Op.operands]))
 ·rename_i x ho;subst h;exact keep (ρv x) (by simp only [execOp,ho,Sem.run_pure]) (hρ x (by rw [ho]; simp [Op.operands]))
 ·rename_i c a b ho;split at h
  ·rename_i t hc;have h1:=hρ c (by rw [ho]; simp [Op.operands]);rw [hc] at h1;have h2:ρv c=.bool t:=rawOf_spec rfl h1
   subst h;cases t with
   | true=>exact keep (ρv a) (by simp [execOp,ho,h2,asBool]) (hρ a (by rw [ho]; simp [Op.operands]))
   | false=>exact keep (ρv b) (by simp [execOp,ho,h2,asBool]) (hρ b (by rw [ho]; simp [Op.operands]))
  ·exact h.elim
 ·rename_i T ho;rw [ho] at hpu;cases hpu
 ·rename_i T parts ho;split at h
  ·rename_i pl zs hpl hz;split at h
   ·rename_i cs hcs;subst h;obtain ⟨u,h1,h2⟩:=build_sound (ρv:=ρv) hpl hz hcs (fun p hp=>hρ p.2 (by rw [ho]; simp only [Op.operands]; rw [←Array.mem_toList_iff]; simpa using ⟨p.1,by simpa using hp⟩));exact keep u (by simp only [execOp,ho,Sem.run_bind,h1,Result.andThen_ok,Sem.run_pure]) h2
   ·exact h.elim
  ·exact h.elim
 ·rename_i T len parts ho;rw [ho] at hpu;cases hpu
 ·rename_i x ho;have h1:=hρ x (by rw [ho]; simp [Op.operands]);split at h
  ·rename_i k i off hx;subst h;rw [hx] at h1;generalize hv:ρv x=xv at h1;have h1':=h1
   cases h1' with
   | ptr hb=>exact keep _ (by simp only [execOp,ho,hv,Sem.run_pure]) h1
  ·rename_i cs off hx;subst h;rw [hx] at h1;generalize hv:ρv x=xv at h1;have h1':=h1
   cases h1' with
   | cptr a u hc hr=>exact keep _ (by simp only [execOp,ho,hv,Sem.run_pure]) h1
  ·rename_i f caps hx;subst h;rw [hx] at h1;generalize hv:ρv x=xv at h1;have h1':=h1
   cases h1' with
   | fn hl hh=>exact keep _ (by simp only [execOp,ho,hv,Sem.run_pure]) h1
  ·exact h.elim
 ·rename_i op T x y T2 ho;split at h
  ·rename_i a b ha hb;obtain ⟨r,hr,rfl⟩:=h;have h1:=rawOf_spec ha (hρ x (by rw [ho]; simp [Op.operands]));have h2:=rawOf_spec hb (hρ y (by rw [ho]; simp [Op.operands]));refine keep r ?_ (.raw hr.1);have:=hr.2 x y w
   simp only [execOp,ho,h1,h2,Sem.run_bind,Sem.run_pure] at this ⊢;rw [this];rfl
  ·exact h.elim
 ·rename_i op T x ho;split at h
  ·rename_i a ha;obtain ⟨r,hr,rfl⟩:=h;have h1:=rawOf_spec ha (hρ x (by rw [ho]; simp [Op.operands]));exact keep r (by simp only [execOp,ho,h1,Sem.run_bind,hr.2 w,Result.andThen_ok,Sem.run_pure]) (.raw hr.1)
  ·exact h.elim
 ·rename_i s t x ho;split at h
  ·rename_i a ha;obtain ⟨r,hr,rfl⟩:=h;have h1:=rawOf_spec ha (hρ x (by rw [ho]; simp [Op.operands]));exact keep r (by simp only [execOp,ho,h1,Sem.run_bind,hr.2 w,Result.andThen_ok,Sem.run_pure]) (.raw hr.1)
  ·exact h.elim
 ·rename_i fn first caps ho;obtain ⟨h0,rfl⟩:=h;have hf:first = #[]:=by rw [←Array.toArray_toList (xs:=first),h0]
  subst hf;refine keep (.func fn #[] (caps.map ρv)) (by simp [execOp,ho,Instr.makeFunc]) ?_;have:=RV.fn (G:=G) (w:=w) (f:=fn) (caps:=caps.toList.map ρ) (vs:=caps.toList.map ρv) (by simp) (fun i h1 h2=>by
   simp only [List.getElem_map];exact hρ _ (by rw [ho]; simp only [Op.operands]; rw [←Array.mem_toList_iff]; simp))
  have e:caps.map ρv=(caps.toList.map ρv).toArray:=by rw [←Array.toList_map,Array.toArray_toList]
  rw [e];exact this
 ·rename_i T x f ho;have h1:=hρ x (by rw [ho]; simp [Op.operands]);split at h
  ·rename_i pl hpl;split at h
   ·rename_i off n cs o' hf hx;obtain ⟨hn,rfl⟩:=h;rw [hx] at h1;generalize hv:ρv x=xv at h1;cases h1 with
    | cptr a u hc hr =>
     refine keep _ (by simp only [execOp,ho,hv,Sem.run_bind,run_fieldAt hpl hf hn,Result.andThen_ok,Sem.run_pure]; rfl) ?_;rw [add_add];exact .cptr a u hc hr
   ·rename_i off n k i o' hf hx;obtain ⟨hn,rfl⟩:=h;rw [hx] at h1;generalize hv:ρv x=xv at h1;cases h1 with
    | ptr hb =>
     refine keep _ (by simp only [execOp,ho,hv,Sem.run_bind,run_fieldAt hpl hf hn,Result.andThen_ok,Sem.run_pure]; rfl) ?_;rw [add_none,Nat.add_assoc];exact .ptr hb
   ·exact h.elim
  ·exact h.elim
 ·rename_i T x f ho;have h1:=hρ x (by rw [ho]; simp [Op.operands]);split at h
  ·rename_i ft off cs hf hx;split at h
   ·rename_i ag n hag hn;rw [hx] at h1;generalize hv:ρv x=xv at h1;cases h1 with
    | agg hl hh hone =>
     rename_i vs;obtain ⟨u,h2,h3⟩:=cells_get ⟨hl,hh⟩ h hone;unfold fieldT at hf;split at hf
     ·rename_i fs hfs;obtain ⟨fd,hfd,hfe⟩:=Option.map_eq_some_iff.1 hf;simp only [Prod.mk.injEq] at hfe;obtain ⟨rfl,rfl⟩:=hfe;refine keep u ?_ h3;have hpr:(part fd.type vs.toArray fd.offset).run P w=.ok u w:=run_part hag hn (by simpa using h2) w
      simp only [execOp,ho,hv,Instr.field,Sem.run_bind,run_underlying hfs,Result.andThen_ok,hfd,asAgg,Sem.run_pure,hpr]
     ·cases hf
   ·exact h.elim
  ·exact h.elim
 ·rename_i T x i ho;split at h
  ·rename_i k n hi;have h1:=hρ x (by rw [ho]; simp [Op.operands]);have h2:=hρ i (by rw [ho]; simp [Op.operands]);rw [hi] at h2;have h3:ρv i=.int k n:=rawOf_spec rfl h2
   obtain ⟨u,h4,h5⟩:=idxOf_sound (k:=k) h h1;exact keep u (by simp only [execOp,ho,h3,Sem.run_bind,h4,Result.andThen_ok,Sem.run_pure]) h5
  ·exact h.elim
 ·rename_i T x i ho;split at h
  ·rename_i s k n hx hi;obtain ⟨hT,h0,b,hb,rfl⟩:=h;have h1:=hρ x (by rw [ho]; simp [Op.operands]);have h2:=hρ i (by rw [ho]; simp [Op.operands]);rw [hx] at h1;rw [hi] at h2;have h3:ρv x=.string s:=rawOf_spec rfl h1
   have h4:ρv i=.int k n:=rawOf_spec rfl h2
   refine keep (.int .u8 b.toNat) ?_ (.raw rfl);simp only [execOp,ho,h3,h4,Instr.index,Sem.run_bind,run_asIntOf,Result.andThen_ok,run_underlying (strT_spec hT),h0, ↓reduceIte,hb,Sem.run_pure]
  ·exact h.elim
 ·rename_i t i ho;split at h
  ·rename_i vs ht;have h1:=hρ t (by rw [ho]; simp [Op.operands]);rw [ht] at h1;generalize hv:ρv t=tv at h1;cases h1 with
   | tup hl hh =>
    rename_i us;obtain ⟨u,hu,hr⟩:=RVs.get ⟨hl,hh⟩ h;refine keep u ?_ hr;have hu':us.toArray[i]?=some u:=by simpa using hu
    simp only [execOp,ho,hv,Instr.extract,hu',Sem.run_bind,Sem.run_pure,Result.andThen_ok]
  ·exact h.elim
 ·rename_i T x lo hi mx ho;have h1:=hρ x (by rw [ho]; simp [Op.operands]);obtain ⟨u,h2,h3⟩:=sliceOf_sound (ρv:=ρv) h h1 (fun y hy=>hρ y (by rw [ho]; simp [Op.operands,hy])) (fun y hy=>hρ y (by rw [ho]; simp [Op.operands,hy])) (fun y hy=>hρ y (by rw [ho]; simp [Op.operands,hy]));exact keep u (by simp only [execOp,ho,Sem.run_bind,h2,Result.andThen_ok,Sem.run_pure]) h3
 ·rename_i c ho;split at h
  ·rename_i xa T hcal hargs htys;obtain ⟨x,hargs2,rfl⟩:=List.map_eq_singleton_iff.1 hargs;have ha:c.args = #[x]:=by rw [←Array.toArray_toList (xs:=c.args),hargs2]
   have hb:c.argTypes = #[T]:=by rw [←Array.toArray_toList (xs:=c.argTypes),htys]
   have h1:=hρ x (by rw [ho]; simp [Op.operands,Call.operands,hcal,ha]);obtain ⟨u,h2,h3⟩:=lenOf_sound (ty:=o.type) h h1;refine keep u ?_ h3;simp only [execOp,ho,resolve,hcal,ha,hb,List.map_toArray,List.map_cons,List.map_nil,Sem.run_bind,Sem.run_pure,Result.andThen_ok,invoke,builtin,h2]
  ·exact h.elim
  ·rename_i args tys b hn1 hcal hn2;split at h
   ·rename_i vs hvs;obtain ⟨r,hr,rfl⟩:=h;have hmap:(c.args.map ρv)=vs.toArray:=by
     have:=rawsOf_get (ρv:=ρv) (G:=G) (w:=w) hvs (fun x hx=>hρ x (by rw [ho]; simp only [Op.operands,Call.operands,hcal]; rw [←Array.mem_toList_iff]; simpa using hx))
     rw [←this,←Array.toList_map,Array.toArray_toList]
    refine keep r ?_ (.raw hr.1);simp only [execOp,ho,resolve,hcal,Sem.run_bind,Sem.run_pure,Result.andThen_ok,invoke,hmap,hr.2]
   ·exact h.elim
  ·exact h.elim
 ·exact h.elim
def stillOp (o:Oper):Bool:=(match cls o.op with|.n=>true|.r=>true|_=>false)&&pureOp o.op
theorem still_step {cx:Cx} {o:Oper} {S S1:AState} {G:Gh} {w:World} {a:Act} (hs:stillOp o=true) (h:Step P false cx.base o S S1) (hr:RelS cx.n cx.nb G S a w) (hd:∀ d,o.dst=some d→d<cx.n) :
  S1.box=S.box∧S1.tok=S.tok∧S1.nt=S.nt∧∃ u,(execOp a.eval o).run P w=.ok (.value u) w∧RelS cx.n cx.nb G S1 (a.put o.dst u) w:=by
 unfold stillOp at hs;rw [Bool.and_eq_true] at hs;obtain ⟨hc,hpu⟩:=hs;obtain ⟨v,box',tok',nt',he,rfl⟩:=h;unfold Eff at he;split at he
 ·obtain ⟨he,rfl,rfl,rfl⟩:=he;obtain ⟨u,h1,h2⟩:=stillN (ρv:=a.eval) (G:=G) (w:=w) hpu he (fun x _=>hr.ev x);exact ⟨rfl,rfl,rfl,u,h1,hr.put (Le.refl G w) hd h2 hr.mem⟩
 ·obtain ⟨he,rfl,rfl,rfl⟩:=he;obtain ⟨u,h1,h2⟩:=effR_sound (ρv:=a.eval) (G:=G) (w:=w) (m:=⟨S.box,cx.nb,S.tok,S.nt⟩) he (fun x _=>hr.ev x) hr.mem;exact ⟨rfl,rfl,rfl,u,h1,hr.put (Le.refl G w) hd h2 hr.mem⟩
 ·rename_i h0; rw [h0] at hc; cases hc
 ·rename_i h0; rw [h0] at hc; cases hc
theorem still_run {cx:Cx} {ops:Array Oper} (hd:∀ (o:Oper) d,o∈ops→o.dst=some d→d<cx.n):∀ (mid:List Oper) (S S1:AState),(mid.all stillOp)=true→(∀ o∈mid,o∈ops)→ARun P false cx.base ops mid S S1→∀ (G:Gh) (w:World) (Q:Act→Prop) (l:List Oper) (a:Act),RelS cx.n cx.nb G S a w →
  (S1.box=S.box→S1.tok=S.tok→∀ a1,RelS cx.n cx.nb G S1 a1 w→wpStill P ops w Q l a1)→wpStill P ops w Q (mid++l) a
 | [],S,S1,_,_,h,G,w,Q,l,a,hr,k=>by
  have h:S1=S:=h
  subst h;exact k rfl rfl a hr
 | o::mid,S,S1,hs,hin,h,G,w,Q,l,a,hr,k=>by
  obtain ⟨S2,h1,h2⟩:=h;rw [List.all_cons,Bool.and_eq_true] at hs;have ho:=hin o (by simp);have hd':=fun d=>hd o d ho
  have rest:=fun (a2:Act) (q:RelS cx.n cx.nb G S2 a2 w) (q1:S2.box=S.box) (q2:S2.tok=S.tok)=>still_run hd mid S2 S1 hs.2 (fun o h=>hin o (by simp [h])) h2 G w Q l a2 q (fun e1 e2=>k (e1.trans q1) (e2.trans q2))
  rw [List.cons_append];unfold wpStill;unfold GStep at h1;split at h1
  ·rename_i hg;rw [if_pos (by simp [Region.wanted,hg])];obtain ⟨q1,q2,_,u,q3,q4⟩:=still_step hs.1 h1 hr hd';unfold Oper.still;rw [q3,Oper.stillUpon_value];exact rest _ q4 q1 q2
  ·rename_i j want hg;split at h1
   ·rename_i b hy;have hy':=yieldA_spec hr hy (fun o d q1 q2=>hd o d (Array.mem_of_getElem? q1) q2)
    by_cases e:b=some want
    ·rw [if_pos e] at h1;rw [if_pos (by simp [Region.wanted,hg,hy',e])];obtain ⟨q1,q2,_,u,q3,q4⟩:=still_step hs.1 h1 hr hd';unfold Oper.still;rw [q3,Oper.stillUpon_value];exact rest _ q4 q1 q2
    ·rw [if_neg e] at h1;subst h1;rw [if_neg (by simp [Region.wanted,hg,hy',e])];exact rest _ (hr.put (Le.refl G w) hd' RV.undef hr.mem) rfl rfl
   ·exact h1.elim
def SegS (P:Program) (cx:Cx) (ops:Array Oper) (l:List Oper) (K:AState→Prop) (S:AState):Prop:=∀ (G:Gh) (w:World) (Q:Act→Prop),(∀ S' a,K S'→S'.box=S.box→S'.tok=S.tok→RelS cx.n cx.nb G S' a w→Q a)→∀ a,RelS cx.n cx.nb G S a w→wpStill P ops w Q l a
theorem SegS.nil {cx:Cx} {ops:Array Oper} {K:AState→Prop} {S:AState} (h:K S):SegS P cx ops [] K S:=fun G w Q hQ a hr=>hQ S a h rfl rfl hr
theorem SegS.run {cx:Cx} {ops:Array Oper} {K:AState→Prop} {S:AState} (p k:Nat) (hd:dstOk cx.n ops=true) {mid rest l:List Oper} (hl:ops.toList.drop p=l) (hm:l.take k=mid) (hr:l.drop k=rest) (hs:mid.all stillOp=true) (h:FOps P cx ops true mid (SegS P cx ops rest K) S):SegS P cx ops l K S:=by
 obtain ⟨S1,h1,h2⟩:=fOps_true _ _ h;intro G w Q hQ a hra;have hlm:l=mid++rest:=by rw [←hm,←hr,List.take_append_drop]
 rw [hlm];refine still_run (dstOk_spec hd) mid S S1 hs (fun o ho=>?_) h1 G w Q rest a hra (fun e1 e2 a1 hr1=>h2 G w Q (fun S' a' q1 q2 q3 q4=>hQ S' a' q1 (q2.trans e1) (q3.trans e2) q4) a1 hr1);rw [←hm,←hl] at ho;simpa using List.mem_of_mem_drop (List.mem_of_mem_take ho)
variable {P:Program}
end Go.AM
