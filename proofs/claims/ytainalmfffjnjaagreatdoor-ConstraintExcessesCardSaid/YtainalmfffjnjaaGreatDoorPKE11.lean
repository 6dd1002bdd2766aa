/-
 Parts of the proof, as merged from many texts: a machine over data, what the functions compute, plain laws.
-/
import Derived.Test.YtainalmfffjnjaaGreatDoorPKE10
set_option linter.unusedSimpArgs false
set_option linter.unusedVariables false
namespace Go.AM
open Go Go.Proofs
def bdNd (t:Ty) (i:Nat):NT:=⟨(t.nd i).name,(t.nd i).par,!leafB t i,(t.nd i).own⟩
def bdNs (t:Ty) (n:Nat):List NT:=(List.range n).map (bdNd t)
def bdE1 (cs:List Int) (i:Nat) (x:ET):ET:=if i<cs.length then ⟨x.name,x.fr,x.to,cs.getD i 0 % 2,cs.getD i 0 / 2 % 4 - 1,cs.getD i 0 / 8 % 2,cs.getD i 0 / 16 % 4 - 1⟩ else x
def bdHi (lo hi:Int):Int:=if 0≤hi then max lo hi else hi
def bdE2 (y:ET):ET:=⟨y.name,y.fr,y.to,y.ol,bdHi y.ol y.oh,y.il,bdHi y.il y.ih⟩
def bdEs (t:Ty) (cs:List Int) (n:Nat):List ET:=(List.range n).map fun i=>bdE2 (bdE1 cs i (t.edges.getD i default))
def bdT (t:Ty) (cs:List Int):Ty:=⟨bdNs t t.nodes.length,bdEs t cs t.edges.length⟩
theorem bdNs_succ (t:Ty) (n:Nat):bdNs t (n+1)=bdNs t n++[bdNd t n]:=by unfold bdNs; rw [List.range_succ,List.map_append]; rfl
theorem bdEs_succ {t:Ty} {cs:List Int} {n:Nat} (h:n<t.edges.length):bdEs t cs (n+1)=bdEs t cs n++[bdE2 (bdE1 cs n t.edges[n])]:=by unfold bdEs; rw [List.range_succ,List.map_append]; simp [h]
theorem bdNs_len (t:Ty) (n:Nat):(bdNs t n).length=n:=by simp [bdNs]
theorem bdEs_len (t:Ty) (cs:List Int) (n:Nat):(bdEs t cs n).length=n:=by simp [bdEs]
structure BdX where
 i:Nat
 tk:Nat
 own:Own
 tok:Nat→Bool
 nt:Nat
def stBa (t:Ty) (cs:List Int) (nb:Nat) (box:Bxs) (x:BdX):AState :=
 ⟨tl [(6,I x.i),(1,.d (bytes cs)),(2,.ptr (nb+2) 0 0),(5,.ptr (nb+5) 0 0),(4,.ptr (nb+4) 0 0)],lb nb box [(5,[[.stk x.tk 4 ((bdNs t x.i).map NT.cells),nilS]]),(4,[[nilS,nilS]]),(2,[[.d (nts t.nodes),.d (ets t.edges)]])],x.tok,x.nt⟩
def stBb (t:Ty) (cs:List Int) (ND:List NT) (nb:Nat) (box:Bxs) (tk:Nat) (x:Acc):AState :=
 ⟨tl [(8,I x.i),(1,.d (bytes cs)),(2,.ptr (nb+2) 0 0),(5,.ptr (nb+5) 0 0),(4,.ptr (nb+4) 0 0)],lb nb box [(5,[[.stk tk 4 (ND.map NT.cells),.osl 7 ((bdEs t cs x.i).map ET.cells) x.own]]),(4,[[nilS,nilS]]),(2,[[.d (nts t.nodes),.d (ets t.edges)]])],x.tok,x.nt⟩
def QBd (t:Ty) (cs:List Int) (box:Bxs) (nb:Nat) (tok:Tks) (nt:Nat) (v:AV) (m:AMem):Prop :=
 ∃ tk tok' nt',v=.agg [.stk tk 4 ((bdNs t t.nodes.length).map NT.cells),.d (ets (bdEs t cs t.edges.length))]∧m=⟨box,nb,tok',nt'⟩∧TK tok nt tok' nt' [.tok tk]
set_option maxRecDepth 100000 in
theorem boundedT_c (t:Ty) (hn:t.nodes.length≤1000000) (he:t.edges.length≤1000000) (hb:∀ x∈t.edges,(-1≤x.oh∧x.oh≤100)∧(-1≤x.ih∧x.ih≤100)∧(0≤x.ol∧x.ol≤100)∧0≤x.il∧x.il≤100) (cs:List Int) (h8:U8s cs) (hc:cs.length≤200000000000000) (box:Bxs) (nb:Nat) (tok:Tks) (nt:Nat) (htok:∀ q,tok q=true→q<nt) :
  ACalls Tryz.prog 41 [t.av,.d (bytes cs)] ⟨box,nb,tok,nt⟩ (QBd t cs box nb tok nt):=by
 have hl:=leafS_c t hn;have htok0:=htok;clear htok;refine sI Tryz.func41 Tryz.ntmps41 fun hbox htok=>?_
 repeat (first|simp|refine sR ?_)
 refine AL.weak (Weaks.mk (l':=[(6,I 0),(1,.d (bytes cs)),(2,.ptr (nb+2) 0 0),(5,.ptr (nb+5) 0 0),(4,.ptr (nb+4) 0 0)]) (loc':=[(5,[[nilS,nilS]]),(4,[[nilS,nilS]]),(2,[[.d (nts t.nodes),.d (ets t.edges)]])]) (Nat.le_refl _) rfl (by simp [ToL,lk]) (by simp [BoxL,lk])) ?_;refine AL.trans (Trans.opn (l':=[(6,I 0),(1,.d (bytes cs)),(2,.ptr (nb+2) 0 0),(5,.ptr (nb+5) 0 0),(4,.ptr (nb+4) 0 0)]) (loc':=[(5,[[.stk nt 4 [],nilS]]),(4,[[nilS,nilS]]),(2,[[.d (nts t.nodes),.d (ets t.edges)]])]) 4 (by simp [CvL]) ⟨rfl,cvRs_one (cvR_cons .nil (cvR_cons .same cvR_nil)),rfl,cvRs_same (fun _=>.same) _,rfl,cvRs_same (fun _=>.same) _,trivial⟩) ?_;have htk0:=(TK.start htok).full.app;refine sN ?_;refine AL.loopT (stBa t cs nb box) (fun x=>x.i≤t.nodes.length∧TK tok nt x.tok x.nt [.tok x.tk]) (fun x=>t.nodes.length - x.i) ⟨0,nt,.full,upd tok nt true,nt+1⟩ ⟨Nat.zero_le _,htk0⟩ (Weaks.mk (Nat.le_succ _) rfl (by simp [ToL,lk]) (by simp [BoxL,lk,bdNs])) ?_;rintro ⟨i,tk,_,tok',nt'⟩ S ⟨hi,htk⟩ hS;simp only [stBa] at hS hi htk;subst hS;have hw:=sW (i:=i) (by omega);by_cases hlt:i<t.nodes.length
 ·have hs:=bdNs_succ t i;have hnd:bdNd t i=⟨t.nodes[i].name,t.nodes[i].par,!leafB t i,t.nodes[i].own⟩:=by simp [bdNd,Ty.nd,hlt]
  have hln:=bdNs_len t i;rw [hnd] at hs;try (simp [hlt])
  repeat (first|(refine sR ?_; simp [hlt])|(refine sC ?_; simp [hlt])|(refine sX ?_; simp only [AU, ↓reduceIte]))
  refine Stop.of_d (hl i _ _) ?_;simp;try (simp [hw])
  repeat (first|(refine sR ?_; simp [hw])|(refine sC ?_; simp [hw])|(refine sX ?_; simp only [AU, ↓reduceIte]))
  refine ⟨⟨by omega,htk.live⟩,?_⟩;try (simp [hw])
  repeat (first|(refine sR ?_; simp [hw])|(refine sC ?_; simp [hw])|(refine sX ?_; simp only [AU, ↓reduceIte]))
  refine sE ?_;exact ⟨⟨i+1,nt',.full,_,_⟩,⟨hlt,htk.app⟩,by simp only; omega,Weaks.mk htk.app.le rfl (by simp [ToL,lk]) (by simp [BoxL,lk,hs,NT.cells])⟩
 ·have:i=t.nodes.length:=by omega
  subst this;have hbl:=bdNs_len t t.nodes.length;unfold QBd;generalize (bdNs t t.nodes.length)=ND at *;try (simp)
  repeat (first|(refine sR ?_; simp)|(refine sC ?_; simp)|(refine sX ?_; simp only [AU, ↓reduceIte]))
  refine sN ?_;refine AL.loopT (stBb t cs ND nb box tk) (fun x=>x.i≤t.edges.length∧TK tok nt x.tok x.nt [x.own,.tok tk]) (fun x=>t.edges.length - x.i) ⟨0,.full,tok',nt'⟩ ⟨Nat.zero_le _,htk.full⟩ (Weaks.mk htk.le rfl (by simp [ToL,lk]) (by simp [BoxL,lk,bdEs])) ?_;rintro ⟨j,own2,tok2,nt2⟩ S ⟨hj,htk2⟩ hS;simp only [stBb] at hS hj htk2;subst hS;have hwj:=sW (i:=j) (by omega);by_cases hlj:j<t.edges.length
  ·have hs:=bdEs_succ (cs:=cs) hlj;have hle:=bdEs_len t cs j;obtain ⟨ho,hi2,hol,hil⟩:=hb _ (List.getElem_mem hlj);obtain ⟨x,hx⟩:∃ x,t.edges[j]=x:=⟨_,rfl⟩
   rw [hx] at hs ho hi2 hol hil;obtain ⟨y,hy⟩:∃ y,bdE1 cs j x=y:=⟨_,rfl⟩
   rw [hy] at hs;refine sR ?_;simp [hlj];refine sC ?_;simp;refine sR ?_;simp [hlj,hx];have hyr:(-1≤y.oh∧y.oh≤100)∧(-1≤y.ih∧y.ih≤100)∧(0≤y.ol∧y.ol≤100)∧0≤y.il∧y.il≤100:=by
    rw [←hy];unfold bdE1;by_cases hjc:j<cs.length
    ·rw [if_pos hjc];have h3:=h8 _ (List.getElem_mem hjc);rw [List.getD_eq_getElem?_getD,List.getElem?_eq_getElem hjc,Option.getD_some];refine ⟨⟨?_,?_⟩,⟨?_,?_⟩,⟨?_,?_⟩,?_,?_⟩ <;> simp only <;> omega
    ·rw [if_neg hjc];exact ⟨ho,hi2,hol,hil⟩
   rcases (by omega:¬ j<cs.length∨j<cs.length) with hjc|hjc
   case' inl =>
    have hyx:y=x:=by rw [←hy]; unfold bdE1; rw [if_neg hjc]
    subst hyx;refine sR ?_;simp [hjc];refine sC ?_;simp
   case' inr =>
    obtain ⟨c,hc2⟩:∃ c,cs[j]=c:=⟨_,rfl⟩
    have h3:=h8 _ (List.getElem_mem hjc);rw [hc2] at h3;have hyx:y=⟨x.name,x.fr,x.to,c % 2,c / 2 % 4 - 1,c / 8 % 2,c / 16 % 4 - 1⟩:=by rw [←hy]; unfold bdE1; rw [if_pos hjc,List.getD_eq_getElem?_getD,List.getElem?_eq_getElem hjc,hc2]; rfl
    have e1:IntKind.i64.wrap c=c:=wrap_in (by omega) (by omega)
    have e2:c.tmod 2=c % 2:=Int.tmod_eq_emod_of_nonneg h3.1
    have e3:c.tdiv 2=c / 2:=Int.tdiv_eq_ediv_of_nonneg h3.1
    have e4:c.tdiv 8=c / 8:=Int.tdiv_eq_ediv_of_nonneg h3.1
    have e5:c.tdiv 16=c / 16:=Int.tdiv_eq_ediv_of_nonneg h3.1
    have u2:IntKind.u8.wrap (c / 2)=c / 2:=wrapU8 (by omega) (by omega)
    have u8':IntKind.u8.wrap (c / 8)=c / 8:=wrapU8 (by omega) (by omega)
    have u16:IntKind.u8.wrap (c / 16)=c / 16:=wrapU8 (by omega) (by omega)
    have w2:IntKind.i64.wrap (c / 2)=c / 2:=wrap_in (by omega) (by omega)
    have w8:IntKind.i64.wrap (c / 8)=c / 8:=wrap_in (by omega) (by omega)
    have w16:IntKind.i64.wrap (c / 16)=c / 16:=wrap_in (by omega) (by omega)
    have m2:(c / 2).tmod 4=c / 2 % 4:=Int.tmod_eq_emod_of_nonneg (by omega)
    have m8:(c / 8).tmod 2=c / 8 % 2:=Int.tmod_eq_emod_of_nonneg (by omega)
    have m16:(c / 16).tmod 4=c / 16 % 4:=Int.tmod_eq_emod_of_nonneg (by omega)
    have s2:IntKind.i64.wrap (c / 2 % 4 - 1)=c / 2 % 4 - 1:=wrap_in (by omega) (by omega)
    have s16:IntKind.i64.wrap (c / 16 % 4 - 1)=c / 16 % 4 - 1:=wrap_in (by omega) (by omega)
    have s0:IntKind.i64.wrap (c % 2)=c % 2:=wrap_in (by omega) (by omega)
    have s8:IntKind.i64.wrap (c / 8 % 2)=c / 8 % 2:=wrap_in (by omega) (by omega)
    refine sR ?_;simp [hjc];refine sC ?_;simp;refine sN ?_;refine AL.region3 follows_Tryz (Nat.le_refl _) (by kernel_rfl) (Side.of (by simp)) [(Operand.tmp 57,Operand.tmp 63)] (by kernel_rfl) ?_;simp [hjc,hc2,e1,e2,e3,e4,e5,u2,u8',u16,w2,w8,w16,m2,m8,m16,s2,s16,s0,s8];refine sN ?_;refine AL.region3 follows_Tryz (Nat.le_refl _) (by kernel_rfl) (Side.of (by simp)) [(Operand.tmp 74,Operand.tmp 80)] (by kernel_rfl) ?_;simp [hjc,hc2,e1,e2,e3,e4,e5,u2,u8',u16,w2,w8,w16,m2,m8,m16,s2,s16,s0,s8]
   all_goals
    refine AL.weak (Weaks.mk (l':=[(9,.ptr (nb+9) 0 0),(8,I j),(1,.d (bytes cs)),(2,.ptr (nb+2) 0 0),(5,.ptr (nb+5) 0 0),(4,.ptr (nb+4) 0 0)]) (loc':=[(9,[[Sb y.name,I y.fr,I y.to,I y.ol,I y.oh,I y.il,I y.ih]]),(5,[[.stk tk 4 (ND.map NT.cells),.osl 7 ((bdEs t cs j).map ET.cells) own2]]),(4,[[nilS,nilS]]),(2,[[.d (nts t.nodes),.d (ets t.edges)]])]) htk2.le rfl (by simp [ToL,lk]) (by first|(simp [BoxL,lk]; done)|(simp [BoxL,lk,hyx]; done))) ?_;by_cases c1:0≤y.oh <;> by_cases c2:0≤y.ih
    ·try (simp [c1,c2])
     repeat (first|(refine sR ?_; simp [c1,c2])|(refine sC ?_; simp [c1,c2])|(refine sX ?_; simp only [AU, ↓reduceIte]))
     refine ⟨⟨by omega,htk2.live⟩,?_⟩;try (simp [hwj])
     repeat (first|(refine sR ?_; simp [hwj])|(refine sC ?_; simp [hwj])|(refine sX ?_; simp only [AU, ↓reduceIte]))
     refine sE ?_;refine ⟨⟨j+1,_,_,_⟩,⟨hlj,htk2.app⟩,by simp only; omega,Weaks.mk htk2.app.le rfl (by simp [ToL,lk]) ?_⟩;simp [BoxL,lk,hs,bdE2,bdHi,c1,c2,ET.cells]
    ·try (simp [c1,c2])
     repeat (first|(refine sR ?_; simp [c1,c2])|(refine sC ?_; simp [c1,c2])|(refine sX ?_; simp only [AU, ↓reduceIte]))
     refine ⟨⟨by omega,htk2.live⟩,?_⟩;try (simp [hwj])
     repeat (first|(refine sR ?_; simp [hwj])|(refine sC ?_; simp [hwj])|(refine sX ?_; simp only [AU, ↓reduceIte]))
     refine sE ?_;refine ⟨⟨j+1,_,_,_⟩,⟨hlj,htk2.app⟩,by simp only; omega,Weaks.mk htk2.app.le rfl (by simp [ToL,lk]) ?_⟩;simp [BoxL,lk,hs,bdE2,bdHi,c1,c2,ET.cells]
    ·try (simp [c1,c2])
     repeat (first|(refine sR ?_; simp [c1,c2])|(refine sC ?_; simp [c1,c2])|(refine sX ?_; simp only [AU, ↓reduceIte]))
     refine ⟨⟨by omega,htk2.live⟩,?_⟩;try (simp [hwj])
     repeat (first|(refine sR ?_; simp [hwj])|(refine sC ?_; simp [hwj])|(refine sX ?_; simp only [AU, ↓reduceIte]))
     refine sE ?_;refine ⟨⟨j+1,_,_,_⟩,⟨hlj,htk2.app⟩,by simp only; omega,Weaks.mk htk2.app.le rfl (by simp [ToL,lk]) ?_⟩;simp [BoxL,lk,hs,bdE2,bdHi,c1,c2,ET.cells]
    ·try (simp [c1,c2])
     repeat (first|(refine sR ?_; simp [c1,c2])|(refine sC ?_; simp [c1,c2])|(refine sX ?_; simp only [AU, ↓reduceIte]))
     refine ⟨⟨by omega,htk2.live⟩,?_⟩;try (simp [hwj])
     repeat (first|(refine sR ?_; simp [hwj])|(refine sC ?_; simp [hwj])|(refine sX ?_; simp only [AU, ↓reduceIte]))
     refine sE ?_;refine ⟨⟨j+1,_,_,_⟩,⟨hlj,htk2.app⟩,by simp only; omega,Weaks.mk htk2.app.le rfl (by simp [ToL,lk]) ?_⟩;simp [BoxL,lk,hs,bdE2,bdHi,c1,c2,ET.cells]
  ·have:j=t.edges.length:=by omega
   subst this;generalize bdEs t cs t.edges.length=ED at *;try (simp)
   repeat (first|(refine sR ?_; simp)|(refine sC ?_; simp)|(refine sX ?_; simp only [AU, ↓reduceIte]))
   refine sT ?_;try simp only [AU]
   exact ⟨by simp,(Fin.own (av:=.agg [.stk tk 4 (ND.map NT.cells),.d (ets ED)]) (by simp [resAs,resA,lk]; rfl) hbox rfl htk2.le (by simp [packA])).mono fun v m hq=>⟨tk,hq.1,tok2,nt2,hq.2,htk2.tail⟩⟩
abbrev b3s (l:List (Int × Int × Int)):D:=.sl 3 (l.map fun x=>[u8 x.1,u8 x.2.1,u8 x.2.2])
def U83 (l:List (Int × Int × Int)):Prop:=∀ x∈l,(0≤x.1∧x.1<256)∧(0≤x.2.1∧x.2.1<256)∧0≤x.2.2∧x.2.2<256
def lfN (t:Ty) (n:Nat):List Int:=((List.range n).filter fun (i:Nat)=>leafB t (i:Int)).map fun (i:Nat)=>(i:Int)
def lfs (t:Ty):List Int:=lfN t t.nodes.length
theorem lfN_succ (t:Ty) (n:Nat):lfN t (n+1)=lfN t n++(if leafB t (n:Int)=true then [(n:Int)] else []):=by
 unfold lfN;rw [List.range_succ,List.filter_append,List.map_append];by_cases h:leafB t (n:Int)=true <;> simp [h]
theorem lfN_len (t:Ty) (n:Nat):(lfN t n).length≤n:=by
 unfold lfN;rw [List.length_map];have:=List.length_filter_le (fun i:Nat=>leafB t (i:Int)) (List.range n)
 rwa [List.length_range] at this
def lgN (L ns:List Int) (j:Nat):List Int:=(ns.take j).map fun n=>L.getD (n.toNat % L.length) 0
theorem lgN_succ {L ns:List Int} {j:Nat} (h:j<ns.length):lgN L ns (j+1)=lgN L ns j++[L.getD (ns[j].toNat % L.length) 0]:=by
 unfold lgN;rw [List.take_succ_eq_append_getElem h,List.map_append];rfl
theorem lgN_len (L ns:List Int) (j:Nat):(lgN L ns j).length≤j:=by unfold lgN; rw [List.length_map,List.length_take]; omega
def lgX (te:Nat) (N:List Int) (e:Int × Int × Int):E:=⟨e.1 % te,e.2.1 % N.length,e.2.2 % N.length⟩
def lgOk (t:Ty) (N:List Int) (x:E):Bool:=fitB t x.ty (N.getD x.fr.toNat 0) (N.getD x.to.toNat 0)
def lgE (t:Ty) (N:List Int) (es:List (Int × Int × Int)) (j:Nat):List E:=((es.take j).map (lgX t.edges.length N)).filter (lgOk t N)
theorem lgE_succ {t:Ty} {N:List Int} {es:List (Int × Int × Int)} {j:Nat} (h:j<es.length):lgE t N es (j+1)=lgE t N es j++(if lgOk t N (lgX t.edges.length N es[j])=true then [lgX t.edges.length N es[j]] else []):=by
 unfold lgE;rw [List.take_succ_eq_append_getElem h,List.map_append,List.filter_append];by_cases e:lgOk t N (lgX t.edges.length N es[j])=true <;> simp [e]
theorem lgE_len (t:Ty) (N:List Int) (es:List (Int × Int × Int)) (j:Nat):(lgE t N es j).length≤j:=by
 unfold lgE;refine Nat.le_trans (List.length_filter_le _ _) ?_;rw [List.length_map,List.length_take]; omega
def lgJ (t:Ty) (N:List Int) (es:List (Int × Int × Int)):Nat:=if 0<N.length∧0<t.edges.length then min es.length 8 else 0
def lgR (t:Ty) (ns:List Int) (es:List (Int × Int × Int)) (most:Nat):Gr:=⟨lgN (lfs t) ns most,lgE t (lgN (lfs t) ns most) es (lgJ t (lgN (lfs t) ns most) es)⟩
def stLfA (t:Ty) (ns:List Int) (es:List (Int × Int × Int)) (most:Nat) (nb:Nat) (box:Bxs) (x:Acc):AState :=
 ⟨tl [(10,I x.i),(9,.osl 1 (rI (lfN t x.i)) x.own),(1,.d (bytes ns)),(2,.d (b3s es)),(3,I most),(4,.ptr (nb+4) 0 0),(8,.ptr (nb+8) 0 0)],lb nb box [(8,[[nilS,nilS]]),(4,[[.d (nts t.nodes),.d (ets t.edges)]])],x.tok,x.nt⟩
def stLfB (t:Ty) (L ns:List Int) (es:List (Int × Int × Int)) (most:Nat) (nb:Nat) (box:Bxs) (x:Acc):AState :=
 ⟨tl [(12,I x.i),(11,.ptr (nb+11) 0 0),(9,.d (ints L)),(1,.d (bytes ns)),(2,.d (b3s es)),(3,I most),(4,.ptr (nb+4) 0 0),(8,.ptr (nb+8) 0 0)],lb nb box [(11,[[.osl 1 (rI (lgN L ns x.i)) x.own,nilS]]),(8,[[nilS,nilS]]),(4,[[.d (nts t.nodes),.d (ets t.edges)]])],x.tok,x.nt⟩
def stLfC (t:Ty) (N:List Int) (es:List (Int × Int × Int)) (nb:Nat) (box:Bxs) (x:Acc):AState :=
 ⟨tl [(13,I x.i),(11,.ptr (nb+11) 0 0),(2,.d (b3s es)),(4,.ptr (nb+4) 0 0),(8,.ptr (nb+8) 0 0)],lb nb box [(11,[[.d (ints N),.osl 3 (rE (lgE t N es x.i)) x.own]]),(8,[[nilS,nilS]]),(4,[[.d (nts t.nodes),.d (ets t.edges)]])],x.tok,x.nt⟩
set_option maxRecDepth 100000 in
theorem leafG_c (t:Ty) (ht:t.Fit) (hL:0<(lfs t).length) (ns:List Int) (h8:U8s ns) (hns:ns.length≤200000000000000) (es:List (Int × Int × Int)) (h83:U83 es) (hes:es.length≤200000000000000) (most:Nat) (hm:most≤1000) (tok:Tks) (nt:Nat) :
  DCall Tryz.prog 44 [t.av,.d (bytes ns),.d (b3s es),I most] tok nt (.agg [.d (ints (lgR t ns es most).nodes),.d (AM.edges (lgR t ns es most).edges)]) tok nt:=by
 intro box nb;have htn:=ht.n;have hte:=ht.e;have hl:=leafS_c t (by omega);have hf:=fits04_c t ht;refine sI Tryz.func44 Tryz.ntmps44 fun hbox htok=>?_
 repeat (first|simp|refine sR ?_)
 refine sN ?_;refine AL.loopT (stLfA t ns es most nb box) (fun x=>x.i≤t.nodes.length∧TK tok nt x.tok x.nt [x.own]) (fun x=>t.nodes.length - x.i) ⟨0,.full,tok,nt⟩ ⟨Nat.zero_le _,(TK.start htok).full⟩ (Weaks.mk (Nat.le_refl _) rfl (by simp [ToL,lk,lfN]) (by simp [BoxL,lk])) ?_;rintro ⟨i,own,tok',nt'⟩ S ⟨hi,htk⟩ hS;simp only [stLfA] at hS hi htk;subst hS;have hw:=sW (i:=i) (by omega);by_cases hlt:i<t.nodes.length
 ·have hs:=lfN_succ t i;have hln:=lfN_len t i;try (simp [hlt])
  repeat (first|(refine sR ?_; simp [hlt])|(refine sC ?_; simp [hlt])|(refine sX ?_; simp only [AU, ↓reduceIte]))
  refine Stop.of_d (hl i _ _) ?_;simp;cases e1:leafB t i
  ·simp only [e1,Bool.false_eq_true,if_false,List.append_nil] at hs;try (simp [hw])
   repeat (first|(refine sR ?_; simp [hw])|(refine sC ?_; simp [hw])|(refine sX ?_; simp only [AU, ↓reduceIte]))
   refine sE ?_;exact ⟨⟨i+1,_,_,_⟩,⟨hlt,htk⟩,by simp only; omega,Weaks.mk htk.le rfl (by simp [ToL,lk,hs]) (by simp [BoxL,lk])⟩
  ·simp only [e1,if_true] at hs;try (simp [hw])
   repeat (first|(refine sR ?_; simp [hw])|(refine sC ?_; simp [hw])|(refine sX ?_; simp only [AU, ↓reduceIte]))
   refine ⟨⟨by omega,htk.live⟩,?_⟩;try (simp [hw])
   repeat (first|(refine sR ?_; simp [hw])|(refine sC ?_; simp [hw])|(refine sX ?_; simp only [AU, ↓reduceIte]))
   refine sE ?_;exact ⟨⟨i+1,_,_,_⟩,⟨hlt,htk.app⟩,by simp only; omega,Weaks.mk htk.app.le rfl (by simp [ToL,lk,hs]) (by simp [BoxL,lk])⟩
 ·have:i=t.nodes.length:=by omega
  subst this;have hLd:lfN t t.nodes.length=lfs t:=rfl
  have hLn:=lfN_len t t.nodes.length;rw [hLd] at hLn ⊢;obtain ⟨R,hR⟩:∃ R,lgR t ns es most=R:=⟨_,rfl⟩
  rw [hR];unfold lgR at hR;generalize lfs t=L at *;try (simp)
  repeat (first|(refine sR ?_; simp)|(refine sC ?_; simp)|(refine sX ?_; simp only [AU, ↓reduceIte]))
  refine sN ?_;refine AL.loopT (stLfB t L ns es most nb box) (fun x=>x.i≤min ns.length most∧TK tok nt x.tok x.nt [x.own]) (fun x=>min ns.length most - x.i) ⟨0,.full,tok',nt'⟩ ⟨Nat.zero_le _,htk.tail.full⟩ (Weaks.mk htk.le rfl (by simp [ToL,lk]) (by simp [BoxL,lk,lgN])) ?_;rintro ⟨j,own2,tok2,nt2⟩ S ⟨hj,htk2⟩ hS;simp only [stLfB] at hS hj htk2;subst hS;have hwj:=sW (i:=j) (by omega);by_cases hlj:j<min ns.length most
  ·have g1:j<ns.length:=by omega
   have g2:j<most:=by omega
   have hs:=lgN_succ (L:=L) g1;have hln:=lgN_len L ns j;obtain ⟨n,hn⟩:∃ n,ns[j]=n:=⟨_,rfl⟩
   have hnr:=h8 _ (List.getElem_mem g1);rw [hn] at hs hnr;have e1:IntKind.i64.wrap n=n:=wrap_in (by omega) (by omega)
   have e2:n.tmod (L.length:Int)=n % (L.length:Int):=Int.tmod_eq_emod_of_nonneg hnr.1
   have e3:n % (L.length:Int)=((n.toNat % L.length:Nat):Int):=by rw [Int.natCast_emod,Int.toNat_of_nonneg hnr.1]
   have e4:n.toNat % L.length<L.length:=Nat.mod_lt _ hL
   have e5:L.getD (n.toNat % L.length) 0=L[n.toNat % L.length]:=by simp [e4]
   rw [e5] at hs;have e6:IntKind.i64.wrap ((n.toNat % L.length:Nat):Int)=((n.toNat % L.length:Nat):Int):=wrap_in (by omega) (by omega)
   generalize n.toNat % L.length=q at *;try (simp [g1,g2,hn,e1,e2,e3,e6,e4])
   repeat (first|(refine sR ?_; simp [g1,g2,hn,e1,e2,e3,e6,e4])|(refine sC ?_; simp [g1,g2,hn,e1,e2,e3,e6,e4])|(refine sX ?_; simp only [AU, ↓reduceIte]))
   refine ⟨fun h=>by rw [h] at hL; simp at hL,⟨by omega,htk2.live⟩,?_⟩;try (simp [hwj])
   repeat (first|(refine sR ?_; simp [hwj])|(refine sC ?_; simp [hwj])|(refine sX ?_; simp only [AU, ↓reduceIte]))
   refine sE ?_;exact ⟨⟨j+1,_,_,_⟩,⟨hlj,htk2.app⟩,by simp only; omega,Weaks.mk htk2.app.le rfl (by simp [ToL,lk]) (by simp [BoxL,lk,hs])⟩
  ·have hjm:j=min ns.length most:=by omega
   have hN:lgN L ns j=lgN L ns most:=by
    rw [hjm]; unfold lgN;rcases (by omega:ns.length≤most∨most≤ns.length) with h|h
    ·rw [Nat.min_eq_left h,List.take_length,List.take_of_length_le h]
    ·rw [Nat.min_eq_right h]
   have hNl:=lgN_len L ns j;rw [hN] at hNl ⊢;obtain ⟨g1,g2⟩:(¬ j<ns.length∨(j<ns.length∧¬ j<most))∧j≤1000:=by omega
   generalize lgN L ns most=N at *;have hNl2:N.length≤1000:=by omega
   rcases g1 with g1|⟨g1,g3⟩
   case' inl =>
    try (simp [g1])
    repeat (first|(refine sR ?_; simp [g1])|(refine sC ?_; simp [g1])|(refine sX ?_; simp only [AU, ↓reduceIte]))
   case' inr =>
    try (simp [g1,g3])
    repeat (first|(refine sR ?_; simp [g1,g3])|(refine sC ?_; simp [g1,g3])|(refine sX ?_; simp only [AU, ↓reduceIte]))
   all_goals
    refine sN ?_;refine AL.loopT (stLfC t N es nb box) (fun x=>x.i≤lgJ t N es∧TK tok nt x.tok x.nt [x.own]) (fun x=>lgJ t N es - x.i) ⟨0,.full,tok2,nt2⟩ ⟨Nat.zero_le _,htk2.tail.full⟩ (Weaks.mk htk2.le rfl (by simp [ToL,lk]) (by simp [BoxL,lk,lgE])) ?_;rintro ⟨k,own3,tok3,nt3⟩ S ⟨hk,htk3⟩ hS;simp only [stLfC] at hS hk htk3;subst hS;have hJ:lgJ t N es≤8:=by unfold lgJ; split <;> omega
    have hwk:=sW (i:=k) (by omega);by_cases hlk:k<lgJ t N es
    ·have hJ2:lgJ t N es=min es.length 8∧0<N.length∧0<t.edges.length:=by
      unfold lgJ at hlk ⊢;split at hlk
      ·rename_i h; rw [if_pos h]; exact ⟨rfl,h⟩
      ·omega
     obtain ⟨hJ3,n0,t0⟩:=hJ2;have g4:k<es.length:=by omega
     have g5:(k:Int)<8:=by omega
     have hs:=lgE_succ (t:=t) (N:=N) g4;have hle:=lgE_len t N es k;obtain ⟨x,hx⟩:∃ x,es[k]=x:=⟨_,rfl⟩
     obtain ⟨⟨r1,r2⟩,⟨r3,r4⟩,r5,r6⟩:=h83 _ (List.getElem_mem g4);rw [hx] at hs r1 r2 r3 r4 r5 r6;have e1:IntKind.i64.wrap x.1=x.1:=wrap_in (by omega) (by omega)
     have e2:IntKind.i64.wrap x.2.1=x.2.1:=wrap_in (by omega) (by omega)
     have e3:IntKind.i64.wrap x.2.2=x.2.2:=wrap_in (by omega) (by omega)
     have m1:x.1.tmod (t.edges.length:Int)=x.1 % (t.edges.length:Int):=Int.tmod_eq_emod_of_nonneg r1
     have m2:x.2.1.tmod (N.length:Int)=x.2.1 % (N.length:Int):=Int.tmod_eq_emod_of_nonneg r3
     have m3:x.2.2.tmod (N.length:Int)=x.2.2 % (N.length:Int):=Int.tmod_eq_emod_of_nonneg r5
     have q1:=Int.emod_nonneg x.1 (b:=(t.edges.length:Int)) (by omega);have q2:=Int.emod_lt_of_pos x.1 (b:=(t.edges.length:Int)) (by omega);have q3:=Int.emod_nonneg x.2.1 (b:=(N.length:Int)) (by omega);have q4:=Int.emod_lt_of_pos x.2.1 (b:=(N.length:Int)) (by omega);have q5:=Int.emod_nonneg x.2.2 (b:=(N.length:Int)) (by omega);have q6:=Int.emod_lt_of_pos x.2.2 (b:=(N.length:Int)) (by omega);obtain ⟨y,hy⟩:∃ y,lgX t.edges.length N x=y:=⟨_,rfl⟩
     have y1:x.1 % (t.edges.length:Int)=y.ty:=by rw [←hy]; rfl
     have y2:x.2.1 % (N.length:Int)=y.fr:=by rw [←hy]; rfl
     have y3:x.2.2 % (N.length:Int)=y.to:=by rw [←hy]; rfl
     rw [y1] at q1 q2 m1;rw [y2] at q3 q4 m2;rw [y3] at q5 q6 m3;rw [hy] at hs;have w1:IntKind.i64.wrap y.ty=y.ty:=wrap_in (by omega) (by omega)
     have w2:IntKind.i64.wrap y.fr=y.fr:=wrap_in (by omega) (by omega)
     have w3:IntKind.i64.wrap y.to=y.to:=wrap_in (by omega) (by omega)
     have ne1:N≠[]:=fun h=>by rw [h] at n0; simp at n0
     have ne2:t.edges≠[]:=fun h=>by rw [h] at t0; simp at t0
     have u1:y.fr.toNat<N.length:=by omega
     have u2:y.to.toNat<N.length:=by omega
     have hok:lgOk t N y=fitB t y.ty N[y.fr.toNat] N[y.to.toNat]:=by unfold lgOk; simp [u1,u2]
     have hf:=hf y.ty N[y.fr.toNat] N[y.to.toNat];rw [hok] at hs;try (simp [g4,g5,n0,t0,hx,e1,e2,e3,m1,m2,m3,w1,w2,w3,ne1,ne2,u1,u2,q3,q4,q5,q6])
     repeat (first|(refine sR ?_; simp [g4,g5,n0,t0,hx,e1,e2,e3,m1,m2,m3,w1,w2,w3,ne1,ne2,u1,u2,q3,q4,q5,q6])|(refine sC ?_; simp [g4,g5,n0,t0,hx,e1,e2,e3,m1,m2,m3,w1,w2,w3,ne1,ne2,u1,u2,q3,q4,q5,q6])|(refine sX ?_; simp only [AU, ↓reduceIte]))
     refine Stop.of_d (hf _ _) ?_;simp;cases ef:fitB t y.ty N[y.fr.toNat] N[y.to.toNat]
     ·simp only [ef,Bool.false_eq_true,if_false,List.append_nil] at hs;try (simp [hwk])
      repeat (first|(refine sR ?_; simp [hwk])|(refine sC ?_; simp [hwk])|(refine sX ?_; simp only [AU, ↓reduceIte]))
      refine sE ?_;exact ⟨⟨k+1,_,_,_⟩,⟨hlk,htk3⟩,by simp only; omega,Weaks.mk htk3.le rfl (by simp [ToL,lk]) (by simp [BoxL,lk,hs])⟩
     ·simp only [ef,if_true] at hs;try (simp [hwk])
      repeat (first|(refine sR ?_; simp [hwk])|(refine sC ?_; simp [hwk])|(refine sX ?_; simp only [AU, ↓reduceIte]))
      refine ⟨⟨by omega,htk3.live⟩,?_⟩;try (simp [hwk])
      repeat (first|(refine sR ?_; simp [hwk])|(refine sC ?_; simp [hwk])|(refine sX ?_; simp only [AU, ↓reduceIte]))
      refine sE ?_;exact ⟨⟨k+1,_,_,_⟩,⟨hlk,htk3.app⟩,by simp only; omega,Weaks.mk htk3.app.le rfl (by simp [ToL,lk]) (by simp [BoxL,lk,hs])⟩
    ·have hkm:k=lgJ t N es:=by omega
     have hR2:R=⟨N,lgE t N es k⟩:=by rw [hkm,←hR]
     have hcs:¬ k<es.length∨(k<es.length∧¬ (k:Int)<8)∨(k<es.length∧(k:Int)<8∧¬ 0<N.length)∨(k<es.length∧(k:Int)<8∧0<N.length∧¬ 0<t.edges.length):=by
      unfold lgJ at hkm;split at hkm <;> omega
     rw [hR2];generalize lgE t N es k=ED at *;rcases hcs with h1|⟨h1,h2⟩|⟨h1,h2,h3⟩|⟨h1,h2,h3,h4⟩
     case' inl =>
      try (simp [h1])
      repeat (first|(refine sR ?_; simp [h1])|(refine sC ?_; simp [h1])|(refine sX ?_; simp only [AU, ↓reduceIte]))
     case' inr.inl =>
      try (simp [h1,h2])
      repeat (first|(refine sR ?_; simp [h1,h2])|(refine sC ?_; simp [h1,h2])|(refine sX ?_; simp only [AU, ↓reduceIte]))
     case' inr.inr.inl =>
      have h5:N=[]:=List.length_eq_zero_iff.1 (by omega)
      subst h5;try (simp [h1,h2])
      repeat (first|(refine sR ?_; simp [h1,h2])|(refine sC ?_; simp [h1,h2])|(refine sX ?_; simp only [AU, ↓reduceIte]))
     case' inr.inr.inr =>
      have h5:t.edges=[]:=List.length_eq_zero_iff.1 (by omega)
      have h6:¬ N=[]:=fun h=>by rw [h] at h3; simp at h3
      try (simp [h1,h2,h3,h5,h6])
      repeat (first|(refine sR ?_; simp [h1,h2,h3,h5,h6])|(refine sC ?_; simp [h1,h2,h3,h5,h6])|(refine sX ?_; simp only [AU, ↓reduceIte]))
     all_goals
      refine sT (sG hbox htok htk3.old htk3.le ?_);simp [packA, ]
def stKrm (T:Ty) (c:Int) (k:Nat) (nb:Nat) (box:Bxs) (tok:Tks) (nt:Nat) (i:Nat):AState :=
 ⟨tl [(5,I i),(1,I c),(2,.ptr (nb+2) 0 0)],lb nb box [(2,[[.msl k 0 T.nodes.length 4,.d (ets T.edges)]])],tok,nt⟩
theorem leafSm_c (T:Ty) (ht:T.nodes.length≤1000000) (c:Int) (box0:Bxs) (k:Nat) (R0:List (List AV)) (hk0:box0 k=some (rowsD (T.nodes.map NT.cells)++R0)) (tok:Tks) (nt:Nat):RCall Tryz.prog 43 [.agg [.msl k 0 T.nodes.length 4,.d (ets T.edges)],I c] box0 tok nt (B (leafB T c)) tok nt:=by
 intro box nb he;have hk:=he _ _ hk0;obtain ⟨N,hN⟩:∃ N,leafB T c=N:=⟨_,rfl⟩
 rw [hN];have hN2:allP (fun n=>!(n.par==c)) T.nodes=N:=by rw [←hN,allP,leafB,anyB,List.any_eq_not_all_not,Bool.not_not]
 clear hN;refine sI Tryz.func43 Tryz.ntmps43 fun hbox htok=>?_
 have hkn:=key_lt hbox hk;repeat (first|simp|refine sR ?_)
 refine sN ?_;refine AL.loopT (stKrm T c k nb box tok nt) (fun i=>i≤T.nodes.length∧allP (fun n=>!(n.par==c)) (T.nodes.take i)=true) (fun i=>T.nodes.length - i) 0 ⟨Nat.zero_le _,by simp [allP]⟩ (Weaks.mk (Nat.le_refl _) rfl (by simp [ToL,lk,lb_at]) (by simp [BoxL,lk]; exact .same (.msl (by rw [lb_out hkn,hk]; simp)))) ?_;rintro i S' ⟨hi,hok⟩ hS;simp only [stKrm] at hS;subst hS;have hw:=sW (i:=i) (by omega);repeat (first|simp|refine sR ?_|refine sC ?_)
 refine ⟨fun hlt=>?_,fun hge=>?_⟩
 ·have hno:=fun h=>all_no (p:=fun n:NT=>!(n.par==c)) hlt h
  have hyes:=fun h=>all_more (p:=fun n:NT=>!(n.par==c)) hlt hok h
  have hrow:(rowsD (T.nodes.map NT.cells)++R0)[i]?=some [Sb T.nodes[i].name,I T.nodes[i].par,B T.nodes[i].abs,.d (atts T.nodes[i].own)]:=by
   rw [List.getElem?_append_left (by simpa [rowsD] using hlt)];simp [rowsD,hlt]
  cases e1:T.nodes[i].par==c
  ·repeat (first|simp [hlt,e1,lb_out hkn,hk,hrow]|refine sR ?_)
   refine sC ?_;simp [e1];repeat (first|simp [hw]|refine sR ?_)
   refine sE ?_;exact ⟨i+1,⟨hlt,hyes (by simp only [e1]; rfl)⟩,by omega,Weaks.mk (Nat.le_refl _) rfl (by simp [ToL,lk,lb_at]) (by simp [BoxL,lk]; exact .same (.msl (by rw [lb_out hkn,hk]; simp)))⟩
  ·rw [hno (by simp only [e1]; rfl)] at hN2;repeat (first|simp [hlt,e1,lb_out hkn,hk,hrow]|refine sR ?_)
   refine sC ?_;simp [e1];repeat (first|simp|refine sR ?_)
   refine sT (sH hbox htok ?_);simp [packA,←hN2]
 ·refine sX ?_;simp only [AU, ↓reduceIte];have:i=T.nodes.length:=by omega
  subst this;rw [List.take_length] at hok;rw [hok] at hN2;repeat (first|simp|refine sR ?_)
  refine sT (sH hbox htok ?_);simp [packA,←hN2]
abbrev blB (l:List Bool):D:=.sl 1 (l.map fun b=>[D.raw (.bool b)])
def isRow (t:Ty) (a:Nat):List Bool:=(List.range t.nodes.length).map fun (b:Nat)=>isB t (b:Int) (a:Int)
def isTb (t:Ty):List (List Bool):=(List.range t.nodes.length).map (isRow t)
def isD (t:Ty):D:=.sl 1 ((isTb t).map fun r=>[blB r])
def ptD (nl:Bool) (l:List Int):D:=if nl=true then .raw nilV else ints l
structure Sr.Nl (s:Sr) (nl:Bool):Prop where
 n:nl=true→∀ x∈s.pt.nodes,x = -1
 e:nl=true→∀ x∈s.pt.edges,x = -1
def Sr.rowD (s:Sr) (nl:Bool) (fm:Nat) (N E:List Int) (out:List Mo):List D :=
 [ints s.p.nodes,AM.edges s.p.edges,ints s.g.nodes,AM.edges s.g.edges,isD s.t,ptD nl s.pt.nodes,ptD nl s.pt.edges,.raw (.bool s.inj),.raw (.int .i64 fm),ints N,ints E,.sl 2 (mosR out)]
abbrev Sr.rowF (s:Sr) (nl:Bool) (fm:Nat) (N:List Int) (a:Nat) (E:List Int) (b:Nat) (out:List Mo) (own:Own):List AV :=
 [.d (ints s.p.nodes),.d (AM.edges s.p.edges),.d (ints s.g.nodes),.d (AM.edges s.g.edges),.d (isD s.t),.d (ptD nl s.pt.nodes),.d (ptD nl s.pt.edges),B s.inj,I fm,.stk a 1 (rI N),.stk b 1 (rI E),.osl 2 (mosR out) own]
theorem Sr.row_cds {s:Sr} {nl:Bool} {fm:Nat} {N:List Int} {a:Nat} {E:List Int} {b:Nat} {out:List Mo} {own:Own} {tok:Nat→Bool} (ha:tok a=true) (hb:tok b=true):CellDs tok (s.rowF nl fm N a E b out own) (s.rowD nl fm N E out) :=
 ⟨.d,.d,.d,.d,.d,.d,.d,.d,.d,.stk ha,.stk hb,.osl,trivial⟩
def gvI (nl:Bool) (l:List Int) (i:Nat):Int:=if nl=true then -1 else l.getD i 0
theorem gvB_gvI {nl:Bool} {l:List Int} {i:Nat} (h:nl=true→∀ x∈l,x = -1) (hi:i<l.length) (k:Nat):gvB l i k=if 0≤gvI nl l i then decide (gvI nl l i=(k:Int)) else true:=by
 unfold gvB gvI;cases nl
 ·simp
 ·have:l.getD i 0 = -1:=by
   have:=h rfl _ (List.getElem_mem hi)
   simp [hi,this]
  rw [this];simp
theorem givenF_c (nl:Bool) (l:List Int) (i:Nat) (hi:i<l.length) (hl:l.length≤1000000) (tok:Tks) (nt:Nat):DCall Tryz.prog 305 [.d (ptD nl l),I i] tok nt (I (gvI nl l i)) tok nt:=by
 intro box nb;cases nl
 ·refine sI Tryz.func305 Tryz.ntmps305 fun hbox htok=>?_
  simp only [ptD,Bool.false_eq_true,if_false];repeat (first|simp [hi]|refine sR ?_)
  refine ⟨?_,fun h=>by rw [h] at hi; simp at hi⟩;try (simp [hi])
  repeat (first|(refine sR ?_; simp [hi])|(refine sC ?_; simp [hi])|(refine sX ?_; simp only [AU, ↓reduceIte]))
  refine sT (sH hbox htok ?_);simp [packA,gvI,hi]
 ·refine sI Tryz.func305 Tryz.ntmps305 fun hbox htok=>?_
  simp only [ptD,if_true];try (simp)
  repeat (first|(refine sR ?_; simp)|(refine sC ?_; simp)|(refine sX ?_; simp only [AU, ↓reduceIte]))
  refine sT (sH hbox htok ?_);simp [packA,gvI]
theorem E.dec3 (e:E) (a b c:Int):decide (e=⟨a,b,c⟩)=(decide (e.ty=a)&&(decide (e.fr=b)&&decide (e.to=c))):=by
 cases e;simp
theorem fitsF_c (s:Sr) (h:s.Ok) (nl:Bool) (hnl:s.Nl nl) (fm:Nat) (N E:List Int) (out:List Mo) (i k:Nat) (hi:i<s.p.edges.length) (hk:k<s.g.edges.length)
  (hf:(s.p.edges.getD i default).fr<N.length) (ht:(s.p.edges.getD i default).to<N.length) (tok:Tks) (nt:Nat) :
  DCall Tryz.prog 307 [.cptr (s.rowD nl fm N E out) 0,I i,I k] tok nt (B (s.fitK N i k)) tok nt:=by
 intro box nb;have hpe:=h.p.e;have hpl:i<s.pt.edges.length:=by rw [h.pe]; exact hi
 have hg:=givenF_c nl s.pt.edges i hpl (by rw [h.pe]; omega);have hgv:=gvB_gvI hnl.e hpl k;obtain ⟨x1,x2,x3,x4⟩:=h.vp _ (List.getElem_mem hi);have hgd:s.p.edges.getD i default=s.p.edges[i]:=by simp [hi]
 rw [hgd] at hf ht;have y1:s.p.edges[i].fr.toNat<N.length:=by omega
 have y2:s.p.edges[i].to.toNat<N.length:=by omega
 have hwx:wantX s.p N i=⟨s.p.edges[i].ty,N[s.p.edges[i].fr.toNat],N[s.p.edges[i].to.toNat]⟩:=by simp [wantX,hi,y1,y2]
 have hgi:s.g.edges.getD k default=s.g.edges[k]:=by simp [hk]
 obtain ⟨R,hR⟩:∃ R,s.fitK N i k=R:=⟨_,rfl⟩
 rw [hR];unfold Sr.fitK at hR;rw [hgv,hwx,hgi] at hR;generalize gvI nl s.pt.edges i=W at *;refine sI Tryz.func307 Tryz.ntmps307 fun hbox htok=>?_
 repeat (first|simp [Sr.rowD,hi]|refine sR ?_)
 refine Stop.of_d (hg _ _) ?_;simp;by_cases p01:0≤W∧W≠(k:Int)
 ·obtain ⟨p0,p1⟩:=p01;have b1:(W != (k:Int))=true:=by simp [p1]
  rw [if_pos p0,if_neg (by simp [p1])] at hR;try (simp [p0,b1])
  repeat (first|(refine sR ?_; simp [p0,b1])|(refine sC ?_; simp [p0,b1])|(refine sX ?_; simp only [AU, ↓reduceIte]))
  refine sT (sH hbox htok ?_);simp [packA,←hR]
 ·have hW:(if 0≤W then decide (W=(k:Int)) else true)=true:=by
   by_cases p0:0≤W
   ·rw [if_pos p0];by_cases p1:W=(k:Int)
    ·simp [p1]
    ·exact absurd ⟨p0,p1⟩ p01
   ·rw [if_neg p0]
  rw [if_pos hW,_root_.Go.AM.E.dec3] at hR;have hst:∀ Q,(0≤W→(W != (k:Int))=false→Q)→(¬ 0≤W→Q)→Q:=by
   intro Q h1 h2;by_cases p0:0≤W
   ·refine h1 p0 ?_;by_cases p1:W=(k:Int)
    ·simp [p1]
    ·exact absurd ⟨p0,p1⟩ p01
   ·exact h2 p0
  refine hst _ (fun p0 b1=>?_) (fun p0=>?_)
  ·try (simp [p0,b1,hk,x1,x3,y1,y2,hf,ht,Sr.rowD])
   repeat (first|(refine sR ?_; simp [p0,b1,hk,x1,x3,y1,y2,hf,ht,Sr.rowD])|(refine sC ?_; simp [p0,b1,hk,x1,x3,y1,y2,hf,ht,Sr.rowD])|(refine sX ?_; simp only [AU, ↓reduceIte]))
   refine sT (sH hbox htok ?_);simp [packA,←hR]
  ·try (simp [p0,hk,x1,x3,y1,y2,hf,ht,Sr.rowD])
   repeat (first|(refine sR ?_; simp [p0,hk,x1,x3,y1,y2,hf,ht,Sr.rowD])|(refine sC ?_; simp [p0,hk,x1,x3,y1,y2,hf,ht,Sr.rowD])|(refine sX ?_; simp only [AU, ↓reduceIte]))
   refine sT (sH hbox htok ?_);simp [packA,←hR]
def stPo1 (s:Sr) (nl:Bool) (fm:Nat) (N E:List Int) (out:List Mo) (nb:Nat) (box:Bxs) (tok:Tks) (nt:Nat) (i:Nat):AState :=
 ⟨tl [(20,I i),(19,I s.p.edges.length),(18,.d (AM.edges s.p.edges)),(3,I ((N.length:Int) - 1)),(0,.cptr (s.rowD nl fm N E out) 0)],lb nb box [],tok,nt⟩
def stPo2 (s:Sr) (nl:Bool) (fm:Nat) (N E:List Int) (out:List Mo) (nb:Nat) (box:Bxs) (tok:Tks) (nt:Nat) (i:Nat) (q:Nat):AState :=
 ⟨tl [(38,I q),(37,I s.g.edges.length),(6,B false),(5,.ptr (nb+5) 0 0),(4,I i),(20,I i),(19,I s.p.edges.length),(18,.d (AM.edges s.p.edges)),(3,I ((N.length:Int) - 1)),(0,.cptr (s.rowD nl fm N E out) 0)],
  lb nb box [(5,[[I (s.p.edges.getD i default).ty,I (s.p.edges.getD i default).fr,I (s.p.edges.getD i default).to]])],tok,nt⟩
theorem possibleF_c (s:Sr) (h:s.Ok) (nl:Bool) (hnl:s.Nl nl) (fm:Nat) (N E:List Int) (hN:N.length≤s.p.nodes.length) (out:List Mo) (tok:Tks) (nt:Nat) :
  DCall Tryz.prog 306 [.cptr (s.rowD nl fm N E out) 0] tok nt (B (s.pos N)) tok nt:=by
 intro box nb;have hpe:=h.p.e;have hpn:=h.p.n;have hge:=h.g.e;have hw0:IntKind.i64.wrap (↑N.length - 1)=(N.length:Int) - 1:=wrap_in (by omega) (by omega)
 have hfit:=fun i k hi hk hf ht=>fitsF_c s h nl hnl fm N E out i k hi hk hf ht
 obtain ⟨R,hR⟩:∃ R,s.pos N=R:=⟨_,rfl⟩
 rw [hR];refine sI Tryz.func306 Tryz.ntmps306 fun hbox htok=>?_
 repeat (first|simp [Sr.rowD,hw0]|refine sR ?_)
 refine sN ?_;refine AL.loopT (stPo1 s nl fm N E out nb box tok nt) (fun i=>i≤s.p.edges.length∧∀ j,j<i→s.posE N j=true) (fun i=>s.p.edges.length - i) 0 ⟨Nat.zero_le _,fun j hj=>absurd hj (Nat.not_lt_zero _)⟩ (Weaks.mk (Nat.le_refl _) rfl (by simp [ToL,lk,Sr.rowD]) (by simp [BoxL,lk])) ?_;rintro i S' ⟨hi,hall⟩ hS;simp only [stPo1] at hS;subst hS;have hw:=sW (i:=i) (by omega);by_cases hlt:i<s.p.edges.length
 ·have hgd:s.p.edges.getD i default=s.p.edges[i]:=by simp [hlt]
  have hfit:=fun k hk=>hfit i k hlt hk
  obtain ⟨x1,x2,x3,x4⟩:=h.vp _ (List.getElem_mem hlt);by_cases hmx:max s.p.edges[i].fr s.p.edges[i].to=(N.length:Int) - 1
  ·have b1:(max s.p.edges[i].fr s.p.edges[i].to != (N.length:Int) - 1)=false:=by simp [hmx]
   have hpe0:s.posE N i=(List.range s.g.edges.length).any (s.fitK N i):=by unfold Sr.posE; rw [hgd,if_pos hmx]
   have hfit:=fun k hk=>hfit k hk (by rw [hgd]; omega) (by rw [hgd]; omega)
   try (simp [hlt,b1,Sr.rowD])
   repeat (first|(refine sR ?_; simp [hlt,b1,Sr.rowD])|(refine sC ?_; simp [hlt,b1,Sr.rowD])|(refine sX ?_; simp only [AU, ↓reduceIte]))
   refine sN ?_;refine AL.loopT (stPo2 s nl fm N E out nb box tok nt i) (fun q=>q≤s.g.edges.length∧∀ j,j<q→s.fitK N i j=false) (fun q=>s.g.edges.length - q) 0 ⟨Nat.zero_le _,fun j hj=>absurd hj (Nat.not_lt_zero _)⟩ (Weaks.mk (Nat.le_refl _) rfl (by simp [ToL,lk,hlt,Sr.rowD]) (by simp [BoxL,lk,hlt])) ?_;rintro q S' ⟨hq0,hno⟩ hS;simp only [stPo2] at hS;subst hS;have hwq:=sW (i:=q) (by omega);by_cases hq:q<s.g.edges.length
   ·have hc:=hfit q hq;try (simp [hq])
    repeat (first|(refine sR ?_; simp [hq])|(refine sC ?_; simp [hq])|(refine sX ?_; simp only [AU, ↓reduceIte]))
    refine Stop.of_d (hc _ _) ?_;cases e:s.fitK N i q
    ·try (simp [hwq])
     repeat (first|(refine sR ?_; simp [hwq])|(refine sC ?_; simp [hwq])|(refine sX ?_; simp only [AU, ↓reduceIte]))
     refine sE ?_;exact ⟨q+1,⟨hq,fun j hj=>(Nat.lt_or_ge j q).elim (hno j) fun hh=>by rw [show j=q by omega]; exact e⟩,by omega,Weaks.mk (Nat.le_refl _) rfl (by simp [ToL,lk,hlt]) (by simp [BoxL,lk,hlt])⟩
    ·have hp:s.posE N i=true:=by
      rw [hpe0,List.any_eq_true];exact ⟨q,List.mem_range.2 hq,e⟩
     try (simp [hw])
     repeat (first|(refine sR ?_; simp [hw])|(refine sC ?_; simp [hw])|(refine sX ?_; simp only [AU, ↓reduceIte]))
     refine sE ?_;exact ⟨i+1,⟨hlt,fun j hj=>(Nat.lt_or_ge j i).elim (hall j) fun hh=>by rw [show j=i by omega]; exact hp⟩,by omega,wkA⟩
   ·have:q=s.g.edges.length:=by omega
    subst this;have hp:s.posE N i=false:=by
     rw [hpe0,List.any_eq_false];exact fun j hj=>by simp [hno j (List.mem_range.1 hj)]
    rw [Sr.pos_false hlt hp] at hR;try (simp)
    repeat (first|(refine sR ?_; simp)|(refine sC ?_; simp)|(refine sX ?_; simp only [AU, ↓reduceIte]))
    refine sT (sH hbox htok ?_);simp [packA,←hR]
  ·have b1:(max s.p.edges[i].fr s.p.edges[i].to != (N.length:Int) - 1)=true:=by simp [hmx]
   have hp:s.posE N i=true:=by unfold Sr.posE; rw [hgd,if_neg hmx]
   try (simp [hlt,b1,hw])
   repeat (first|(refine sR ?_; simp [hlt,b1,hw])|(refine sC ?_; simp [hlt,b1,hw])|(refine sX ?_; simp only [AU, ↓reduceIte]))
   refine sE ?_;exact ⟨i+1,⟨hlt,fun j hj=>(Nat.lt_or_ge j i).elim (hall j) fun hh=>by rw [show j=i by omega]; exact hp⟩,by omega,wkA⟩
 ·have:i=s.p.edges.length:=by omega
  subst this;rw [Sr.pos_true hall] at hR;try (simp)
  repeat (first|(refine sR ?_; simp)|(refine sC ?_; simp)|(refine sX ?_; simp only [AU, ↓reduceIte]))
  refine sT (sH hbox htok ?_);simp [packA,←hR]
def QFd (s:Sr) (nl:Bool) (fm:Nat) (box:Bxs) (nb k:Nat) (mtok:Tks) (nt0 nt:Nat) (N E:List Int) (R:List Mo) (v:AV) (m:AMem):Prop :=
 v=.tup []∧∃ a b own tok nt',m=⟨upd box k (some [s.rowF nl fm N a E b R own]),nb,tok,nt'⟩∧TK mtok nt0 tok nt' [.tok a,.tok b,own]∧nt≤nt'
theorem outFd {s:Sr} {nl:Bool} {fm:Nat} {N E:List Int} {a b:Nat} {out:List Mo} {own:Own} {box:Bxs} {k base:Nat} {p q:Nat→Prop} (hq:q=fun _=>True):∀ k' rows,k'<base→(upd box k (some [s.rowF nl fm N a E b out own])) k'=some rows→box k'=some rows∨∀ r∈rows,∀ x∈r,OkIn p q x:=by
 subst hq;intro k' rows hk' hr;by_cases e:k'=k
 ·subst e;rw [upd_same] at hr;cases hr;exact .inr (by simp)
 ·rw [upd_other _ _ e] at hr;exact .inl hr
theorem flat_ints {c:Addr→Option Value} {ps:Addr→Prop} {xs:List Int} {vs:List Value} (h:FlatV c ps 1 (rI xs) vs):∀ j,j<xs.length→vs[j]?=some (.int .i64 (xs.getD j 0)):=by
 intro j hj;have hj':j<(rI xs).length:=by simpa using hj
 obtain ⟨u,h1,h2⟩:=h.read j 0 hj' (by simp);rw [Nat.mul_one,Nat.add_zero] at h1;have e:(rI xs)[j][0]'(by simp)=D.raw (.int .i64 xs[j]):=by simp
 rw [e] at h2;cases h2;rw [h1];simp [hj]
theorem cloneS_c (xs:List Int) (hx:xs.length≤1000000) (t:Nat) (tok:Tks) (nt:Nat) (ht:tok t=true):DCall Tryz.prog 126 [.stk t 1 (rI xs)] tok nt (.d (ints xs)) tok nt:=by
 intro box nb;refine ⟨Enters.mk Tryz.func126 rfl (by kernel_rfl),fun G w vals hm hr=>?_⟩;obtain ⟨hlen,hrv⟩:=hr
 match vals,hlen with
 | [v],_ =>
  have h0:=hrv 0 (by simp) (by simp);simp only [List.getElem_cons_zero] at h0;cases h0 with|stk h0 =>
  obtain ⟨h1,A,cap,rfl,hcap,hmax,h2⟩:=h0;obtain ⟨_,x,hx2⟩:=hm.toks t ht;have h3:=h2 x hx2;have hl:(rI xs).length=xs.length:=by simp
  rw [hl] at hcap ⊢;cases A with
  | none =>
   have he:xs=[]:=by
    cases x with
    | none=>exact List.length_eq_zero_iff.1 (by simp only at h3; omega)
    | some g=>cases h3.1
   subst he;refine (Tryz.slices_Clone_int_nil _ cap w).mono ?_;rintro e w' ⟨rfl,rfl⟩;exact ⟨_,_,_,G,rfl,⟨rfl,rfl⟩,rfl,hm,.d (.sl (es:=[]) (fun _ _=>default) (Nat.le_refl _) (by decide) (by simp) (by simp) (by simp) (by simp)),Le.refl _ _,fun k hk=>⟨hk,rfl⟩⟩
  | some a =>
   by_cases e:xs=[]
   ·subst e;refine (Tryz.slices_Clone_int_zero a cap w).mono ?_;rintro e w' ⟨v,rfl,hown,hnn,hb⟩;exact ⟨v,_,_,G,rfl,⟨rfl,rfl⟩,rfl,relM_below hm hb,.d (rvd_owns hm hown),le_below hm hb,fun k hk=>⟨hk,rfl⟩⟩
   ·have hne:xs.length≠0:=fun h=>e (List.length_eq_zero_iff.1 h)
    cases x with
    | none=>simp only at h3; omega
    | some g =>
     obtain ⟨hA,vs,sp,et,hg,hh,hln,hfl,_⟩:=h3;cases hA;have hc:∀ j,j<xs.length→w.cell? ⟨g,0+j,none⟩=some (.int .i64 (xs.getD j 0)):=by
      intro j hj;have:=flat_ints hfl j hj
      rw [Nat.zero_add,cell_of_row w g _ _ et (0,0) hh];have hj2:j<vs.length:=by rw [hfl.len]; simpa using hj
      simp only [List.getElem?_toArray,List.getElem?_append_left hj2];exact this
     have:=Tryz.slices_Clone_int g 0 xs.length cap xs w (Nat.le_refl _) (by omega) hc
     rw [List.take_length] at this;refine this.mono ?_;rintro e w' ⟨v,rfl,hown,hnn,hb⟩;exact ⟨v,_,_,G,rfl,⟨rfl,rfl⟩,rfl,relM_below hm hb,.d (rvd_owns hm hown),le_below hm hb,fun k hk=>⟨hk,rfl⟩⟩
structure AccK where
 i:Nat
 out:List Mo
 a:Nat
 b:Nat
 own:Own
 tok:Nat→Bool
 nt:Nat
def Sr.stEp (s:Sr) (fm:Nat) (N E:List Int) (n:Nat) (out:List Mo) (k:Nat):List Mo:=if s.okE N E k=true then fndE fm (s.okE N) s.g.edges.length N n (E++[(k:Int)]) out else out
def stFdE (s:Sr) (nl:Bool) (fm:Nat) (N E:List Int) (nb k:Nat) (box:Bxs) (x:AccK):AState :=
 ⟨tl [(164,I x.i),(163,I s.g.edges.length),(162,.d (AM.edges s.g.edges)),(6,I E.length),(0,.ptr k 0 0)],lb nb (upd box k (some [s.rowF nl fm N x.a E x.b x.out x.own])) [],x.tok,x.nt⟩
theorem rI_cut (E:List Int) (v:Int):List.take E.length (rI (E++[v]))=rI E:=by
 unfold rI;rw [List.map_append,List.take_append_of_le_length (by simp),List.take_of_length_le (by simp)]
set_option maxRecDepth 100000 in
theorem findE_c (s:Sr) (h:s.Ok) (nl:Bool) (hnl:s.Nl nl) (fm:Nat) (hfm:fm≤1000000) (N:List Int) (hN:N.length=s.p.nodes.length) (mtok:Tks) (nt0:Nat):∀ (n:Nat) (E:List Int) (out:List Mo) (a b:Nat) (own:Own) (box:Bxs) (nb k:Nat) (tok:Tks) (nt:Nat),E.length+n=s.p.edges.length→out.length≤fm →
  box k=some [s.rowF nl fm N a E b out own]→TK mtok nt0 tok nt [.tok a,.tok b,own]→ACalls Tryz.prog 286 [.ptr k 0 0] ⟨box,nb,tok,nt⟩ (QFd s nl fm box nb k mtok nt0 nt N E (fndE fm (s.okE N) s.g.edges.length N n E out)):=by
 have hpn:=h.p.n;have hpe:=h.p.e;have hgn:=h.g.n;have hge:=h.g.e;intro n;induction n with
 | zero =>
  intro E out a b own box nb k tok nt hE ho hk htk;have hself:box=upd box k (some [s.rowF nl fm N a E b out own]):=(upd_self box k _ hk).symm
  refine sI Tryz.func286 Tryz.ntmps286 fun hbox htok=>?_
  have hkn:=key_lt hbox hk;have hEl:E.length=s.p.edges.length:=by omega
  repeat (first|simp [lb_out hkn,hk]|refine sR ?_)
  by_cases hbig:out.length=fm
  ·have b1:((out.length:Int)==(fm:Int))=true:=by simp [hbig]
   try (simp [lb_out hkn,hk,b1])
   repeat (first|(refine sR ?_; simp [lb_out hkn,hk,b1])|(refine sC ?_; simp [lb_out hkn,hk,b1])|(refine sX ?_; simp only [AU, ↓reduceIte]))
   refine sN ?_;refine sE ?_;refine ⟨by simp,(Fin.own (vs:=[]) (av:=.tup []) (by simp [resAs,resA]) hbox rfl (Nat.le_refl _) (by simp [packA])).mono fun v m hq=>⟨hq.1,a,b,own,tok,nt,?_,htk,Nat.le_refl _⟩⟩;rw [hq.2,fndE,if_pos hbig,←hself]
  ·have b1:((out.length:Int)==(fm:Int))=false:=by simp; omega
   have hta:tok a=true:=htk.live
   have htb:tok b=true:=htk.swap.live
   try (simp [lb_out hkn,hk,b1,hN,hEl])
   repeat (first|(refine sR ?_; simp [lb_out hkn,hk,b1,hN,hEl])|(refine sC ?_; simp [lb_out hkn,hk,b1,hN,hEl])|(refine sX ?_; simp only [AU, ↓reduceIte]))
   refine Stop.of_d (cloneS_c N (by omega) a _ _ hta) ?_;simp [lb_out hkn,hk];refine Stop.of_d (cloneS_c E (by omega) b _ _ htb) ?_;simp [lb_out hkn,hk];refine ⟨⟨by omega,htk.pick3.live⟩,?_⟩;simp only [upd_lb_out hkn];refine sN ?_;refine sE ?_;have htk2:=htk.pick3.app.put3;refine ⟨by simp,(Fin.gen (vs:=[]) (av:=.tup []) (tok':=upd (own.kill tok) nt true) (nt':=nt+1) (by simp [resAs,resA]) ?_ (by omega) (Nat.le_refl _) (fun t h=>⟨h,.inl rfl⟩) ?_ (by simp [packA])).mono fun v m hq=>⟨hq.1,a,b,.tok nt,_,nt+1,?_,htk2,by omega⟩⟩
   ·rw [←upd_lb_out hkn,hbox]
   ·intro k' rows hk' hr;by_cases e:k'=k
    ·subst e;rw [upd_same] at hr;cases hr;exact .inr (by simp)
    ·rw [upd_other _ _ e] at hr;exact .inl hr
   ·rw [hq.2,fndE,if_neg hbig];simp [Sr.rowF]
 | succ n ih =>
  intro E out a b own box nb k tok nt hE ho hk htk;have hself:box=upd box k (some [s.rowF nl fm N a E b out own]):=(upd_self box k _ hk).symm
  have hlt:E.length<s.p.edges.length:=by omega
  refine sI Tryz.func286 Tryz.ntmps286 fun hbox htok=>?_
  have hkn:=key_lt hbox hk;repeat (first|simp [lb_out hkn,hk]|refine sR ?_)
  by_cases hbig:out.length=fm
  ·have b1:((out.length:Int)==(fm:Int))=true:=by simp [hbig]
   try (simp [lb_out hkn,hk,b1])
   repeat (first|(refine sR ?_; simp [lb_out hkn,hk,b1])|(refine sC ?_; simp [lb_out hkn,hk,b1])|(refine sX ?_; simp only [AU, ↓reduceIte]))
   refine sN ?_;refine sE ?_;refine ⟨by simp,(Fin.own (vs:=[]) (av:=.tup []) (by simp [resAs,resA]) hbox rfl (Nat.le_refl _) (by simp [packA])).mono fun v m hq=>⟨hq.1,a,b,own,tok,nt,?_,htk,Nat.le_refl _⟩⟩;rw [hq.2,fndE,if_pos hbig,←hself]
  ·have b1:((out.length:Int)==(fm:Int))=false:=by simp; omega
   try (simp [lb_out hkn,hk,b1,hN,hlt])
   repeat (first|(refine sR ?_; simp [lb_out hkn,hk,b1,hN,hlt])|(refine sC ?_; simp [lb_out hkn,hk,b1,hN,hlt])|(refine sX ?_; simp only [AU, ↓reduceIte]))
   refine sN ?_;have hlb:∀ loc,lb nb box loc=lb nb (upd box k (some [s.rowF nl fm N a E b out own])) loc:=fun loc=>by rw [←hself]
   rw [hlb];refine AL.loopT (stFdE s nl fm N E nb k box) (fun x=>x.i≤s.g.edges.length∧x.out=(List.range x.i).foldl (s.stEp fm N E n) out∧x.out.length≤fm∧TK mtok nt0 x.tok x.nt [.tok x.a,.tok x.b,x.own]∧nt≤x.nt) (fun x=>s.g.edges.length - x.i)
    ⟨0,out,a,b,own,tok,nt⟩ ⟨Nat.zero_le _,rfl,ho,htk,Nat.le_refl _⟩ (Weaks.mk' (Nat.le_refl _) (by simp [ToL,lk]; exact to_ptr (by rw [lb_out hkn,upd_same]; simp)) (by simp [BoxL,lk]) (outFd rfl)) ?_
   rintro ⟨i,out2,a2,b2,own2,tok2,nt2⟩ S ⟨hi,hout,ho2,htk2,hnt2⟩ hS;simp only [stFdE] at hS hi hout ho2 htk2 hnt2;subst hS;have hw:IntKind.i64.wrap (↑i+1)=((i+1:Nat):Int):=by rw [wrap_in (by omega) (by omega)]; omega
   have hfold:(List.range (i+1)).foldl (s.stEp fm N E n) out=s.stEp fm N E n out2 i:=by
    rw [hout,List.range_succ,List.foldl_append]; rfl
   have hta:tok2 a2=true:=htk2.live
   have htb:tok2 b2=true:=htk2.swap.live
   by_cases hli:i<s.g.edges.length
   ·obtain ⟨x1,x2,x3,x4⟩:=h.vp _ (List.getElem_mem hlt);have hgd:s.p.edges.getD E.length default=s.p.edges[E.length]:=by simp [hlt]
    have hfit:=fitsF_c s h nl hnl fm N E out2 E.length i hlt hli (by rw [hgd]; omega) (by rw [hgd]; omega);have hoke:=s.okE_eq N E i;try (simp [lb_out hkn,upd_same,hli])
    repeat (first|(refine sR ?_; simp [lb_out hkn,upd_same,hli])|(refine sC ?_; simp [lb_out hkn,upd_same,hli])|(refine sX ?_; simp only [AU, ↓reduceIte]))
    refine Stop.of_r (RCall.lends rfl (fun tok=>hfit tok nt2) ⟨.ptr (by simp only [lb_out hkn,upd_same]) (Sr.row_cds (own:=own2) hta htb),.same (by simp),.same (by simp),trivial⟩) ?_;cases e1:s.fitK N E.length i
    ·have hok:s.okE N E i=false:=by rw [hoke,e1]; rfl
     try (simp [lb_out hkn,upd_same,hw])
     repeat (first|(refine sR ?_; simp [lb_out hkn,upd_same,hw])|(refine sC ?_; simp [lb_out hkn,upd_same,hw])|(refine sX ?_; simp only [AU, ↓reduceIte]))
     refine sE ?_;exact ⟨⟨i+1,out2,a2,b2,own2,tok2,nt2⟩,⟨hli,by rw [hfold,Sr.stEp,hok]; simp,ho2,htk2,hnt2⟩,by simp only; omega,Weaks.mk' (by have:=htk2.le; omega) (by simp [ToL,lk]; exact to_ptr (by rw [lb_out hkn,upd_same]; simp)) (by simp [BoxL,lk]) (outFd rfl)⟩
    ·have hoke:s.okE N E i=!usB s.inj E i:=by rw [hoke,e1]; simp
     have skip:∀ Q:Prop,(s.inj=true→decide ((i:Int)∈E)=true→Q)→(s.inj=true→decide ((i:Int)∈E)=false→Q)→(s.inj=false→Q)→Q:=by
      intro Q h1 h2 h3;cases ei:s.inj
      ·exact h3 ei
      ·cases ed:decide ((i:Int)∈E)
       ·exact h2 ei ed
       ·exact h1 ei ed
     refine skip _ (fun ei ed=>?_) (fun ei ed=>?_) (fun ei=>?_)
     ·have hok:s.okE N E i=false:=by rw [hoke,usB,if_pos ei,ed]; rfl
      simp [lb_out hkn,upd_same,ei];refine Stop.of_r (RCall.lends rfl (fun tok=>contains_c E i (by omega) tok nt2) ⟨.stk htb,.same (by simp),trivial⟩) ?_;rw [ed];try (simp [hw])
      repeat (first|(refine sR ?_; simp [hw])|(refine sC ?_; simp [hw])|(refine sX ?_; simp only [AU, ↓reduceIte]))
      refine sE ?_;exact ⟨⟨i+1,out2,a2,b2,own2,tok2,nt2⟩,⟨hli,by rw [hfold,Sr.stEp,hok]; simp,ho2,htk2,hnt2⟩,by simp only; omega,Weaks.mk' (by have:=htk2.le; omega) (by simp [ToL,lk]; exact to_ptr (by rw [lb_out hkn,upd_same]; simp)) (by simp [BoxL,lk]) (outFd rfl)⟩
     ·have hok:s.okE N E i=true:=by rw [hoke,usB,if_pos ei,ed]; rfl
      simp [lb_out hkn,upd_same,ei];refine Stop.of_r (RCall.lends rfl (fun tok=>contains_c E i (by omega) tok nt2) ⟨.stk htb,.same (by simp),trivial⟩) ?_;rw [ed];try (simp [lb_out hkn,upd_same])
      repeat (first|(refine sR ?_; simp [lb_out hkn,upd_same])|(refine sC ?_; simp [lb_out hkn,upd_same])|(refine sX ?_; simp only [AU, ↓reduceIte]))
      refine ⟨⟨by omega,htb⟩,?_⟩;have htk3:=htk2.swap.app.swap;simp only [upd_lb_out hkn,upd_upd];try (simp [lb_out hkn,upd_same])
      repeat (first|(refine sR ?_; simp [lb_out hkn,upd_same])|(refine sC ?_; simp [lb_out hkn,upd_same])|(refine sX ?_; simp only [AU, ↓reduceIte]))
      refine Stop.of_a (ih (E++[(i:Int)]) out2 a2 nt2 own2 _ _ k _ _ (by simp; omega) ho2 (by simp [lb_out hkn,upd_same]) htk3) ?_;rintro v m' ⟨rfl,a3,b3,own3,tok3,nt3,rfl,htk4,hle4⟩;have hle4:nt2+1≤nt3:=hle4
      have hle5:nt≤nt3:=by omega
      simp [upd_lb_out hkn,upd_upd];try (simp [lb_out hkn,upd_same,rI_cut,hw])
      repeat (first|(refine sR ?_; simp [lb_out hkn,upd_same,rI_cut,hw])|(refine sC ?_; simp [lb_out hkn,upd_same,rI_cut,hw])|(refine sX ?_; simp only [AU, ↓reduceIte]))
      simp only [upd_lb_out hkn,upd_upd];refine sE ?_;exact ⟨⟨i+1,fndE fm (s.okE N) s.g.edges.length N n (E++[(i:Int)]) out2,a3,b3,own3,tok3,nt3⟩,⟨hli,by rw [hfold,Sr.stEp,hok]; simp,fndE_len ho2,htk4,by omega⟩,by simp only; omega,Weaks.mk' hle5 (by simp [ToL,lk]; exact to_ptr (by rw [lb_out hkn,upd_same]; simp)) (by simp [BoxL,lk]) (outFd rfl)⟩
     ·have hok:s.okE N E i=true:=by rw [hoke,usB,if_neg (by simp [ei])]; rfl
      simp [lb_out hkn,upd_same,ei];try (simp [lb_out hkn,upd_same])
      repeat (first|(refine sR ?_; simp [lb_out hkn,upd_same])|(refine sC ?_; simp [lb_out hkn,upd_same])|(refine sX ?_; simp only [AU, ↓reduceIte]))
      refine ⟨⟨by omega,htb⟩,?_⟩;have htk3:=htk2.swap.app.swap;simp only [upd_lb_out hkn,upd_upd];try (simp [lb_out hkn,upd_same])
      repeat (first|(refine sR ?_; simp [lb_out hkn,upd_same])|(refine sC ?_; simp [lb_out hkn,upd_same])|(refine sX ?_; simp only [AU, ↓reduceIte]))
      refine Stop.of_a (ih (E++[(i:Int)]) out2 a2 nt2 own2 _ _ k _ _ (by simp; omega) ho2 (by simp [lb_out hkn,upd_same]) htk3) ?_;rintro v m' ⟨rfl,a3,b3,own3,tok3,nt3,rfl,htk4,hle4⟩;have hle4:nt2+1≤nt3:=hle4
      have hle5:nt≤nt3:=by omega
      simp [upd_lb_out hkn,upd_upd];try (simp [lb_out hkn,upd_same,rI_cut,hw])
      repeat (first|(refine sR ?_; simp [lb_out hkn,upd_same,rI_cut,hw])|(refine sC ?_; simp [lb_out hkn,upd_same,rI_cut,hw])|(refine sX ?_; simp only [AU, ↓reduceIte]))
      simp only [upd_lb_out hkn,upd_upd];refine sE ?_;exact ⟨⟨i+1,fndE fm (s.okE N) s.g.edges.length N n (E++[(i:Int)]) out2,a3,b3,own3,tok3,nt3⟩,⟨hli,by rw [hfold,Sr.stEp,hok]; simp,fndE_len ho2,htk4,by omega⟩,by simp only; omega,Weaks.mk' hle5 (by simp [ToL,lk]; exact to_ptr (by rw [lb_out hkn,upd_same]; simp)) (by simp [BoxL,lk]) (outFd rfl)⟩
   ·have:i=s.g.edges.length:=by omega
    subst this;try (simp [lb_out hkn,upd_same])
    repeat (first|(refine sR ?_; simp [lb_out hkn,upd_same])|(refine sC ?_; simp [lb_out hkn,upd_same])|(refine sX ?_; simp only [AU, ↓reduceIte]))
    refine sN ?_;refine sE ?_;refine ⟨by simp,(Fin.gen (vs:=[]) (av:=.tup []) (tok':=tok2) (nt':=nt2) (by simp [resAs,resA]) ?_ hnt2 (Nat.le_refl _) (fun t h=>⟨h,.inl rfl⟩) (outFd (by simp)) (by simp [packA])).mono fun v m hq=>⟨hq.1,a2,b2,own2,tok2,nt2,?_,htk2,hnt2⟩⟩
    ·rw [←upd_lb_out hkn,hbox]
    ·rw [hq.2,fndE,if_neg hbig,hout]; rfl
def Sr.stNp (s:Sr) (fm:Nat) (N:List Int) (r:Nat) (out:List Mo) (k:Nat):List Mo :=
 if s.okN N k=true then (if s.pos (N++[(k:Int)])=true then s.fnP fm r (N++[(k:Int)]) out else out) else out
def stFdN (s:Sr) (nl:Bool) (fm:Nat) (N:List Int) (nb k:Nat) (box:Bxs) (x:AccK):AState :=
 ⟨tl [(63,I x.i),(62,I s.g.nodes.length),(61,.d (ints s.g.nodes)),(2,I N.length),(0,.ptr k 0 0)],lb nb (upd box k (some [s.rowF nl fm N x.a [] x.b x.out x.own])) [],x.tok,x.nt⟩
theorem isD_row {t:Ty} {a:Nat} (h:a<t.nodes.length):(isTb t)[a]'(by simp [isTb]; exact h)=isRow t a:=by simp [isTb]
set_option maxRecDepth 100000 in
theorem findN_c (s:Sr) (h:s.Ok) (nl:Bool) (hnl:s.Nl nl) (fm:Nat) (hfm:fm≤1000000) (mtok:Tks) (nt0:Nat):∀ (r:Nat) (N:List Int) (out:List Mo) (a b:Nat) (own:Own) (box:Bxs) (nb k:Nat) (tok:Tks) (nt:Nat),N.length+r=s.p.nodes.length→out.length≤fm →
  box k=some [s.rowF nl fm N a [] b out own]→TK mtok nt0 tok nt [.tok a,.tok b,own]→ACalls Tryz.prog 286 [.ptr k 0 0] ⟨box,nb,tok,nt⟩ (QFd s nl fm box nb k mtok nt0 nt N [] (s.fnP fm r N out)):=by
 have hpn:=h.p.n;have hpe:=h.p.e;have hgn:=h.g.n;have hge:=h.g.e;have htn:=h.t.n;intro r;induction r with
 | zero =>
  intro N out a b own box nb k tok nt hN ho hk htk;exact findE_c s h nl hnl fm hfm N (by omega) mtok nt0 s.p.edges.length [] out a b own box nb k tok nt (by simp) ho hk htk
 | succ r ih =>
  intro N out a b own box nb k tok nt hN ho hk htk;have hself:box=upd box k (some [s.rowF nl fm N a [] b out own]):=(upd_self box k _ hk).symm
  have hlt:N.length<s.p.nodes.length:=by omega
  refine sI Tryz.func286 Tryz.ntmps286 fun hbox htok=>?_
  have hkn:=key_lt hbox hk;repeat (first|simp [lb_out hkn,hk]|refine sR ?_)
  by_cases hbig:out.length=fm
  ·have b1:((out.length:Int)==(fm:Int))=true:=by simp [hbig]
   try (simp [lb_out hkn,hk,b1])
   repeat (first|(refine sR ?_; simp [lb_out hkn,hk,b1])|(refine sC ?_; simp [lb_out hkn,hk,b1])|(refine sX ?_; simp only [AU, ↓reduceIte]))
   refine sN ?_;refine sE ?_;refine ⟨by simp,(Fin.own (vs:=[]) (av:=.tup []) (by simp [resAs,resA]) hbox rfl (Nat.le_refl _) (by simp [packA])).mono fun v m hq=>⟨hq.1,a,b,own,tok,nt,?_,htk,Nat.le_refl _⟩⟩;rw [hq.2,Sr.fnP,fndN,if_pos hbig,←hself]
  ·have b1:((out.length:Int)==(fm:Int))=false:=by simp; omega
   try (simp [lb_out hkn,hk,b1,hlt])
   repeat (first|(refine sR ?_; simp [lb_out hkn,hk,b1,hlt])|(refine sC ?_; simp [lb_out hkn,hk,b1,hlt])|(refine sX ?_; simp only [AU, ↓reduceIte]))
   refine sN ?_;have hlb:∀ loc,lb nb box loc=lb nb (upd box k (some [s.rowF nl fm N a [] b out own])) loc:=fun loc=>by rw [←hself]
   rw [hlb];refine AL.loopT (stFdN s nl fm N nb k box) (fun x=>x.i≤s.g.nodes.length∧x.out=(List.range x.i).foldl (s.stNp fm N r) out∧x.out.length≤fm∧TK mtok nt0 x.tok x.nt [.tok x.a,.tok x.b,x.own]∧nt≤x.nt) (fun x=>s.g.nodes.length - x.i)
    ⟨0,out,a,b,own,tok,nt⟩ ⟨Nat.zero_le _,rfl,ho,htk,Nat.le_refl _⟩ (Weaks.mk' (Nat.le_refl _) (by simp [ToL,lk]; exact to_ptr (by rw [lb_out hkn,upd_same]; simp)) (by simp [BoxL,lk]) (outFd rfl)) ?_
   rintro ⟨i,out2,a2,b2,own2,tok2,nt2⟩ S ⟨hi,hout,ho2,htk2,hnt2⟩ hS;simp only [stFdN] at hS hi hout ho2 htk2 hnt2;subst hS;have hw:IntKind.i64.wrap (↑i+1)=((i+1:Nat):Int):=by rw [wrap_in (by omega) (by omega)]; omega
   have hfold:(List.range (i+1)).foldl (s.stNp fm N r) out=s.stNp fm N r out2 i:=by
    rw [hout,List.range_succ,List.foldl_append]; rfl
   have hta:tok2 a2=true:=htk2.live
   have htb:tok2 b2=true:=htk2.swap.live
   by_cases hli:i<s.g.nodes.length
   ·have hlp:N.length<s.pt.nodes.length:=by rw [h.pn]; exact hlt
    have hgv:=gvB_gvI hnl.n hlp i;have hgiv:=givenF_c nl s.pt.nodes N.length hlp (by rw [h.pn]; omega);obtain ⟨z1,z2⟩:=h.np _ (List.getElem_mem hlt);obtain ⟨z3,z4⟩:=h.ng _ (List.getElem_mem hli);have hgi:s.g.nodes.getD i 0=s.g.nodes[i]:=by simp [hli]
    have hpn2:s.p.nodes.getD N.length 0=s.p.nodes[N.length]:=by simp [hlt]
    obtain ⟨q,hq⟩:=Int.eq_ofNat_of_zero_le z1;obtain ⟨u,hu⟩:=Int.eq_ofNat_of_zero_le z3;have hq2:q<s.t.nodes.length:=by omega
    have hu2:u<s.t.nodes.length:=by omega
    have hokN:s.okN N i=if (if 0≤gvI nl s.pt.nodes N.length then decide (gvI nl s.pt.nodes N.length=(i:Int)) else true)=true then (if usB s.inj N i=true then false else isB s.t (u:Int) (q:Int)) else false:=by
     unfold Sr.okN;rw [hgv,hgi,hpn2,hq,hu]
    generalize gvI nl s.pt.nodes N.length=W at *;have hisD:D.sl 1 (List.map (fun r=>[blB r]) (isTb s.t))=isD s.t:=rfl
    have hlt1:(isTb s.t).length=s.t.nodes.length:=by simp [isTb]
    have hlt2:(isRow s.t q).length=s.t.nodes.length:=by simp [isRow]
    have hrow:(isTb s.t)[q]'(by rw [hlt1]; exact hq2)=isRow s.t q:=isD_row hq2
    have hcol:(isRow s.t q)[u]'(by rw [hlt2]; exact hu2)=isB s.t (u:Int) (q:Int):=by simp [isRow]
    try (simp [lb_out hkn,upd_same,hli])
    repeat (first|(refine sR ?_; simp [lb_out hkn,upd_same,hli])|(refine sC ?_; simp [lb_out hkn,upd_same,hli])|(refine sX ?_; simp only [AU, ↓reduceIte]))
    refine Stop.of_d (hgiv _ _) ?_;simp;by_cases p01:0≤W∧W≠(i:Int)
    ·obtain ⟨p0,p1⟩:=p01;have bw:(W != (i:Int))=true:=by simp [p1]
     have hok:s.okN N i=false:=by rw [hokN,if_pos p0]; simp [p1]
     try (simp [lb_out hkn,upd_same,p0,bw,hw])
     repeat (first|(refine sR ?_; simp [lb_out hkn,upd_same,p0,bw,hw])|(refine sC ?_; simp [lb_out hkn,upd_same,p0,bw,hw])|(refine sX ?_; simp only [AU, ↓reduceIte]))
     refine sE ?_;exact ⟨⟨i+1,out2,a2,b2,own2,tok2,nt2⟩,⟨hli,by rw [hfold,Sr.stNp,hok]; simp,ho2,htk2,hnt2⟩,by simp only; omega,Weaks.mk' (by have:=htk2.le; omega) (by simp [ToL,lk]; exact to_ptr (by rw [lb_out hkn,upd_same]; simp)) (by simp [BoxL,lk]) (outFd rfl)⟩
    ·have hW:(if 0≤W then decide (W=(i:Int)) else true)=true:=by
      by_cases p0:0≤W
      ·rw [if_pos p0];by_cases p1:W=(i:Int)
       ·simp [p1]
       ·exact absurd ⟨p0,p1⟩ p01
      ·rw [if_neg p0]
     rw [if_pos hW] at hokN;have hst:∀ Q,(0≤W→(W != (i:Int))=false→Q)→(¬ 0≤W→Q)→Q:=by
      intro Q h1 h2;by_cases p0:0≤W
      ·refine h1 p0 ?_;by_cases p1:W=(i:Int)
       ·simp [p1]
       ·exact absurd ⟨p0,p1⟩ p01
      ·exact h2 p0
     have skip:∀ Q:Prop,(s.inj=true→decide ((i:Int)∈N)=true→Q)→(s.inj=true→decide ((i:Int)∈N)=false→Q)→(s.inj=false→Q)→Q:=by
      intro Q h1 h2 h3;cases ei:s.inj
      ·exact h3 ei
      ·cases ed:decide ((i:Int)∈N)
       ·exact h2 ei ed
       ·exact h1 ei ed
     refine hst _ (fun p0 bw=>?_) (fun p0=>?_)
     ·cases hB:isB s.t (u:Int) (q:Int)
      ·have hok:s.okN N i=false:=by rw [hokN,hB]; simp
       try (simp [lb_out hkn,upd_same,p0,bw,hw,hlt,hq,hu,hq2,hu2,isD,hlt1,hlt2,hrow,hcol,hB])
       repeat (first|(refine sR ?_; simp [lb_out hkn,upd_same,p0,bw,hw,hlt,hq,hu,hq2,hu2,isD,hlt1,hlt2,hrow,hcol,hB])|(refine sC ?_; simp [lb_out hkn,upd_same,p0,bw,hw,hlt,hq,hu,hq2,hu2,isD,hlt1,hlt2,hrow,hcol,hB])|(refine sX ?_; simp only [AU, ↓reduceIte]))
       refine sE ?_;exact ⟨⟨i+1,out2,a2,b2,own2,tok2,nt2⟩,⟨hli,by rw [hfold,Sr.stNp,hok]; simp,ho2,htk2,hnt2⟩,by simp only; omega,Weaks.mk' (by have:=htk2.le; omega) (by simp [ToL,lk]; exact to_ptr (by rw [lb_out hkn,upd_same]; simp)) (by simp [BoxL,lk]) (outFd rfl)⟩
      ·rw [hB] at hokN;refine skip _ (fun ei ed=>?_) (fun ei ed=>?_) (fun ei=>?_)
       ·have hok:s.okN N i=false:=by rw [hokN,usB,if_pos ei,ed]; rfl
        try (simp [lb_out hkn,upd_same,p0,bw,hw,hlt,hq,hu,hq2,hu2,isD,hlt1,hlt2,hrow,hcol,hB,ei])
        repeat (first|(refine sR ?_; simp [lb_out hkn,upd_same,p0,bw,hw,hlt,hq,hu,hq2,hu2,isD,hlt1,hlt2,hrow,hcol,hB,ei])|(refine sC ?_; simp [lb_out hkn,upd_same,p0,bw,hw,hlt,hq,hu,hq2,hu2,isD,hlt1,hlt2,hrow,hcol,hB,ei])|(refine sX ?_; simp only [AU, ↓reduceIte]))
        refine Stop.of_r (RCall.lends rfl (fun tok=>contains_c N i (by omega) tok nt2) ⟨.stk hta,.same (by simp),trivial⟩) ?_;rw [ed];try (simp [hw])
        repeat (first|(refine sR ?_; simp [hw])|(refine sC ?_; simp [hw])|(refine sX ?_; simp only [AU, ↓reduceIte]))
        refine sE ?_;exact ⟨⟨i+1,out2,a2,b2,own2,tok2,nt2⟩,⟨hli,by rw [hfold,Sr.stNp,hok]; simp,ho2,htk2,hnt2⟩,by simp only; omega,Weaks.mk' (by have:=htk2.le; omega) (by simp [ToL,lk]; exact to_ptr (by rw [lb_out hkn,upd_same]; simp)) (by simp [BoxL,lk]) (outFd rfl)⟩
       ·have hok:s.okN N i=true:=by rw [hokN,usB,if_pos ei,ed]; rfl
        try (simp [lb_out hkn,upd_same,p0,bw,hw,hlt,hq,hu,hq2,hu2,isD,hlt1,hlt2,hrow,hcol,hB,ei])
        repeat (first|(refine sR ?_; simp [lb_out hkn,upd_same,p0,bw,hw,hlt,hq,hu,hq2,hu2,isD,hlt1,hlt2,hrow,hcol,hB,ei])|(refine sC ?_; simp [lb_out hkn,upd_same,p0,bw,hw,hlt,hq,hu,hq2,hu2,isD,hlt1,hlt2,hrow,hcol,hB,ei])|(refine sX ?_; simp only [AU, ↓reduceIte]))
        refine Stop.of_r (RCall.lends rfl (fun tok=>contains_c N i (by omega) tok nt2) ⟨.stk hta,.same (by simp),trivial⟩) ?_;rw [ed];try (simp [lb_out hkn,upd_same])
        repeat (first|(refine sR ?_; simp [lb_out hkn,upd_same])|(refine sC ?_; simp [lb_out hkn,upd_same])|(refine sX ?_; simp only [AU, ↓reduceIte]))
        refine ⟨⟨by omega,hta⟩,?_⟩;have htk3:=htk2.app;simp only [upd_lb_out hkn,upd_upd];have hta3:(upd (upd tok2 a2 false) nt2 true) nt2=true:=upd_same _ _ _
        have htb3:(upd (upd tok2 a2 false) nt2 true) b2=true:=htk3.swap.live
        have hpos:=possibleF_c s h nl hnl fm (N++[(i:Int)]) [] (by simp; omega) out2;try (simp [lb_out hkn,upd_same])
        repeat (first|(refine sR ?_; simp [lb_out hkn,upd_same])|(refine sC ?_; simp [lb_out hkn,upd_same])|(refine sX ?_; simp only [AU, ↓reduceIte]))
        refine Stop.of_r (RCall.lends rfl (fun tok=>hpos tok (nt2+1)) ⟨.ptr (row:=s.rowF nl fm (N++[(i:Int)]) nt2 [] b2 out2 own2) (by simp [lb_out hkn,upd_same]) (Sr.row_cds (own:=own2) hta3 htb3),trivial⟩) ?_;cases hP:s.pos (N++[(i:Int)])
        ·try (simp [lb_out hkn,upd_same,rI_cut,hw])
         repeat (first|(refine sR ?_; simp [lb_out hkn,upd_same,rI_cut,hw])|(refine sC ?_; simp [lb_out hkn,upd_same,rI_cut,hw])|(refine sX ?_; simp only [AU, ↓reduceIte]))
         simp only [upd_lb_out hkn,upd_upd];refine sE ?_;exact ⟨⟨i+1,out2,nt2,b2,own2,_,nt2+1⟩,⟨hli,by rw [hfold,Sr.stNp,hok,hP]; simp,ho2,htk3,Nat.le_succ_of_le hnt2⟩,by simp only; omega,Weaks.mk' (Nat.le_succ_of_le hnt2) (by simp [ToL,lk]; exact to_ptr (by rw [lb_out hkn,upd_same]; simp)) (by simp [BoxL,lk]) (outFd (s:=s) (nl:=nl) (fm:=fm) (N:=N) (E:=[]) (a:=nt2) (b:=b2) (out:=out2) (own:=own2) rfl)⟩
        ·try (simp [lb_out hkn,upd_same])
         repeat (first|(refine sR ?_; simp [lb_out hkn,upd_same])|(refine sC ?_; simp [lb_out hkn,upd_same])|(refine sX ?_; simp only [AU, ↓reduceIte]))
         refine Stop.of_a (ih (N++[(i:Int)]) out2 nt2 b2 own2 _ _ k _ _ (by simp; omega) ho2 (by simp [lb_out hkn,upd_same]) htk3) ?_;rintro v m' ⟨rfl,a3,b3,own3,tok3,nt3,rfl,htk4,hle4⟩;have hle4:nt2+1≤nt3:=hle4
         have hle5:nt≤nt3:=by omega
         simp [upd_lb_out hkn,upd_upd];try (simp [lb_out hkn,upd_same,rI_cut,hw])
         repeat (first|(refine sR ?_; simp [lb_out hkn,upd_same,rI_cut,hw])|(refine sC ?_; simp [lb_out hkn,upd_same,rI_cut,hw])|(refine sX ?_; simp only [AU, ↓reduceIte]))
         simp only [upd_lb_out hkn,upd_upd];refine sE ?_;exact ⟨⟨i+1,s.fnP fm r (N++[(i:Int)]) out2,a3,b3,own3,tok3,nt3⟩,⟨hli,by rw [hfold,Sr.stNp,hok,hP]; simp,Sr.fnP_len h ho2,htk4,by omega⟩,by simp only; omega,Weaks.mk' hle5 (by simp [ToL,lk]; exact to_ptr (by rw [lb_out hkn,upd_same]; simp)) (by simp [BoxL,lk]) (outFd (s:=s) (nl:=nl) (fm:=fm) (N:=N) (E:=[]) (a:=a3) (b:=b3) (out:=s.fnP fm r (N++[(i:Int)]) out2) (own:=own3) rfl)⟩
       ·have hok:s.okN N i=true:=by rw [hokN,usB,if_neg (by simp [ei])]
        refine sR ?_;simp [lb_out hkn,upd_same,p0,bw,hw,hlt,hq,hu,hq2,hu2,isD,hlt1,hlt2,hrow,hcol,hB,ei];refine sC ?_;simp;try (simp [lb_out hkn,upd_same])
        repeat (first|(refine sR ?_; simp [lb_out hkn,upd_same])|(refine sC ?_; simp [lb_out hkn,upd_same])|(refine sX ?_; simp only [AU, ↓reduceIte]))
        refine ⟨⟨by omega,hta⟩,?_⟩;have htk3:=htk2.app;simp only [upd_lb_out hkn,upd_upd];have hta3:(upd (upd tok2 a2 false) nt2 true) nt2=true:=upd_same _ _ _
        have htb3:(upd (upd tok2 a2 false) nt2 true) b2=true:=htk3.swap.live
        have hpos:=possibleF_c s h nl hnl fm (N++[(i:Int)]) [] (by simp; omega) out2;try (simp [lb_out hkn,upd_same])
        repeat (first|(refine sR ?_; simp [lb_out hkn,upd_same])|(refine sC ?_; simp [lb_out hkn,upd_same])|(refine sX ?_; simp only [AU, ↓reduceIte]))
        refine Stop.of_r (RCall.lends rfl (fun tok=>hpos tok (nt2+1)) ⟨.ptr (row:=s.rowF nl fm (N++[(i:Int)]) nt2 [] b2 out2 own2) (by simp [lb_out hkn,upd_same]) (Sr.row_cds (own:=own2) hta3 htb3),trivial⟩) ?_;cases hP:s.pos (N++[(i:Int)])
        ·try (simp [lb_out hkn,upd_same,rI_cut,hw])
         repeat (first|(refine sR ?_; simp [lb_out hkn,upd_same,rI_cut,hw])|(refine sC ?_; simp [lb_out hkn,upd_same,rI_cut,hw])|(refine sX ?_; simp only [AU, ↓reduceIte]))
         simp only [upd_lb_out hkn,upd_upd];refine sE ?_;exact ⟨⟨i+1,out2,nt2,b2,own2,_,nt2+1⟩,⟨hli,by rw [hfold,Sr.stNp,hok,hP]; simp,ho2,htk3,Nat.le_succ_of_le hnt2⟩,by simp only; omega,Weaks.mk' (Nat.le_succ_of_le hnt2) (by simp [ToL,lk]; exact to_ptr (by rw [lb_out hkn,upd_same]; simp)) (by simp [BoxL,lk]) (outFd (s:=s) (nl:=nl) (fm:=fm) (N:=N) (E:=[]) (a:=nt2) (b:=b2) (out:=out2) (own:=own2) rfl)⟩
        ·try (simp [lb_out hkn,upd_same])
         repeat (first|(refine sR ?_; simp [lb_out hkn,upd_same])|(refine sC ?_; simp [lb_out hkn,upd_same])|(refine sX ?_; simp only [AU, ↓reduceIte]))
         refine Stop.of_a (ih (N++[(i:Int)]) out2 nt2 b2 own2 _ _ k _ _ (by simp; omega) ho2 (by simp [lb_out hkn,upd_same]) htk3) ?_;rintro v m' ⟨rfl,a3,b3,own3,tok3,nt3,rfl,htk4,hle4⟩;have hle4:nt2+1≤nt3:=hle4
         have hle5:nt≤nt3:=by omega
         simp [upd_lb_out hkn,upd_upd];try (simp [lb_out hkn,upd_same,rI_cut,hw])
         repeat (first|(refine sR ?_; simp [lb_out hkn,upd_same,rI_cut,hw])|(refine sC ?_; simp [lb_out hkn,upd_same,rI_cut,hw])|(refine sX ?_; simp only [AU, ↓reduceIte]))
         simp only [upd_lb_out hkn,upd_upd];refine sE ?_;exact ⟨⟨i+1,s.fnP fm r (N++[(i:Int)]) out2,a3,b3,own3,tok3,nt3⟩,⟨hli,by rw [hfold,Sr.stNp,hok,hP]; simp,Sr.fnP_len h ho2,htk4,by omega⟩,by simp only; omega,Weaks.mk' hle5 (by simp [ToL,lk]; exact to_ptr (by rw [lb_out hkn,upd_same]; simp)) (by simp [BoxL,lk]) (outFd (s:=s) (nl:=nl) (fm:=fm) (N:=N) (E:=[]) (a:=a3) (b:=b3) (out:=s.fnP fm r (N++[(i:Int)]) out2) (own:=own3) rfl)⟩
     ·cases hB:isB s.t (u:Int) (q:Int)
      ·have hok:s.okN N i=false:=by rw [hokN,hB]; simp
       try (simp [lb_out hkn,upd_same,p0,hw,hlt,hq,hu,hq2,hu2,isD,hlt1,hlt2,hrow,hcol,hB])
       repeat (first|(refine sR ?_; simp [lb_out hkn,upd_same,p0,hw,hlt,hq,hu,hq2,hu2,isD,hlt1,hlt2,hrow,hcol,hB])|(refine sC ?_; simp [lb_out hkn,upd_same,p0,hw,hlt,hq,hu,hq2,hu2,isD,hlt1,hlt2,hrow,hcol,hB])|(refine sX ?_; simp only [AU, ↓reduceIte]))
       refine sE ?_;exact ⟨⟨i+1,out2,a2,b2,own2,tok2,nt2⟩,⟨hli,by rw [hfold,Sr.stNp,hok]; simp,ho2,htk2,hnt2⟩,by simp only; omega,Weaks.mk' (by have:=htk2.le; omega) (by simp [ToL,lk]; exact to_ptr (by rw [lb_out hkn,upd_same]; simp)) (by simp [BoxL,lk]) (outFd rfl)⟩
      ·rw [hB] at hokN;refine skip _ (fun ei ed=>?_) (fun ei ed=>?_) (fun ei=>?_)
       ·have hok:s.okN N i=false:=by rw [hokN,usB,if_pos ei,ed]; rfl
        try (simp [lb_out hkn,upd_same,p0,hw,hlt,hq,hu,hq2,hu2,isD,hlt1,hlt2,hrow,hcol,hB,ei])
        repeat (first|(refine sR ?_; simp [lb_out hkn,upd_same,p0,hw,hlt,hq,hu,hq2,hu2,isD,hlt1,hlt2,hrow,hcol,hB,ei])|(refine sC ?_; simp [lb_out hkn,upd_same,p0,hw,hlt,hq,hu,hq2,hu2,isD,hlt1,hlt2,hrow,hcol,hB,ei])|(refine sX ?_; simp only [AU, ↓reduceIte]))
        refine Stop.of_r (RCall.lends rfl (fun tok=>contains_c N i (by omega) tok nt2) ⟨.stk hta,.same (by simp),trivial⟩) ?_;rw [ed];try (simp [hw])
        repeat (first|(refine sR ?_; simp [hw])|(refine sC ?_; simp [hw])|(refine sX ?_; simp only [AU, ↓reduceIte]))
        refine sE ?_;exact ⟨⟨i+1,out2,a2,b2,own2,tok2,nt2⟩,⟨hli,by rw [hfold,Sr.stNp,hok]; simp,ho2,htk2,hnt2⟩,by simp only; omega,Weaks.mk' (by have:=htk2.le; omega) (by simp [ToL,lk]; exact to_ptr (by rw [lb_out hkn,upd_same]; simp)) (by simp [BoxL,lk]) (outFd rfl)⟩
       ·have hok:s.okN N i=true:=by rw [hokN,usB,if_pos ei,ed]; rfl
        try (simp [lb_out hkn,upd_same,p0,hw,hlt,hq,hu,hq2,hu2,isD,hlt1,hlt2,hrow,hcol,hB,ei])
        repeat (first|(refine sR ?_; simp [lb_out hkn,upd_same,p0,hw,hlt,hq,hu,hq2,hu2,isD,hlt1,hlt2,hrow,hcol,hB,ei])|(refine sC ?_; simp [lb_out hkn,upd_same,p0,hw,hlt,hq,hu,hq2,hu2,isD,hlt1,hlt2,hrow,hcol,hB,ei])|(refine sX ?_; simp only [AU, ↓reduceIte]))
        refine Stop.of_r (RCall.lends rfl (fun tok=>contains_c N i (by omega) tok nt2) ⟨.stk hta,.same (by simp),trivial⟩) ?_;rw [ed];try (simp [lb_out hkn,upd_same])
        repeat (first|(refine sR ?_; simp [lb_out hkn,upd_same])|(refine sC ?_; simp [lb_out hkn,upd_same])|(refine sX ?_; simp only [AU, ↓reduceIte]))
        refine ⟨⟨by omega,hta⟩,?_⟩;have htk3:=htk2.app;simp only [upd_lb_out hkn,upd_upd];have hta3:(upd (upd tok2 a2 false) nt2 true) nt2=true:=upd_same _ _ _
        have htb3:(upd (upd tok2 a2 false) nt2 true) b2=true:=htk3.swap.live
        have hpos:=possibleF_c s h nl hnl fm (N++[(i:Int)]) [] (by simp; omega) out2;try (simp [lb_out hkn,upd_same])
        repeat (first|(refine sR ?_; simp [lb_out hkn,upd_same])|(refine sC ?_; simp [lb_out hkn,upd_same])|(refine sX ?_; simp only [AU, ↓reduceIte]))
        refine Stop.of_r (RCall.lends rfl (fun tok=>hpos tok (nt2+1)) ⟨.ptr (row:=s.rowF nl fm (N++[(i:Int)]) nt2 [] b2 out2 own2) (by simp [lb_out hkn,upd_same]) (Sr.row_cds (own:=own2) hta3 htb3),trivial⟩) ?_;cases hP:s.pos (N++[(i:Int)])
        ·try (simp [lb_out hkn,upd_same,rI_cut,hw])
         repeat (first|(refine sR ?_; simp [lb_out hkn,upd_same,rI_cut,hw])|(refine sC ?_; simp [lb_out hkn,upd_same,rI_cut,hw])|(refine sX ?_; simp only [AU, ↓reduceIte]))
         simp only [upd_lb_out hkn,upd_upd];refine sE ?_;exact ⟨⟨i+1,out2,nt2,b2,own2,_,nt2+1⟩,⟨hli,by rw [hfold,Sr.stNp,hok,hP]; simp,ho2,htk3,Nat.le_succ_of_le hnt2⟩,by simp only; omega,Weaks.mk' (Nat.le_succ_of_le hnt2) (by simp [ToL,lk]; exact to_ptr (by rw [lb_out hkn,upd_same]; simp)) (by simp [BoxL,lk]) (outFd (s:=s) (nl:=nl) (fm:=fm) (N:=N) (E:=[]) (a:=nt2) (b:=b2) (out:=out2) (own:=own2) rfl)⟩
        ·try (simp [lb_out hkn,upd_same])
         repeat (first|(refine sR ?_; simp [lb_out hkn,upd_same])|(refine sC ?_; simp [lb_out hkn,upd_same])|(refine sX ?_; simp only [AU, ↓reduceIte]))
         refine Stop.of_a (ih (N++[(i:Int)]) out2 nt2 b2 own2 _ _ k _ _ (by simp; omega) ho2 (by simp [lb_out hkn,upd_same]) htk3) ?_;rintro v m' ⟨rfl,a3,b3,own3,tok3,nt3,rfl,htk4,hle4⟩;have hle4:nt2+1≤nt3:=hle4
         have hle5:nt≤nt3:=by omega
         simp [upd_lb_out hkn,upd_upd];try (simp [lb_out hkn,upd_same,rI_cut,hw])
         repeat (first|(refine sR ?_; simp [lb_out hkn,upd_same,rI_cut,hw])|(refine sC ?_; simp [lb_out hkn,upd_same,rI_cut,hw])|(refine sX ?_; simp only [AU, ↓reduceIte]))
         simp only [upd_lb_out hkn,upd_upd];refine sE ?_;exact ⟨⟨i+1,s.fnP fm r (N++[(i:Int)]) out2,a3,b3,own3,tok3,nt3⟩,⟨hli,by rw [hfold,Sr.stNp,hok,hP]; simp,Sr.fnP_len h ho2,htk4,by omega⟩,by simp only; omega,Weaks.mk' hle5 (by simp [ToL,lk]; exact to_ptr (by rw [lb_out hkn,upd_same]; simp)) (by simp [BoxL,lk]) (outFd (s:=s) (nl:=nl) (fm:=fm) (N:=N) (E:=[]) (a:=a3) (b:=b3) (out:=s.fnP fm r (N++[(i:Int)]) out2) (own:=own3) rfl)⟩
       ·have hok:s.okN N i=true:=by rw [hokN,usB,if_neg (by simp [ei])]
        refine sR ?_;simp [lb_out hkn,upd_same,p0,hw,hlt,hq,hu,hq2,hu2,isD,hlt1,hlt2,hrow,hcol,hB,ei];refine sC ?_;simp;try (simp [lb_out hkn,upd_same])
        repeat (first|(refine sR ?_; simp [lb_out hkn,upd_same])|(refine sC ?_; simp [lb_out hkn,upd_same])|(refine sX ?_; simp only [AU, ↓reduceIte]))
        refine ⟨⟨by omega,hta⟩,?_⟩;have htk3:=htk2.app;simp only [upd_lb_out hkn,upd_upd];have hta3:(upd (upd tok2 a2 false) nt2 true) nt2=true:=upd_same _ _ _
        have htb3:(upd (upd tok2 a2 false) nt2 true) b2=true:=htk3.swap.live
        have hpos:=possibleF_c s h nl hnl fm (N++[(i:Int)]) [] (by simp; omega) out2;try (simp [lb_out hkn,upd_same])
        repeat (first|(refine sR ?_; simp [lb_out hkn,upd_same])|(refine sC ?_; simp [lb_out hkn,upd_same])|(refine sX ?_; simp only [AU, ↓reduceIte]))
        refine Stop.of_r (RCall.lends rfl (fun tok=>hpos tok (nt2+1)) ⟨.ptr (row:=s.rowF nl fm (N++[(i:Int)]) nt2 [] b2 out2 own2) (by simp [lb_out hkn,upd_same]) (Sr.row_cds (own:=own2) hta3 htb3),trivial⟩) ?_;cases hP:s.pos (N++[(i:Int)])
        ·try (simp [lb_out hkn,upd_same,rI_cut,hw])
         repeat (first|(refine sR ?_; simp [lb_out hkn,upd_same,rI_cut,hw])|(refine sC ?_; simp [lb_out hkn,upd_same,rI_cut,hw])|(refine sX ?_; simp only [AU, ↓reduceIte]))
         simp only [upd_lb_out hkn,upd_upd];refine sE ?_;exact ⟨⟨i+1,out2,nt2,b2,own2,_,nt2+1⟩,⟨hli,by rw [hfold,Sr.stNp,hok,hP]; simp,ho2,htk3,Nat.le_succ_of_le hnt2⟩,by simp only; omega,Weaks.mk' (Nat.le_succ_of_le hnt2) (by simp [ToL,lk]; exact to_ptr (by rw [lb_out hkn,upd_same]; simp)) (by simp [BoxL,lk]) (outFd (s:=s) (nl:=nl) (fm:=fm) (N:=N) (E:=[]) (a:=nt2) (b:=b2) (out:=out2) (own:=own2) rfl)⟩
        ·try (simp [lb_out hkn,upd_same])
         repeat (first|(refine sR ?_; simp [lb_out hkn,upd_same])|(refine sC ?_; simp [lb_out hkn,upd_same])|(refine sX ?_; simp only [AU, ↓reduceIte]))
         refine Stop.of_a (ih (N++[(i:Int)]) out2 nt2 b2 own2 _ _ k _ _ (by simp; omega) ho2 (by simp [lb_out hkn,upd_same]) htk3) ?_;rintro v m' ⟨rfl,a3,b3,own3,tok3,nt3,rfl,htk4,hle4⟩;have hle4:nt2+1≤nt3:=hle4
         have hle5:nt≤nt3:=by omega
         simp [upd_lb_out hkn,upd_upd];try (simp [lb_out hkn,upd_same,rI_cut,hw])
         repeat (first|(refine sR ?_; simp [lb_out hkn,upd_same,rI_cut,hw])|(refine sC ?_; simp [lb_out hkn,upd_same,rI_cut,hw])|(refine sX ?_; simp only [AU, ↓reduceIte]))
         simp only [upd_lb_out hkn,upd_upd];refine sE ?_;exact ⟨⟨i+1,s.fnP fm r (N++[(i:Int)]) out2,a3,b3,own3,tok3,nt3⟩,⟨hli,by rw [hfold,Sr.stNp,hok,hP]; simp,Sr.fnP_len h ho2,htk4,by omega⟩,by simp only; omega,Weaks.mk' hle5 (by simp [ToL,lk]; exact to_ptr (by rw [lb_out hkn,upd_same]; simp)) (by simp [BoxL,lk]) (outFd (s:=s) (nl:=nl) (fm:=fm) (N:=N) (E:=[]) (a:=a3) (b:=b3) (out:=s.fnP fm r (N++[(i:Int)]) out2) (own:=own3) rfl)⟩
   ·have:i=s.g.nodes.length:=by omega
    subst this;try (simp [lb_out hkn,upd_same])
    repeat (first|(refine sR ?_; simp [lb_out hkn,upd_same])|(refine sC ?_; simp [lb_out hkn,upd_same])|(refine sX ?_; simp only [AU, ↓reduceIte]))
    refine sN ?_;refine sE ?_;refine ⟨by simp,(Fin.gen (vs:=[]) (av:=.tup []) (tok':=tok2) (nt':=nt2) (by simp [resAs,resA]) ?_ hnt2 (Nat.le_refl _) (fun t h=>⟨h,.inl rfl⟩) (outFd (by simp)) (by simp [packA])).mono fun v m hq=>⟨hq.1,a2,b2,own2,tok2,nt2,?_,htk2,hnt2⟩⟩
    ·rw [←upd_lb_out hkn,hbox]
    ·rw [hq.2,Sr.fnP,fndN,if_neg hbig,hout]; rfl
theorem to_frzW {p q:Nat→Prop} {k n:Nat} {L:List Bool} (h:L.length=n):To p q (some (k,1,L.map fun b=>[D.raw (.bool b)])) (.msl k 0 n 1) (.d (blB L)):=by
 have h2:=To.frz (p:=p) (q:=q) (fz:=some (k,1,L.map fun b=>[D.raw (.bool b)])) (k:=k) (sz:=1) (es:=L.map fun b=>[D.raw (.bool b)]) rfl;have:(L.map fun b=>[D.raw (.bool b)]).length=n:=by simp [h]
 rw [this] at h2;exact h2
def mkB (n:Nat) (l:List Int):List Bool:=(List.range n).map fun (b:Nat)=>decide ((b:Int)∈l)
theorem mkB_len (n:Nat) (l:List Int):(mkB n l).length=n:=by simp [mkB]
theorem mkB_nil (n:Nat):List.replicate n [B false]=rowsB (mkB n []):=by
 refine List.ext_getElem (by simp [mkB]) fun i h1 h2=>?_
 simp [rowsB,mkB]
theorem mkB_set {n:Nat} {l:List Int} {v:Int} (h0:0≤v):(mkB n l).set v.toNat true=mkB n (l++[v]):=by
 refine List.ext_getElem (by simp [mkB]) fun i h1 h2=>?_
 rw [List.getElem_set];simp only [mkB,List.getElem_map,List.getElem_range,List.mem_append,List.mem_singleton];by_cases e:v.toNat=i
 ·rw [if_pos e];have:(i:Int)=v:=by omega
  simp [this]
 ·rw [if_neg e];have:¬ (i:Int)=v:=by omega
  simp [this]
theorem mkB_row (t:Ty) (a:Nat):mkB t.nodes.length (belK t (a:Int) t.nodes.length)=isRow t a:=by
 refine List.ext_getElem (by simp [mkB,isRow]) fun i h1 h2=>?_
 simp only [mkB,isRow,List.getElem_map,List.getElem_range];have hi:i<t.nodes.length:=by simpa [mkB] using h1
 unfold belK;by_cases h:isB t (i:Int) (a:Int)=true
 ·rw [h,decide_eq_true_eq];exact List.mem_map.2 ⟨i,List.mem_filter.2 ⟨List.mem_range.2 hi,h⟩,rfl⟩
 ·simp only [Bool.not_eq_true] at h;rw [h,decide_eq_false_iff_not];intro hm;obtain ⟨x,hx,e⟩:=List.mem_map.1 hm;obtain ⟨_,hx⟩:=List.mem_filter.1 hx;have:x=i:=by omega
  subst this;rw [h] at hx;cases hx
theorem isTb_take {t:Ty} {i:Nat} (h:i<t.nodes.length):(isTb t).take (i+1)=(isTb t).take i++[isRow t i]:=by
 have hl:i<(isTb t).length:=by simp [isTb]; exact h
 rw [List.take_succ_eq_append_getElem hl,isD_row h]
def isRs (t:Ty) (i:Nat):List (List D):=((isTb t).take i).map fun r=>[blB r]
theorem isRs_succ {t:Ty} {i:Nat} (h:i<t.nodes.length):isRs t (i+1)=isRs t i++[[blB (isRow t i)]]:=by
 unfold isRs;rw [isTb_take h,List.map_append];rfl
theorem isRs_len (t:Ty) (i:Nat):(isRs t i).length≤i:=by unfold isRs; rw [List.length_map,List.length_take]; omega
def stBl (t:Ty) (nb:Nat) (box:Bxs) (x:Acc):AState :=
 ⟨tl [(13,I x.i),(12,I t.nodes.length),(11,.d (nts t.nodes)),(3,.osl 1 (isRs t x.i) x.own),(1,.ptr (nb+1) 0 0)],lb nb box [(1,[[.d (nts t.nodes),.d (ets t.edges)]])],x.tok,x.nt⟩
def stBm (t:Ty) (i:Nat) (L:List Int) (own:Own) (nb:Nat) (box:Bxs) (tok:Tks) (nt:Nat) (j:Nat):AState :=
 ⟨tl [(28,I j),(27,I L.length),(26,.d (ints L)),(5,.msl (nb+19) 0 t.nodes.length 1),(13,I i),(12,I t.nodes.length),(11,.d (nts t.nodes)),(3,.osl 1 (isRs t i) own),(1,.ptr (nb+1) 0 0)],
  lb nb box [(19,rowsB (mkB t.nodes.length (L.take j))),(1,[[.d (nts t.nodes),.d (ets t.edges)]])],tok,nt⟩
theorem belowF_c (t:Ty) (ht:t.Fit) (h0:tyE t=0) (tok:Tks) (nt:Nat):DCall Tryz.prog 285 [t.av] tok nt (.d (isD t)) tok nt:=by
 intro box nb;have htn:=ht.n;have hb:=fun a=>below_c t ht a
 refine sI Tryz.func285 Tryz.ntmps285 fun hbox htok=>?_
 repeat (first|simp|refine sR ?_)
 refine sN ?_;refine AL.loopT (stBl t nb box) (fun x=>x.i≤t.nodes.length∧TK tok nt x.tok x.nt [x.own]) (fun x=>t.nodes.length - x.i) ⟨0,.full,tok,nt⟩ ⟨Nat.zero_le _,(TK.start htok).full⟩ (Weaks.mk (Nat.le_refl _) rfl (by simp [ToL,lk,isRs]) (by simp [BoxL,lk])) ?_;rintro ⟨i,own,tok',nt'⟩ S ⟨hi,htk⟩ hS;simp only [stBl] at hS hi htk;subst hS;have hw:=sW (i:=i) (by omega);by_cases hlt:i<t.nodes.length
 ·have hrow:=mkB_row t i;have hs:=isRs_succ hlt;have hsl:=isRs_len t i;have hlR:belR t (i:Int)=(belK t (i:Int) t.nodes.length,0):=by
   unfold belR;rw [givE_leaf h0 (by omega),if_neg (by omega)]
  have hLn:∀ v∈belK t (i:Int) t.nodes.length,0≤v∧v<t.nodes.length:=by
   intro v hv;unfold belK at hv;simp only [List.mem_map,List.mem_filter,List.mem_range] at hv;obtain ⟨x,⟨hx,_⟩,rfl⟩:=hv;omega
  have hLl:=belK_len t (i:Int) t.nodes.length;have hbi:=hb (i:Int);rw [hlR] at hbi;generalize belK t (i:Int) t.nodes.length=L at *;try (simp [hlt])
  repeat (first|(refine sR ?_; simp [hlt])|(refine sC ?_; simp [hlt])|(refine sX ?_; simp only [AU, ↓reduceIte]))
  refine ⟨by omega,?_⟩;try (simp)
  repeat (first|(refine sR ?_; simp)|(refine sC ?_; simp)|(refine sX ?_; simp only [AU, ↓reduceIte]))
  refine Stop.of_d (hbi _ _) ?_;simp;try (simp)
  repeat (first|(refine sR ?_; simp)|(refine sC ?_; simp)|(refine sX ?_; simp only [AU, ↓reduceIte]))
  refine sN ?_;refine AL.loopT (stBm t i L own nb box tok' nt') (fun j=>j≤L.length) (fun j=>L.length - j) 0 (Nat.zero_le _) (Weaks.mk htk.le rfl (by simp [ToL,lk]) (by simp [BoxL,lk,mkB_nil])) ?_;rintro j S hj hS;simp only [stBm] at hS;subst hS;have hwj:=sW (i:=j) (by omega);by_cases hlj:j<L.length
  ·obtain ⟨v0,v1⟩:=hLn _ (List.getElem_mem hlj);have hset:(mkB t.nodes.length (L.take j)).set L[j].toNat true=mkB t.nodes.length (L.take (j+1)):=by
    rw [mkB_set v0,←List.take_succ_eq_append_getElem hlj]
   have hml:=mkB_len t.nodes.length (L.take j);have v2:L[j].toNat<t.nodes.length:=by omega
   try (simp [hlj,v0,v1,v2,hml,hwj])
   repeat (first|(refine sR ?_; simp [hlj,v0,v1,v2,hml,hwj])|(refine sC ?_; simp [hlj,v0,v1,v2,hml,hwj])|(refine sX ?_; simp only [AU, ↓reduceIte]))
   refine sE ?_;exact ⟨j+1,hlj,by omega,Weaks.mk htk.le rfl (by simp [ToL,lk]) (by simp [BoxL,lk,hset])⟩
  ·have:j=L.length:=by omega
   subst this;rw [List.take_length,hrow];refine sR ?_;simp;refine sC ?_;simp;refine sX ?_;simp only [AU, ↓reduceIte];have hrl:(isRow t i).length=t.nodes.length:=by simp [isRow]
   refine AL.weak (Weaks.frz (l':=[(5,.d (blB (isRow t i))),(13,I i),(12,I t.nodes.length),(11,.d (nts t.nodes)),(3,.osl 1 (isRs t i) own),(1,.ptr (nb+1) 0 0)]) (loc':=[(1,[[.d (nts t.nodes),.d (ets t.edges)]])]) 19 1 ((isRow t i).map fun b=>[D.raw (.bool b)]) htk.le rfl (by simp [lk,rowsB_eq]) (by simp [lk]) (fun e he=>by obtain ⟨b,_,rfl⟩:=List.mem_map.1 he; rfl) (by simp [ToL,lk,lb_at]; exact to_frzW hrl) (by simp [BoxL,lk])) ?_;try (simp)
   repeat (first|(refine sR ?_; simp)|(refine sC ?_; simp)|(refine sX ?_; simp only [AU, ↓reduceIte]))
   refine ⟨⟨by omega,htk.live⟩,?_⟩;try (simp [hw])
   repeat (first|(refine sR ?_; simp [hw])|(refine sC ?_; simp [hw])|(refine sX ?_; simp only [AU, ↓reduceIte]))
   refine sE ?_;exact ⟨⟨i+1,_,_,_⟩,⟨hlt,htk.app⟩,by simp only; omega,Weaks.mk htk.app.le rfl (by simp [ToL,lk,hs]) (by simp [BoxL,lk])⟩
 ·have:i=t.nodes.length:=by omega
  subst this;have htl:isRs t t.nodes.length=(isTb t).map fun r=>[blB r]:=by unfold isRs; rw [List.take_of_length_le (by simp [isTb])]
  rw [htl];try (simp)
  repeat (first|(refine sR ?_; simp)|(refine sC ?_; simp)|(refine sX ?_; simp only [AU, ↓reduceIte]))
  refine sN ?_;refine AL.ret ?_;try simp only [AU]
  exact ⟨by simp,Fin.data (av:=.d (isD t)) (by simp [resAs,resA]; rfl) hbox rfl htok htk.old htk.le (by simp [packA,isD])⟩
theorem within1_c (x:Int) (box:Bxs) (nb k:Nat) (tok:Tks) (nt:Nat) (t:Ty) (hk:box k=some [[.d (nts t.nodes),.d (ets t.edges)]]) :
  ACalls Tryz.prog 283 [I x,.ptr k 0 0] ⟨box,nb,tok,nt⟩ fun v m=>v=B (decide ((t.nodes.length:Int)≤x))∧m=⟨box,nb,tok,nt⟩:=by
 refine sI Tryz.func283 Tryz.ntmps283 fun hbox htok=>?_
 have kn:=key_lt hbox hk;repeat (first|simp [lb_out kn,hk]|refine sR ?_)
 refine sT (sH hbox htok ?_);simp [packA]
theorem within2_c (x:E) (box:Bxs) (nb k:Nat) (tok:Tks) (nt:Nat) (t:Ty) (hk:box k=some [[.d (nts t.nodes),.d (ets t.edges)]]) :
  ACalls Tryz.prog 284 [.agg [I x.ty,I x.fr,I x.to],.ptr k 0 0] ⟨box,nb,tok,nt⟩ fun v m=>v=B (decide ((t.edges.length:Int)≤x.ty))∧m=⟨box,nb,tok,nt⟩:=by
 refine sI Tryz.func284 Tryz.ntmps284 fun hbox htok=>?_
 have kn:=key_lt hbox hk;repeat (first|simp [lb_out kn,hk]|refine sR ?_)
 refine sT (sH hbox htok ?_);simp [packA]
def wiN (t:Ty) (x:Int):Bool:=decide ((t.nodes.length:Int)≤x)
def wiX (t:Ty) (x:E):Bool:=decide ((t.edges.length:Int)≤x.ty)
theorem typG_wi {t:Ty} {g:Gr} (hv:validG g=0):typG t g=(!anyB (wiN t) g.nodes&&!anyB (wiX t) g.edges):=by
 obtain ⟨_,h1,h2⟩:=validG_types hv;unfold typG anyB;congr 1
 ·rw [Bool.eq_iff_iff,List.all_eq_true,Bool.not_eq_true',List.any_eq_false];refine ⟨fun h x hx=>?_,fun h x hx=>?_⟩
  ·have:=h x hx
   simp [typN,wiN] at this ⊢;omega
  ·have a:=h x hx;have b:=h1 x hx;simp [typN,wiN,withinB] at a b ⊢;omega
 ·rw [Bool.eq_iff_iff,List.all_eq_true,Bool.not_eq_true',List.any_eq_false];refine ⟨fun h x hx=>?_,fun h x hx=>?_⟩
  ·have:=h x hx
   simp [typX,wiX] at this ⊢;omega
  ·have a:=h x hx;have b:=h2 x hx;simp [typX,wiX,fitsB,withinB] at a b ⊢;omega
theorem withinF_c (t:Ty) (ht:t.Fit) (g:Gr) (hg:g.Fit) (hv:validG g=0) (tok:Tks) (nt:Nat):DCall Tryz.prog 239 [t.av,g.av] tok nt (B (typG t g)) tok nt:=by
 intro box nb;have h1:=fun y box nb k tok nt hbk=>within1_c y box nb k tok nt t hbk
 have h2:=fun y box nb k tok nt hbk=>within2_c y box nb k tok nt t hbk
 rw [typG_wi hv];obtain ⟨p,hp⟩:∃ p,wiN t=p:=⟨_,rfl⟩
 obtain ⟨q,hq⟩:∃ q,wiX t=q:=⟨_,rfl⟩
 have e1:∀ y,decide ((t.nodes.length:Int)≤y)=p y:=fun y=>by rw [←hp]; rfl
 have e2:∀ y:E,decide ((t.edges.length:Int)≤y.ty)=q y:=fun y=>by rw [←hq]; rfl
 simp only [e1] at h1;simp only [e2] at h2;rw [hp,hq];have hgn:=hg.n;have hge:=hg.e;refine sI Tryz.func239 Tryz.ntmps239 fun hbox htok=>?_
 repeat (first|simp|refine sR ?_)
 refine Stop.of_b (containsFunc_c g.nodes 283 [.ptr (nb+2) 0 0] p hgn _ _ _ _ (fun c hc=>by rw [List.mem_singleton.1 hc]; simp [lb_at]) (fun y hy box' nb' he=>h1 y box' nb' _ _ _ (he _ _ (by simp [lb_at])))) ?_;simp;cases c1:anyB p g.nodes
 ·repeat (first|simp|refine sR ?_)
  refine Stop.of_b (containsFuncE_c g.edges 284 [.ptr (nb+2) 0 0] q hge _ _ _ _ (fun c hc=>by rw [List.mem_singleton.1 hc]; simp [lb_at]) (fun y hy box' nb' he=>h2 y box' nb' _ _ _ (he _ _ (by simp [lb_at])))) ?_;repeat (first|simp|refine sR ?_)
  refine sT (sH hbox htok ?_);simp [packA]
 ·repeat (first|simp|refine sR ?_)
  refine sT (sH hbox htok ?_);simp [packA]
def QFo (s:Sr) (fm:Nat) (box:Bxs) (nb:Nat) (tok:Tks) (nt:Nat) (v:AV) (m:AMem):Prop :=
 ∃ own' tok' nt',v=.osl 2 (mosR (s.fnP fm s.p.nodes.length [] [])) own'∧m=⟨box,nb,tok',nt'⟩∧TK tok nt tok' nt' [own']
set_option maxRecDepth 100000 in
theorem foundF_c (s:Sr) (h:s.Ok) (h0:tyE s.t=0) (nl:Bool) (hnl:s.Nl nl) (fm:Nat) (hfm:fm≤1000000) (box:Bxs) (nb:Nat) (tok:Tks) (nt:Nat) :
  ACalls Tryz.prog 240 [s.t.av,s.p.av,s.g.av,.agg [.d (ptD nl s.pt.nodes),.d (ptD nl s.pt.edges)],B s.inj,I fm] ⟨box,nb,tok,nt⟩ (QFo s fm box nb tok nt):=by
 have hb:=belowF_c s.t h.t h0;refine sI Tryz.func240 Tryz.ntmps240 fun hbox htok=>?_
 repeat (first|simp|refine sR ?_)
 refine Stop.of_d (hb _ _) ?_;simp;refine AL.weak (Weaks.mk (l':=[(13,.ptr (nb+22) 0 0)]) (loc':=[(22,[[.d (ints s.p.nodes),.d (AM.edges s.p.edges),.d (ints s.g.nodes),.d (AM.edges s.g.edges),.d (isD s.t),.d (ptD nl s.pt.nodes),.d (ptD nl s.pt.edges),B s.inj,I fm,.osl 0 [] .full,.osl 0 [] .full,.osl 2 [] .full]])]) (Nat.le_refl _) rfl (by simp [ToL,lk]) (by simp [BoxL,lk])) ?_;refine AL.trans (Trans.opn (l':=[(13,.ptr (nb+22) 0 0)]) (loc':=[(22,[[.d (ints s.p.nodes),.d (AM.edges s.p.edges),.d (ints s.g.nodes),.d (AM.edges s.g.edges),.d (isD s.t),.d (ptD nl s.pt.nodes),.d (ptD nl s.pt.edges),B s.inj,I fm,.stk nt 1 [],.osl 0 [] .full,.osl 2 [] .full]])]) 1 (by simp [CvL]) ⟨rfl,cvRs_one (cvR_cons .same (cvR_cons .same (cvR_cons .same (cvR_cons .same (cvR_cons .same (cvR_cons .same (cvR_cons .same (cvR_cons .same (cvR_cons .same (cvR_cons .nil (cvR_cons .same (cvR_cons .same cvR_nil)))))))))))),trivial⟩) ?_;refine AL.trans (Trans.opn (l':=[(13,.ptr (nb+22) 0 0)]) (loc':=[(22,[[.d (ints s.p.nodes),.d (AM.edges s.p.edges),.d (ints s.g.nodes),.d (AM.edges s.g.edges),.d (isD s.t),.d (ptD nl s.pt.nodes),.d (ptD nl s.pt.edges),B s.inj,I fm,.stk nt 1 [],.stk (nt+1) 1 [],.osl 2 [] .full]])]) 1 (by simp [CvL]) ⟨rfl,cvRs_one (cvR_cons .same (cvR_cons .same (cvR_cons .same (cvR_cons .same (cvR_cons .same (cvR_cons .same (cvR_cons .same (cvR_cons .same (cvR_cons .same (cvR_cons .same (cvR_cons .nil (cvR_cons .same cvR_nil)))))))))))),trivial⟩) ?_;have htk0:=(TK.start htok).full.full.full.app.swap.app.swap;repeat (first|simp|refine sR ?_)
 refine Stop.of_a (findN_c s h nl hnl fm hfm tok nt s.p.nodes.length [] [] nt (nt+1) .full _ _ (nb+22) _ _ (by simp) (by simp) (by simp [lb_at]) htk0) ?_;rintro v m' ⟨rfl,a,b,own,tok2,nt2,rfl,htk2,hle⟩;try (simp)
 repeat (first|(refine sR ?_; simp)|(refine sC ?_; simp)|(refine sX ?_; simp only [AU, ↓reduceIte]))
 refine sN ?_;refine AL.ret ?_;try simp only [AU]
 have htk3:=htk2.tail.tail;exact ⟨by simp,(Fin.gen (av:=.osl 2 (mosR (s.fnP fm s.p.nodes.length [] [])) own) (tok':=tok2) (nt':=nt2) (by simp [resAs,resA]; rfl) hbox htk3.le (Nat.le_refl _) (fun t h=>⟨h,.inl rfl⟩) (fun k rows _ h=>.inl h) (by simp [packA])).mono fun v m hq=>⟨own,tok2,nt2,hq.1,hq.2,htk3⟩⟩
def stVf (t:Ty) (p g:Gr) (nb:Nat) (box:Bxs) (tok:Tks) (nt:Nat) (i:Nat):AState :=
 ⟨tl [(24,I i),(23,I 2),(22,.d (.sl 2 [[ints p.nodes,AM.edges p.edges],[ints g.nodes,AM.edges g.edges]])),(5,.ptr (nb+5) 0 0),(4,.ptr (nb+4) 0 0),(3,.ptr (nb+3) 0 0)],lb nb box [(5,[[.d (ints g.nodes),.d (AM.edges g.edges)]]),(4,[[.d (ints p.nodes),.d (AM.edges p.edges)]]),(3,[[.d (nts t.nodes),.d (ets t.edges)]])],tok,nt⟩
theorem validF_c (t:Ty) (ht:t.Fit) (p g:Gr) (hp:p.Fit) (hg:g.Fit) (tok:Tks) (nt:Nat):DCall Tryz.prog 178 [t.av,p.av,g.av] tok nt (I (givS t p g)) tok nt:=by
 intro box nb;have hv:=valid_c4 t ht ht.hM;have h1:=graphValid_c p hp;have h2:=graphValid_c g hg;have h3:=withinF_c t ht p hp;have h4:=withinF_c t ht g hg;obtain ⟨R,hR⟩:∃ R,givS t p g=R:=⟨_,rfl⟩
 rw [hR];unfold givS at hR;generalize tyE t=E at *;generalize validG p=V at *;generalize validG g=W at *;refine sI Tryz.func178 Tryz.ntmps178 fun hbox htok=>?_
 repeat (first|simp|refine sR ?_)
 refine Stop.of_d (hv _ _) ?_;simp;by_cases e0:E=0
 ·rw [if_neg (by simp [e0])] at hR;try (simp [e0])
  repeat (first|(refine sR ?_; simp [e0])|(refine sC ?_; simp [e0])|(refine sX ?_; simp only [AU, ↓reduceIte]))
  refine ⟨rfl,?_⟩;try (simp)
  repeat (first|(refine sR ?_; simp)|(refine sC ?_; simp)|(refine sX ?_; simp only [AU, ↓reduceIte]))
  refine sN ?_;refine AL.loopT (stVf t p g nb box tok nt) (fun i=>i≤2∧(1≤i→V=0)∧(2≤i→W=0)) (fun i=>2 - i) 0 ⟨by omega,by omega,by omega⟩ wkA ?_;rintro i S ⟨hi,g0,g1⟩ hS;simp only [stVf] at hS;subst hS;have h012:i=0∨i=1∨i=2:=by omega
  rcases h012 with rfl|rfl|rfl
  ·try (simp)
   repeat (first|(refine sR ?_; simp)|(refine sC ?_; simp)|(refine sX ?_; simp only [AU, ↓reduceIte]))
   refine Stop.of_d (h1 _ _) ?_;simp;by_cases c:V=0
   ·try (simp [c,show IntKind.i64.wrap 1=1 from rfl])
    repeat (first|(refine sR ?_; simp [c,show IntKind.i64.wrap 1=1 from rfl])|(refine sC ?_; simp [c,show IntKind.i64.wrap 1=1 from rfl])|(refine sX ?_; simp only [AU, ↓reduceIte]))
    refine sE ?_;exact ⟨1,⟨by omega,fun h=>by omega⟩,by decide,wkA⟩
   ·have b:(V != 0)=true:=by simp [c]
    rw [if_pos c] at hR;try (simp [b])
    repeat (first|(refine sR ?_; simp [b])|(refine sC ?_; simp [b])|(refine sX ?_; simp only [AU, ↓reduceIte]))
    refine sT (sH hbox htok ?_);simp [packA,hR]
  ·try (simp)
   repeat (first|(refine sR ?_; simp)|(refine sC ?_; simp)|(refine sX ?_; simp only [AU, ↓reduceIte]))
   refine Stop.of_d (h2 _ _) ?_;simp;by_cases c:W=0
   ·try (simp [c,show IntKind.i64.wrap 2=2 from rfl])
    repeat (first|(refine sR ?_; simp [c,show IntKind.i64.wrap 2=2 from rfl])|(refine sC ?_; simp [c,show IntKind.i64.wrap 2=2 from rfl])|(refine sX ?_; simp only [AU, ↓reduceIte]))
    refine sE ?_;exact ⟨2,⟨by omega,fun _=>g0 (by omega)⟩,by decide,wkA⟩
   ·have b:(W != 0)=true:=by simp [c]
    have g0:=g0 (by omega);rw [if_neg (by simp [g0]),if_pos c] at hR;try (simp [b])
    repeat (first|(refine sR ?_; simp [b])|(refine sC ?_; simp [b])|(refine sX ?_; simp only [AU, ↓reduceIte]))
    refine sT (sH hbox htok ?_);simp [packA,hR]
  ·have g0:=g0 (by omega);have g1:=g1 (by omega);rw [if_neg (by simp [g0]),if_neg (by simp [g1])] at hR;have h3:=h3 g0;have h4:=h4 g1;try (simp)
   repeat (first|(refine sR ?_; simp)|(refine sC ?_; simp)|(refine sX ?_; simp only [AU, ↓reduceIte]))
   refine Stop.of_d (h3 _ _) ?_;simp;cases e3:typG t p
   ·rw [e3,if_pos rfl] at hR;try (simp)
    repeat (first|(refine sR ?_; simp)|(refine sC ?_; simp)|(refine sX ?_; simp only [AU, ↓reduceIte]))
    refine sT (sH hbox htok ?_);simp [packA,hR]
   ·rw [e3,if_neg (by simp)] at hR;try (simp)
    repeat (first|(refine sR ?_; simp)|(refine sC ?_; simp)|(refine sX ?_; simp only [AU, ↓reduceIte]))
    refine Stop.of_d (h4 _ _) ?_;simp;cases e4:typG t g
    ·rw [e4,if_pos rfl] at hR;try (simp)
     repeat (first|(refine sR ?_; simp)|(refine sC ?_; simp)|(refine sX ?_; simp only [AU, ↓reduceIte]))
     refine sT (sH hbox htok ?_);simp [packA,hR]
    ·rw [e4,if_neg (by simp)] at hR;try (simp)
     repeat (first|(refine sR ?_; simp)|(refine sC ?_; simp)|(refine sX ?_; simp only [AU, ↓reduceIte]))
     refine sT (sH hbox htok ?_);simp [packA,hR]
 ·rw [if_pos e0] at hR;have b:(E != 0)=true:=by simp [e0]
  try (simp [b])
  repeat (first|(refine sR ?_; simp [b])|(refine sC ?_; simp [b])|(refine sX ?_; simp only [AU, ↓reduceIte]))
  refine sT (sH hbox htok ?_);simp [packA,hR]
theorem opM_nl {t:Ty} {p g:Gr} {inj:Bool}:(allSr t p g inj).Nl true:=by
 constructor
 ·intro _ x hx;exact List.eq_of_mem_replicate hx
 ·intro _ x hx;exact List.eq_of_mem_replicate hx
def QAl (s:Sr) (box:Bxs) (nb:Nat) (tok:Tks) (nt:Nat) (L:List Mo) (v:AV) (m:AMem):Prop :=
 m=⟨box,nb,tok,nt⟩∧(5000<L.length∧v=.tup [.osl 0 [] .full,I 3]∨¬ 5000<L.length∧v=.tup [.d (.sl 2 (mosR L)),I 0])
set_option maxRecDepth 100000 in
theorem allF_c (s:Sr) (h:s.Ok) (h0:tyE s.t=0) (nl:Bool) (hnl:s.Nl nl) (hm:s.most=5000) (tok:Tks) (nt:Nat) :
  ∀ box nb,ACalls Tryz.prog 179 [s.t.av,s.p.av,s.g.av,.agg [.d (ptD nl s.pt.nodes),.d (ptD nl s.pt.edges)],B s.inj] ⟨box,nb,tok,nt⟩ (QAl s box nb tok nt (s.fnR s.p.nodes.length [] [])):=by
 intro box nb;have hf:=s.fnP_fnR h;rw [hm] at hf;have hfo:=foundF_c s h h0 nl hnl 5001 (by omega);have hln:(s.fnP 5001 s.p.nodes.length [] []).length≤5001:=Sr.fnP_len h (by simp)
 rw [←hf];refine sI Tryz.func179 Tryz.ntmps179 fun hbox htok=>?_
 repeat (first|simp|refine sR ?_)
 refine Stop.of_a (hfo _ _ _ _) ?_;rintro v m' ⟨own,tok2,nt2,rfl,rfl,htk⟩;generalize s.fnP 5001 s.p.nodes.length [] []=L at *;by_cases hbig:5000<L.length
 ·have b:decide ((5000:Int)<(L.length:Int))=true:=by simp; omega
  try (simp [b])
  repeat (first|(refine sR ?_; simp [b])|(refine sC ?_; simp [b])|(refine sX ?_; simp only [AU, ↓reduceIte]))
  refine sN ?_;refine AL.ret ?_;try simp only [AU]
  exact ⟨by simp,(Fin.data (av:=.tup [.osl 0 [] .full,I 3]) (by simp [resAs,resA]; rfl) hbox rfl htok htk.old htk.le (by simp [packA])).mono fun v m hq=>⟨hq.2,.inl ⟨hbig,hq.1⟩⟩⟩
 ·have b:decide ((5000:Int)<(L.length:Int))=false:=by simp; omega
  try (simp [b])
  repeat (first|(refine sR ?_; simp [b])|(refine sC ?_; simp [b])|(refine sX ?_; simp only [AU, ↓reduceIte]))
  refine sN ?_;refine AL.ret ?_;try simp only [AU]
  exact ⟨by simp,(Fin.data (av:=.tup [.d (.sl 2 (mosR L)),I 0]) (by simp [resAs,resA]; rfl) hbox rfl htok htk.old htk.le (by simp [packA])).mono fun v m hq=>⟨hq.2,.inr ⟨hbig,hq.1⟩⟩⟩
set_option maxRecDepth 100000 in
theorem allF2_c (t:Ty) (ht:t.Fit) (p g:Gr) (hp:p.Fit) (hg:g.Fit) (inj:Bool) (tok:Tks) (nt:Nat):DCall Tryz.prog 109 [t.av,p.av,g.av,B inj] tok nt (.tup [.d (.sl 2 (mosR (allS t p g inj).1)),I (allS t p g inj).2]) tok nt:=by
 intro box nb;have hv:=validF_c t ht p g hp hg;have main:ACalls Tryz.prog 109 [t.av,p.av,g.av,B inj] ⟨box,nb,tok,nt⟩ fun v m=>(v=.tup [.d (.sl 2 (mosR (allS t p g inj).1)),I (allS t p g inj).2]∨(allS t p g inj).1=[]∧v=.tup [.osl 0 [] .full,I (allS t p g inj).2])∧m=⟨box,nb,tok,nt⟩:=by
  refine sI Tryz.func109 Tryz.ntmps109 fun hbox htok=>?_
  repeat (first|simp|refine sR ?_)
  refine Stop.of_d (hv _ _) ?_;simp;by_cases c1:givS t p g=0
  ·have hok:=allSr_ok (inj:=inj) ht hp hg c1;have h0:tyE t=0:=by
    unfold givS at c1;split at c1
    ·rename_i e; exact absurd c1 e
    ·rename_i e; simpa using e
   have hR:allS t p g inj=if 5000<(allL t p g inj).length then ([],3) else (allL t p g inj,0):=by unfold allS; rw [if_neg (by simp [c1])]
   have hall:=allF_c (allSr t p g inj) hok h0 true opM_nl rfl;have hL:(allSr t p g inj).fnR (allSr t p g inj).p.nodes.length [] []=allL t p g inj:=rfl
   rw [hL] at hall;try (simp [c1])
   repeat (first|(refine sR ?_; simp [c1])|(refine sC ?_; simp [c1])|(refine sX ?_; simp only [AU, ↓reduceIte]))
   refine Stop.sub (args':=[t.av,p.av,g.av,.agg [.d (.raw nilV),.d (.raw nilV)],B inj]) ⟨Sub.refl _,Sub.refl _,Sub.refl _,Sub.agg ⟨Sub.nilv,Sub.nilv,trivial⟩,Sub.refl _,trivial⟩ ?_;refine Stop.of_a (hall _ _ _ _) ?_;generalize allL t p g inj=L at *;rintro v m' ⟨rfl,⟨hb,rfl⟩|⟨hb,rfl⟩⟩
   ·rw [if_pos hb] at hR;try (simp)
    repeat (first|(refine sR ?_; simp)|(refine sC ?_; simp)|(refine sX ?_; simp only [AU, ↓reduceIte]))
    refine sN ?_;refine AL.ret ?_;try simp only [AU]
    exact ⟨by simp,(Fin.data (av:=.tup [.osl 0 [] .full,I 3]) (by simp [resAs,resA]; rfl) hbox rfl htok (fun _ h=>h) (Nat.le_refl _) (by simp [packA])).mono fun v m hq=>⟨.inr ⟨by rw [hR],by rw [hR,hq.1]⟩,hq.2⟩⟩
   ·rw [if_neg hb] at hR;try (simp)
    repeat (first|(refine sR ?_; simp)|(refine sC ?_; simp)|(refine sX ?_; simp only [AU, ↓reduceIte]))
    refine sN ?_;refine AL.ret ?_;try simp only [AU]
    exact ⟨by simp,(Fin.data (av:=.tup [.d (.sl 2 (mosR L)),I 0]) (by simp [resAs,resA]; rfl) hbox rfl htok (fun _ h=>h) (Nat.le_refl _) (by simp [packA])).mono fun v m hq=>⟨.inl (by rw [hR,hq.1]),hq.2⟩⟩
  ·have hR:allS t p g inj=([],givS t p g):=by unfold allS; rw [if_pos c1]
   try (simp [c1])
   repeat (first|(refine sR ?_; simp [c1])|(refine sC ?_; simp [c1])|(refine sX ?_; simp only [AU, ↓reduceIte]))
   refine sN ?_;refine AL.ret ?_;try simp only [AU]
   exact ⟨by simp,(Fin.data (av:=.tup [.osl 0 [] .full,I (givS t p g)]) (by simp [resAs,resA]; rfl) hbox rfl htok (fun _ h=>h) (Nat.le_refl _) (by simp [packA])).mono fun v m hq=>⟨.inr ⟨by rw [hR],by rw [hR,hq.1]⟩,hq.2⟩⟩
 refine main.conv fun v m h=>?_
 obtain ⟨rfl|⟨h1,rfl⟩,rfl⟩:=h
 ·exact ⟨_,_,Conv.refl _ _,rfl,rfl⟩
 ·refine ⟨_,_,Conv.sub (v':=.tup [.d (.sl 2 (mosR (allS t p g inj).1)),I (allS t p g inj).2]) (Sub.tup ⟨?_,Sub.refl _,trivial⟩),rfl,rfl⟩;rw [h1];exact Sub.nil _ _ _
def opB (n:Nat) (k:Int):Bool:=decide (k < -1)||decide ((n:Int)≤k)
def opE (l:List Int) (n:Nat):Int:=if anyB (opB n) l=true then 6 else 0
theorem open1_c (y:Int) (n:Nat) (box:Bxs) (nb k:Nat) (tok:Tks) (nt:Nat) (hk:box k=some [[I n]]) :
  ACalls Tryz.prog 288 [I y,.ptr k 0 0] ⟨box,nb,tok,nt⟩ fun v m=>v=B (opB n y)∧m=⟨box,nb,tok,nt⟩:=by
 refine sI Tryz.func288 Tryz.ntmps288 fun hbox htok=>?_
 have kn:=key_lt hbox hk;by_cases h1:y < -1
 ·try (simp [lb_out kn,hk,h1])
  repeat (first|(refine sR ?_; simp [lb_out kn,hk,h1])|(refine sC ?_; simp [lb_out kn,hk,h1])|(refine sX ?_; simp only [AU, ↓reduceIte]))
  refine sT (sH hbox htok ?_);simp [packA,opB,h1]
 ·try (simp [lb_out kn,hk,h1])
  repeat (first|(refine sR ?_; simp [lb_out kn,hk,h1])|(refine sC ?_; simp [lb_out kn,hk,h1])|(refine sX ?_; simp only [AU, ↓reduceIte]))
  refine sT (sH hbox htok ?_);simp [packA,opB,h1]
theorem openF_c (l:List Int) (hl:l.length≤1000000) (n:Nat) (tok:Tks) (nt:Nat):DCall Tryz.prog 242 [.d (ints l),I n] tok nt (I (opE l n)) tok nt:=by
 intro box nb;have h1:=fun y box nb k tok nt hbk=>open1_c y n box nb k tok nt hbk
 obtain ⟨p,hp⟩:∃ p,opB n=p:=⟨_,rfl⟩
 have he:opE l n=if anyB p l=true then 6 else 0:=by unfold opE; rw [hp]
 rw [hp] at h1;rw [he];refine sI Tryz.func242 Tryz.ntmps242 fun hbox htok=>?_
 repeat (first|simp|refine sR ?_)
 refine Stop.of_b (containsFunc_c l 288 [.ptr (nb+3) 0 0] p hl _ _ _ _ (fun c hc=>by rw [List.mem_singleton.1 hc]; simp [lb_at]) (fun y hy box' nb' he=>h1 y box' nb' _ _ _ (he _ _ (by simp [lb_at])))) ?_;simp;cases hb:anyB p l
 ·try (simp [hb])
  repeat (first|(refine sR ?_; simp [hb])|(refine sC ?_; simp [hb])|(refine sX ?_; simp only [AU, ↓reduceIte]))
  refine sT (sH hbox htok ?_);simp [packA]
 ·try (simp [hb])
  repeat (first|(refine sR ?_; simp [hb])|(refine sC ?_; simp [hb])|(refine sX ?_; simp only [AU, ↓reduceIte]))
  refine sT (sH hbox htok ?_);simp [packA]
def extSr (t:Ty) (p g:Gr) (pt:Mo) (inj:Bool):Sr:=⟨t,p,g,pt,inj,5000⟩
def extL (t:Ty) (p g:Gr) (pt:Mo) (inj:Bool):List Mo:=(extSr t p g pt inj).fnR p.nodes.length [] []
def extS (t:Ty) (p g:Gr) (pt:Mo) (inj:Bool):List Mo × Int:=if givS t p g≠0 then ([],givS t p g) else if pt.nodes.length≠p.nodes.length∨pt.edges.length≠p.edges.length then ([],20)
 else if opE pt.nodes g.nodes.length≠0 then ([],opE pt.nodes g.nodes.length) else if opE pt.edges g.edges.length≠0 then ([],opE pt.edges g.edges.length)
 else if 5000<(extL t p g pt inj).length then ([],3) else (extL t p g pt inj,0)
theorem extSr_ok {t:Ty} {p g:Gr} {pt:Mo} {inj:Bool} (ht:t.Fit) (hp:p.Fit) (hg:g.Fit) (h:givS t p g=0) (h1:pt.nodes.length=p.nodes.length) (h2:pt.edges.length=p.edges.length):(extSr t p g pt inj).Ok:=by
 have a:=allSr_ok (inj:=inj) ht hp hg h;exact ⟨a.t,a.tp,a.p,a.g,a.m,a.vp,h1,h2,a.np,a.ng⟩
set_option maxRecDepth 100000 in
theorem extendF_c (t:Ty) (ht:t.Fit) (p g:Gr) (hp:p.Fit) (hg:g.Fit) (pt:Mo) (hpt:pt.nodes.length≤1000000∧pt.edges.length≤1000000) (inj:Bool) (tok:Tks) (nt:Nat) :
  DCall Tryz.prog 181 [t.av,p.av,g.av,pt.av,B inj] tok nt (.tup [.d (.sl 2 (mosR (extS t p g pt inj).1)),I (extS t p g pt inj).2]) tok nt:=by
 intro box nb;have hv:=validF_c t ht p g hp hg;have ho1:=openF_c pt.nodes hpt.1 g.nodes.length;have ho2:=openF_c pt.edges hpt.2 g.edges.length;have main:ACalls Tryz.prog 181 [t.av,p.av,g.av,pt.av,B inj] ⟨box,nb,tok,nt⟩ fun v m=>(v=.tup [.d (.sl 2 (mosR (extS t p g pt inj).1)),I (extS t p g pt inj).2]∨(extS t p g pt inj).1=[]∧v=.tup [.osl 0 [] .full,I (extS t p g pt inj).2])∧m=⟨box,nb,tok,nt⟩:=by
  have bad:∀ e,extS t p g pt inj=([],e)→∀ (v:AV) (m:AMem),v=.tup [.osl 0 [] .full,I e]∧m=⟨box,nb,tok,nt⟩→(v=.tup [.d (.sl 2 (mosR (extS t p g pt inj).1)),I (extS t p g pt inj).2]∨(extS t p g pt inj).1=[]∧v=.tup [.osl 0 [] .full,I (extS t p g pt inj).2])∧m=⟨box,nb,tok,nt⟩:=fun e hR v m hq=>⟨.inr ⟨by rw [hR],by rw [hR,hq.1]⟩,hq.2⟩
  refine sI Tryz.func181 Tryz.ntmps181 fun hbox htok=>?_
  repeat (first|simp|refine sR ?_)
  refine Stop.of_d (hv _ _) ?_;simp;by_cases c1:givS t p g=0
  ·by_cases l1:pt.nodes.length=p.nodes.length
   ·by_cases l2:pt.edges.length=p.edges.length
    ·have b1:((pt.nodes.length:Int) != (p.nodes.length:Int))=false:=by simp [l1]
     have b2:((pt.edges.length:Int) != (p.edges.length:Int))=false:=by simp [l2]
     have hok:=extSr_ok (inj:=inj) ht hp hg c1 l1 l2;have h0:tyE t=0:=by
      unfold givS at c1;split at c1
      ·rename_i e; exact absurd c1 e
      ·rename_i e; simpa using e
     have hall:=allF_c (extSr t p g pt inj) hok h0 false ⟨fun h=>(nomatch h),fun h=>(nomatch h)⟩ rfl;have hL:(extSr t p g pt inj).fnR (extSr t p g pt inj).p.nodes.length [] []=extL t p g pt inj:=rfl
     rw [hL] at hall;have hnl:¬ (pt.nodes.length≠p.nodes.length∨pt.edges.length≠p.edges.length):=by simp [l1,l2]
     try (simp [c1,l1,l2])
     repeat (first|(refine sR ?_; simp [c1,l1,l2])|(refine sC ?_; simp [c1,l1,l2])|(refine sX ?_; simp only [AU, ↓reduceIte]))
     refine Stop.of_d (ho1 _ _) ?_;simp;by_cases c2:opE pt.nodes g.nodes.length=0
     ·try (simp [c2])
      repeat (first|(refine sR ?_; simp [c2])|(refine sC ?_; simp [c2])|(refine sX ?_; simp only [AU, ↓reduceIte]))
      refine Stop.of_d (ho2 _ _) ?_;simp;by_cases c3:opE pt.edges g.edges.length=0
      ·have hR:extS t p g pt inj=if 5000<(extL t p g pt inj).length then ([],3) else (extL t p g pt inj,0):=by unfold extS; rw [if_neg (by simp [c1]),if_neg hnl,if_neg (by simp [c2]),if_neg (by simp [c3])]
       try (simp [c3])
       repeat (first|(refine sR ?_; simp [c3])|(refine sC ?_; simp [c3])|(refine sX ?_; simp only [AU, ↓reduceIte]))
       refine Stop.of_a (hall _ _ _ _) ?_;generalize extL t p g pt inj=L at *;rintro v m' ⟨rfl,⟨hb,rfl⟩|⟨hb,rfl⟩⟩
       ·rw [if_pos hb] at hR;try (simp)
        repeat (first|(refine sR ?_; simp)|(refine sC ?_; simp)|(refine sX ?_; simp only [AU, ↓reduceIte]))
        refine sN ?_;refine AL.ret ?_;try simp only [AU]
        exact ⟨by simp,(Fin.data (av:=.tup [.osl 0 [] .full,I 3]) (by simp [resAs,resA]; rfl) hbox rfl htok (fun _ h=>h) (Nat.le_refl _) (by simp [packA])).mono (bad _ hR)⟩
       ·rw [if_neg hb] at hR;try (simp)
        repeat (first|(refine sR ?_; simp)|(refine sC ?_; simp)|(refine sX ?_; simp only [AU, ↓reduceIte]))
        refine sN ?_;refine AL.ret ?_;try simp only [AU]
        exact ⟨by simp,(Fin.data (av:=.tup [.d (.sl 2 (mosR L)),I 0]) (by simp [resAs,resA]; rfl) hbox rfl htok (fun _ h=>h) (Nat.le_refl _) (by simp [packA])).mono fun v m hq=>⟨.inl (by rw [hR,hq.1]),hq.2⟩⟩
      ·have hR:extS t p g pt inj=([],opE pt.edges g.edges.length):=by unfold extS; rw [if_neg (by simp [c1]),if_neg hnl,if_neg (by simp [c2]),if_pos c3]
       try (simp [c3])
       repeat (first|(refine sR ?_; simp [c3])|(refine sC ?_; simp [c3])|(refine sX ?_; simp only [AU, ↓reduceIte]))
       refine sN ?_;refine AL.ret ?_;try simp only [AU]
       exact ⟨by simp,(Fin.data (av:=.tup [.osl 0 [] .full,I (opE pt.edges g.edges.length)]) (by simp [resAs,resA]; rfl) hbox rfl htok (fun _ h=>h) (Nat.le_refl _) (by simp [packA])).mono (bad _ hR)⟩
     ·have hR:extS t p g pt inj=([],opE pt.nodes g.nodes.length):=by unfold extS; rw [if_neg (by simp [c1]),if_neg hnl,if_pos c2]
      try (simp [c2])
      repeat (first|(refine sR ?_; simp [c2])|(refine sC ?_; simp [c2])|(refine sX ?_; simp only [AU, ↓reduceIte]))
      refine sN ?_;refine AL.ret ?_;try simp only [AU]
      exact ⟨by simp,(Fin.data (av:=.tup [.osl 0 [] .full,I (opE pt.nodes g.nodes.length)]) (by simp [resAs,resA]; rfl) hbox rfl htok (fun _ h=>h) (Nat.le_refl _) (by simp [packA])).mono (bad _ hR)⟩
    ·have hR:extS t p g pt inj=([],20):=by unfold extS; rw [if_neg (by simp [c1]),if_pos (.inr l2)]
     have b2:((pt.edges.length:Int) != (p.edges.length:Int))=true:=by simp; omega
     try (simp [c1,l1,b2])
     repeat (first|(refine sR ?_; simp [c1,l1,b2])|(refine sC ?_; simp [c1,l1,b2])|(refine sX ?_; simp only [AU, ↓reduceIte]))
     refine sN ?_;refine AL.ret ?_;try simp only [AU]
     exact ⟨by simp,(Fin.data (av:=.tup [.osl 0 [] .full,I 20]) (by simp [resAs,resA]; rfl) hbox rfl htok (fun _ h=>h) (Nat.le_refl _) (by simp [packA])).mono (bad _ hR)⟩
   ·have hR:extS t p g pt inj=([],20):=by unfold extS; rw [if_neg (by simp [c1]),if_pos (.inl l1)]
    have b1:((pt.nodes.length:Int) != (p.nodes.length:Int))=true:=by simp; omega
    try (simp [c1,b1])
    repeat (first|(refine sR ?_; simp [c1,b1])|(refine sC ?_; simp [c1,b1])|(refine sX ?_; simp only [AU, ↓reduceIte]))
    refine sN ?_;refine AL.ret ?_;try simp only [AU]
    exact ⟨by simp,(Fin.data (av:=.tup [.osl 0 [] .full,I 20]) (by simp [resAs,resA]; rfl) hbox rfl htok (fun _ h=>h) (Nat.le_refl _) (by simp [packA])).mono (bad _ hR)⟩
  ·have hR:extS t p g pt inj=([],givS t p g):=by unfold extS; rw [if_pos c1]
   try (simp [c1])
   repeat (first|(refine sR ?_; simp [c1])|(refine sC ?_; simp [c1])|(refine sX ?_; simp only [AU, ↓reduceIte]))
   refine sN ?_;refine AL.ret ?_;try simp only [AU]
   exact ⟨by simp,(Fin.data (av:=.tup [.osl 0 [] .full,I (givS t p g)]) (by simp [resAs,resA]; rfl) hbox rfl htok (fun _ h=>h) (Nat.le_refl _) (by simp [packA])).mono (bad _ hR)⟩
 refine main.conv fun v m h=>?_
 obtain ⟨rfl|⟨h1,rfl⟩,rfl⟩:=h
 ·exact ⟨_,_,Conv.refl _ _,rfl,rfl⟩
 ·refine ⟨_,_,Conv.sub (v':=.tup [.d (.sl 2 (mosR (extS t p g pt inj).1)),I (extS t p g pt inj).2]) (Sub.tup ⟨?_,Sub.refl _,trivial⟩),rfl,rfl⟩;rw [h1];exact Sub.nil _ _ _
theorem openK_c (n:Nat) (by' m:List Int) (hn:n≤1000000) (hb:by'.length≤1000000) (hm:by'.length≤m.length) (hk:∀ k∈by',0≤k∧k<n) (tok:Tks) (nt:Nat) :
  DCall Tryz.prog 180 [I n,.d (ints by'),.d (ints m)] tok nt (.d (ints (imgK n by' m by'.length))) tok nt:=by
 intro box nb;refine sI Tryz.func180 Tryz.ntmps180 fun hbox htok=>?_
 refine sR ?_;simp;refine sR ?_;simp;refine Stop.data ?_;refine Stop.of_d (repeat85_c (-1) n hn _ _) ?_;simp;refine sR ?_;simp;refine sN ?_;refine AL.weak (Weaks.mk (l':=[(13,.d (ints by')),(14,I by'.length),(15,I 0),(7,.ex nt 1 (rI (List.replicate n (-1)))),(2,.d (ints m))]) (loc':=[]) (Nat.le_succ _) rfl (by simp [ToL]) (by simp [BoxL])) ?_;refine AL.trans (Trans.thawI (l':=[(13,.d (ints by')),(14,I by'.length),(15,I 0),(7,.msl (nb+7) 0 n 1),(2,.d (ints m))]) (loc':=[]) nt 7 (List.replicate n (-1)) 7 rfl (by show 7<29; decide) rfl (upd_same _ _ _) rfl
  ⟨rfl,.same,rfl,.same,rfl,.same,rfl,thTo_exI (by simp),rfl,.same,trivial⟩ trivial) ?_
 have htt:∀ t,tok t=true→upd (upd tok nt true) nt false t=true:=fun t ht=>by
  have:=htok t ht
  rw [upd_other _ _ (by omega),upd_other _ _ (by omega)]; exact ht
 generalize upd (upd tok nt true) nt false=tok1 at *;refine AL.loopT (stIm n by' m nb box tok1 (nt+1)) (fun i=>i≤by'.length) (fun i=>by'.length - i) 0 (Nat.zero_le _) (Weaks.mk (Nat.le_succ _) rfl (by simp [ToL,lk]) (by simp [BoxL,lk,imgK])) ?_;rintro i S hi hS;simp only [stIm] at hS;subst hS;have hw:=sW (i:=i) (by omega);have hlen:=imgK_len n by' m i
 refine sR ?_;simp;refine sC ?_;simp;refine ⟨fun hlt=>?_,fun hge=>?_⟩
 ·obtain ⟨k1,k2⟩:=hk _ (List.getElem_mem hlt);have k3:by'[i].toNat<n:=by omega
  have him:i<m.length:=by omega
  refine sR ?_;simp [hlt];refine sR ?_;simp [him,k1,k2,k3,hlen];refine sR ?_;simp [hw];refine sE ?_;exact ⟨i+1,hlt,by omega,Weaks.mk (Nat.le_succ _) rfl (by simp [ToL,lk]) (by simp [BoxL,lk,imgK,hlt,him])⟩
 ·refine sX ?_;simp only [AU, ↓reduceIte];have:i=by'.length:=by omega
  subst this;obtain ⟨R,hR⟩:∃ R,imgK n by' m by'.length=R:=⟨_,rfl⟩
  have hRl:n=R.length:=by rw [←hR]; exact hlen.symm
  rw [hR,hRl];refine AL.weak (Weaks.frz (l':=[(7,.d (ints R))]) (loc':=[]) 7 1 (rI R) (Nat.le_succ _) rfl (by simp [lk,rowsI_eq]) (by simp [lk]) (fun e he=>by obtain ⟨b,_,rfl⟩:=List.mem_map.1 he; rfl) (by simp [ToL]) (by simp [BoxL])) ?_;repeat (first|simp|refine sR ?_)
  refine sT ?_;try simp only [AU]
  refine ⟨by simp,sF hbox htok htt (Nat.le_succ _) ?_⟩;simp [packA]
def xtP (m:Mo) (x:Xt):Mo:=⟨imgK x.g.nodes.length x.m.nodes m.nodes x.m.nodes.length,imgK x.g.edges.length x.m.edges m.edges x.m.edges.length⟩
def xtR (t:Ty) (g:Gr) (m:Mo) (x:Xt):List Mo × Int:=extS t x.g g (xtP m x) true
def xtH (t:Ty) (g:Gr) (m:Mo) (x:Xt):Bool:=decide ((xtR t g m x).2=3)||(decide ((xtR t g m x).2=0)&&decide (0<(xtR t g m x).1.length))
def xtA (t:Ty) (c:Co) (g:Gr) (m:Mo) (n:Nat):Bool:=(c.exts.take n).any (xtH t g m)
theorem xtA_succ {t:Ty} {c:Co} {g:Gr} {m:Mo} {n:Nat} (h:n<c.exts.length):xtA t c g m (n+1)=(xtA t c g m n||xtH t g m c.exts[n]):=by
 unfold xtA;rw [List.take_succ_eq_append_getElem h,List.any_append];simp
theorem xtA_all (t:Ty) (c:Co) (g:Gr) (m:Mo):xtA t c g m c.exts.length=c.exts.any (xtH t g m):=by
 unfold xtA;rw [List.take_length]
theorem xtA_true {t:Ty} {c:Co} {g:Gr} {m:Mo} {n:Nat} (h:xtA t c g m n=true):c.exts.any (xtH t g m)=true:=by
 unfold xtA at h;obtain ⟨x,hx,hp⟩:=List.any_eq_true.1 h;exact List.any_eq_true.2 ⟨x,List.mem_of_mem_take hx,hp⟩
structure XtOk (m:Mo) (x:Xt):Prop where
 fit:x.Fit
 n:x.m.nodes.length≤m.nodes.length
 e:x.m.edges.length≤m.edges.length
 rn:∀ k∈x.m.nodes,0≤k∧k<x.g.nodes.length
 re:∀ k∈x.m.edges,0≤k∧k<x.g.edges.length
def stXx (t:Ty) (c:Co) (g:Gr) (m:Mo) (nb:Nat) (box:Bxs) (tok:Tks) (nt:Nat) (i:Nat):AState :=
 ⟨tl [(17,I i),(16,I c.exts.length),(15,.d (xts c.exts)),(7,.ptr (nb+7) 0 0),(6,.ptr (nb+6) 0 0),(5,.ptr (nb+5) 0 0),(4,.ptr (nb+4) 0 0)],lb nb box [(7,[[.d (ints m.nodes),.d (ints m.edges)]]),(6,[[.d (ints g.nodes),.d (AM.edges g.edges)]]),(5,[c.row]),(4,[[.d (nts t.nodes),.d (ets t.edges)]])],tok,nt⟩
set_option maxRecDepth 100000 in
theorem extended_c (t:Ty) (ht:t.Fit) (c:Co) (hc:c.exts.length≤1000000) (g:Gr) (hg:g.Fit) (m:Mo) (hx:∀ x∈c.exts,XtOk m x) (tok:Tks) (nt:Nat) :
  DCall Tryz.prog 110 [t.av,c.av,g.av,m.av] tok nt (B (c.exts.any (xtH t g m))) tok nt:=by
 intro box nb;refine sI Tryz.func110 Tryz.ntmps110 fun hbox htok=>?_
 have htk0:TK tok nt tok nt []:=TK.start htok
 try (simp)
 repeat (first|(refine sR ?_; simp)|(refine sC ?_; simp)|(refine sX ?_; simp only [AU, ↓reduceIte]))
 refine sN ?_;refine AL.loopT (stXx t c g m nb box tok nt) (fun i=>i≤c.exts.length∧xtA t c g m i=false) (fun i=>c.exts.length - i) 0 ⟨Nat.zero_le _,by simp [xtA]⟩ wkA ?_;rintro i S ⟨hi,hno⟩ hS;simp only [stXx] at hS;subst hS;have hw:=sW (i:=i) (by omega);by_cases hlt:i<c.exts.length
 ·have hlt':(i:Int)<c.exts.length:=by omega
  have hget:c.exts[i]?=some c.exts[i]:=List.getElem?_eq_getElem hlt
  have hsc:=xtA_succ (t:=t) (g:=g) (m:=m) hlt;have hok:=hx c.exts[i] (List.getElem_mem hlt);generalize c.exts[i]=x at *;have hxn:=hok.fit.g.n;have hxe:=hok.fit.g.e;have hmn:=hok.fit.m;have o1:=openK_c x.g.nodes.length x.m.nodes m.nodes (by omega) hmn.n hok.n hok.rn;have o2:=openK_c x.g.edges.length x.m.edges m.edges (by omega) hmn.e hok.e hok.re;have he:=extendF_c t ht x.g g hok.fit.g hg (xtP m x) ⟨by unfold xtP; rw [imgK_len]; omega,by unfold xtP; rw [imgK_len]; omega⟩ true;obtain ⟨R,hR⟩:∃ R,extS t x.g g (xtP m x) true=R:=⟨_,rfl⟩
  have hH:xtH t g m x=(decide (R.2=3)||(decide (R.2=0)&&decide (0<R.1.length))):=by unfold xtH xtR; rw [hR]
  rw [hR] at he;rw [hno,Bool.false_or,hH] at hsc;try (simp [hlt',hget])
  repeat (first|(refine sR ?_; simp [hlt',hget])|(refine sC ?_; simp [hlt',hget])|(refine sX ?_; simp only [AU, ↓reduceIte]))
  refine Stop.of_d (o1 _ _) ?_;simp;try (simp)
  repeat (first|(refine sR ?_; simp)|(refine sC ?_; simp)|(refine sX ?_; simp only [AU, ↓reduceIte]))
  refine Stop.of_d (o2 _ _) ?_;simp;try (simp)
  repeat (first|(refine sR ?_; simp)|(refine sC ?_; simp)|(refine sX ?_; simp only [AU, ↓reduceIte]))
  refine Stop.of_d (he _ _) ?_;simp;by_cases c1:R.2=3
  ·have hb:xtA t c g m (i+1)=true:=by rw [hsc]; simp [c1]
   have hall:c.exts.any (xtH t g m)=true:=xtA_true hb
   rw [hall];have b1:(R.2==3)=true:=by simp [c1]
   try (simp [b1])
   repeat (first|(refine sR ?_; simp [b1])|(refine sC ?_; simp [b1])|(refine sX ?_; simp only [AU, ↓reduceIte]))
   refine sT (sH hbox htok ?_);simp [packA]
  ·have b1:(R.2==3)=false:=by simp [c1]
   by_cases c2:R.2=0
   ·have b2:(R.2==0)=true:=by simp [c2]
    by_cases c3:0<R.1.length
    ·have hb:xtA t c g m (i+1)=true:=by rw [hsc]; simp [c2,c3]
     have hall:c.exts.any (xtH t g m)=true:=xtA_true hb
     rw [hall];have c3':(0:Int)<R.1.length:=by omega
     have hml:(mosR R.1).length=R.1.length:=by simp [mosR]
     try (simp [b1,b2,c3,c3',hml])
     repeat (first|(refine sR ?_; simp [b1,b2,c3,c3',hml])|(refine sC ?_; simp [b1,b2,c3,c3',hml])|(refine sX ?_; simp only [AU, ↓reduceIte]))
     refine sT (sH hbox htok ?_);simp [packA]
    ·have hb:xtA t c g m (i+1)=false:=by rw [hsc]; simp [c1,c3]
     have c3':¬ (0:Int)<R.1.length:=by omega
     have hml:(mosR R.1).length=R.1.length:=by simp [mosR]
     try (simp [b1,b2,c3,c3',hml,hw])
     repeat (first|(refine sR ?_; simp [b1,b2,c3,c3',hml,hw])|(refine sC ?_; simp [b1,b2,c3,c3',hml,hw])|(refine sX ?_; simp only [AU, ↓reduceIte]))
     refine sE ?_;exact ⟨i+1,⟨hlt,hb⟩,by omega,wkA⟩
   ·have hb:xtA t c g m (i+1)=false:=by rw [hsc]; simp [c1,c2]
    have b2:(R.2==0)=false:=by simp [c2]
    try (simp [b1,b2,hw])
    repeat (first|(refine sR ?_; simp [b1,b2,hw])|(refine sC ?_; simp [b1,b2,hw])|(refine sX ?_; simp only [AU, ↓reduceIte]))
    refine sE ?_;exact ⟨i+1,⟨hlt,hb⟩,by omega,wkA⟩
 ·have:i=c.exts.length:=by omega
  subst this;rw [xtA_all] at hno;rw [hno];try (simp)
  repeat (first|(refine sR ?_; simp)|(refine sC ?_; simp)|(refine sX ?_; simp only [AU, ↓reduceIte]))
  refine sT (sH hbox htok ?_);simp [packA]
def valE (A:List At) (vals:List Int) (i:Nat):Int:=if vals.getD i 0<(A.getD i ⟨eB,0,0,[]⟩).lo∨(A.getD i ⟨eB,0,0,[]⟩).hi<vals.getD i 0 then 6 else 0
def hnodE (t:Ty) (A:List At) (k:Int) (vals:List Int):Int :=
 if (t.nodes.length:Int)≤k then 6 else if (t.nd k.toNat).abs=true then 13 else if vals.length≠A.length then 20 else firstE (valE A vals) A.length
def stNdE (A:List At) (vals:List Int) (nb:Nat) (box:Bxs) (tok:Tks) (nt:Nat) (i:Nat):AState :=
 ⟨tl [(33,.d (atts A)),(34,I A.length),(35,I i),(2,.d (ints vals))],lb nb box [],tok,nt⟩
set_option maxRecDepth 100000 in
theorem hnode_c (t:Ty) (A:List At) (hA:A.length≤1000000) (k:Int) (hk:0≤k) (vals:List Int) (tok:Tks) (nt:Nat)
  (hat:k<(t.nodes.length:Int)→(t.nd k.toNat).abs=false→DCall Tryz.prog 265 [t.av,I k] tok nt (.tup [.d (atts A),I 0]) tok nt) :
  DCall Tryz.prog 229 [t.av,I k,.d (ints vals)] tok nt (I (hnodE t A k vals)) tok nt:=by
 intro box nb;obtain ⟨Res,hRes⟩:∃ Res,hnodE t A k vals=Res:=⟨_,rfl⟩
 rw [hRes];unfold hnodE at hRes;refine sI Tryz.func229 Tryz.ntmps229 fun hbox htok=>?_
 by_cases c1:(t.nodes.length:Int)≤k
 ·have b1:decide ((t.nodes.length:Int)≤k)=true:=by simpa using c1
  rw [if_pos c1] at hRes;subst hRes;try (simp [c1,b1])
  repeat (first|(refine sR ?_; simp [c1,b1])|(refine sC ?_; simp [c1,b1])|(refine sX ?_; simp only [AU, ↓reduceIte]))
  refine sT (sH hbox htok ?_);simp [packA]
 rw [if_neg c1] at hRes;have b1:decide ((t.nodes.length:Int)≤k)=false:=by simpa using c1
 have hk1:k.toNat<t.nodes.length:=by omega
 have hk2:k<(t.nodes.length:Int):=by omega
 have hnd:t.nd k.toNat=t.nodes[k.toNat]:=by simp [Ty.nd,hk1]
 rw [hnd] at hRes hat;cases e1:t.nodes[k.toNat].abs
 ·rw [e1] at hRes;simp only [Bool.false_eq_true, ↓reduceIte] at hRes;have hat:=hat hk2 e1;try (simp [c1,b1,hk,hk1,hk2,e1])
  repeat (first|(refine sR ?_; simp [c1,b1,hk,hk1,hk2,e1])|(refine sC ?_; simp [c1,b1,hk,hk1,hk2,e1])|(refine sX ?_; simp only [AU, ↓reduceIte]))
  refine Stop.of_d (hat) ?_;simp;by_cases c2:vals.length=A.length
  ·have b2:((vals.length:Int) != (A.length:Int))=false:=by simp [c2]
   rw [if_neg (fun h=>h c2)] at hRes;try (simp [b2,c2])
   repeat (first|(refine sR ?_; simp [b2,c2])|(refine sC ?_; simp [b2,c2])|(refine sX ?_; simp only [AU, ↓reduceIte]))
   refine sN ?_;refine AL.loopT (stNdE A vals nb box tok nt) (fun i=>i≤A.length∧firstE (valE A vals) i=0) (fun i=>A.length - i) 0 ⟨Nat.zero_le _,rfl⟩ wkA ?_;rintro i S ⟨hi,h0⟩ hS;simp only [stNdE] at hS;subst hS;have hw:=sW (i:=i) (by omega);repeat (first|simp|refine sR ?_|refine sC ?_)
   refine ⟨fun hlt=>?_,fun hge=>?_⟩
   ·have hv:i<vals.length:=by omega
    have hve:valE A vals i=if vals[i]<A[i].lo∨A[i].hi<vals[i] then 6 else 0:=by simp [valE,hv,hlt]
    by_cases c3:vals[i]<A[i].lo
    ·have b3:decide (vals[i]<A[i].lo)=true:=by simpa using c3
     rw [if_pos (.inl c3)] at hve;rw [firstE_stop h0 (by rw [hve]; decide) _ hlt,hve] at hRes;subst hRes;try (simp [hlt,hv,c3,b3])
     repeat (first|(refine sR ?_; simp [hlt,hv,c3,b3])|(refine sC ?_; simp [hlt,hv,c3,b3])|(refine sX ?_; simp only [AU, ↓reduceIte]))
     refine sT (sH hbox htok ?_);simp [packA]
    ·have b3:decide (vals[i]<A[i].lo)=false:=by simpa using c3
     by_cases c4:A[i].hi<vals[i]
     ·have b4:decide (A[i].hi<vals[i])=true:=by simpa using c4
      rw [if_pos (.inr c4)] at hve;rw [firstE_stop h0 (by rw [hve]; decide) _ hlt,hve] at hRes;subst hRes;try (simp [hlt,hv,c3,b3,c4,b4])
      repeat (first|(refine sR ?_; simp [hlt,hv,c3,b3,c4,b4])|(refine sC ?_; simp [hlt,hv,c3,b3,c4,b4])|(refine sX ?_; simp only [AU, ↓reduceIte]))
      refine sT (sH hbox htok ?_);simp [packA]
     ·have b4:decide (A[i].hi<vals[i])=false:=by simpa using c4
      rw [if_neg (fun h=>h.elim c3 c4)] at hve;try (simp [hlt,hv,c3,b3,c4,b4,hw])
      repeat (first|(refine sR ?_; simp [hlt,hv,c3,b3,c4,b4,hw])|(refine sC ?_; simp [hlt,hv,c3,b3,c4,b4,hw])|(refine sX ?_; simp only [AU, ↓reduceIte]))
      refine sE ?_;exact ⟨i+1,⟨hlt,by simp only [firstE,h0, ↓reduceIte]; exact hve⟩,by omega,wkA⟩
   ·refine sX ?_;simp only [AU, ↓reduceIte];have:i=A.length:=by omega
    subst this;rw [h0] at hRes;subst hRes;try (simp)
    repeat (first|(refine sR ?_; simp)|(refine sC ?_; simp)|(refine sX ?_; simp only [AU, ↓reduceIte]))
    refine sT (sH hbox htok ?_);simp [packA]
  ·have b2:((vals.length:Int) != (A.length:Int))=true:=by simpa using fun h=>c2 (by omega)
   rw [if_pos c2] at hRes;subst hRes;try (simp [b2,c2])
   repeat (first|(refine sR ?_; simp [b2,c2])|(refine sC ?_; simp [b2,c2])|(refine sX ?_; simp only [AU, ↓reduceIte]))
   refine sT (sH hbox htok ?_);simp [packA]
 ·rw [e1,if_pos rfl] at hRes;subst hRes;try (simp [c1,b1,hk,hk1,hk2,e1])
  repeat (first|(refine sR ?_; simp [c1,b1,hk,hk1,hk2,e1])|(refine sC ?_; simp [c1,b1,hk,hk1,hk2,e1])|(refine sX ?_; simp only [AU, ↓reduceIte]))
  refine sT (sH hbox htok ?_);simp [packA]
variable {P:Program}
variable {P:Program}
def AV.mpF (t:Nat):AV→AV
 | .mp t' es=>if t'=t then .mpd (mpE es) else .mp t' es
 | x=>x
def AV.mpU (t nt:Nat) (es':List (ByteArray × List (List D) × Own)):AV→AV
 | .mp t' es=>if t'=t then .mp nt es' else .mp t' es
 | x=>x
inductive QuTo (t sz:Nat):AV→AV→Prop
 | bot {x}:QuTo t sz x .bot
 | same {x}:QuTo t sz x x
 | nil {n}:QuTo t sz (.osl n [] .full) (.que t sz [])
 | tok {t' s es}:QuTo t sz (.osl s es (.tok t')) (.que t' s es)
section
variable {t sz:Nat}
@[simp] theorem quTo_bot (x:AV):QuTo t sz x .bot:=.bot
@[simp] theorem quTo_same (x:AV):QuTo t sz x x:=.same
@[simp] theorem quTo_nil (n:Nat):QuTo t sz (.osl n [] .full) (.que t sz []):=.nil
@[simp] theorem quTo_tok (t' s:Nat) (es:List (List D)):QuTo t sz (.osl s es (.tok t')) (.que t' s es):=.tok
end
section
variable {p:Nat→Prop} {fz:Option (Nat × Nat × List (List D))}
@[simp] theorem to_mp (t:Nat) (es:List (ByteArray × List (List D) × Own)):To p (fun _=>True) fz (.mp t es) (.mp t es):=.same (.mp trivial fun _ _ _ _=>trivial)
@[simp] theorem to_mpd {q:Nat→Prop} (es:List (ByteArray × List (List D))):To p q fz (.mpd es) (.mpd es):=.same .mpd
@[simp] theorem okIn_mpd {q:Nat→Prop} {es:List (ByteArray × List (List D))}:OkIn p q (.mpd es):=.mpd
end
attribute [simp] fM AV.mpF AV.mpU
variable {P:Program}
def notR (l:List Bool):List Bool:=l.map fun b=>!b
def allR (n:Nat):List Bool:=notR (List.replicate n false)
@[simp] theorem notR_len (l:List Bool):(notR l).length=l.length:=by simp [notR]
@[simp] theorem allR_len (n:Nat):(allR n).length=n:=by simp [allR]
def someR (nx:List (List Int)) (l:List Bool):List Bool:=nx.map fun r=>r.any fun k=>l.getD k.toNat false
@[simp] theorem someR_len (nx:List (List Int)) (l:List Bool):(someR nx l).length=nx.length:=by simp [someR]
abbrev rBo (xs:List Bool):List (List D):=xs.map fun b=>[D.raw (.bool b)]
abbrev bools (xs:List Bool):D:=.sl 1 (rBo xs)
abbrev lls (l:List (List Int)):D:=.sl 1 (l.map fun r=>[ints r])
def firstX (f:Nat→Int):Nat→Nat
 | 0=>0
 | n+1=>if firstE f n=0 then n else firstX f n
theorem firstX_stop {f:Nat→Int} {i:Nat} (h0:firstE f i=0) (h:f i≠0):∀ n,i<n→firstX f n=i
 | 0,hn=>by omega
 | n+1,hn=>by
  simp only [firstX];by_cases e:i=n
  ·subst e; rw [if_pos h0]
  ·rw [firstE_stop h0 h n (by omega),if_neg h,firstX_stop h0 h n (by omega)]
structure Hs where
 g:Gr
 vals:List (List Int)
abbrev Hs.av (h:Hs):AV:=.agg [.d (ints h.g.nodes),.d (AM.edges h.g.edges),.d (lls h.vals)]
def hndE (t:Ty) (A:Int→List At) (h:Hs) (i:Nat):Int:=hnodE t (A (h.g.nodes.getD i 0)) (h.g.nodes.getD i 0) (h.vals.getD i [])
def hedE (t:Ty) (h:Hs) (i:Nat):Int:=if (t.edges.length:Int)≤(h.g.edges.getD i default).ty then 6 else if fitB t (h.g.edges.getD i default).ty (h.g.nodes.getD (h.g.edges.getD i default).fr.toNat 0) (h.g.nodes.getD (h.g.edges.getD i default).to.toNat 0)=true then 0 else 13
def hostR (t:Ty) (A:Int→List At) (h:Hs):Int × Int :=
 if tyE t≠0 then (-1,tyE t) else if validG h.g≠0 then (-1,validG h.g) else if h.vals.length≠h.g.nodes.length then (-1,20)
 else if firstE (hndE t A h) h.g.nodes.length≠0 then ((firstX (hndE t A h) h.g.nodes.length:Nat),firstE (hndE t A h) h.g.nodes.length)
 else if firstE (hedE t h) h.g.edges.length≠0 then ((firstX (hedE t h) h.g.edges.length:Nat),firstE (hedE t h) h.g.edges.length) else (-1,0)
def stHvN (t:Ty) (h:Hs) (nb:Nat) (box:Bxs) (tok:Tks) (nt:Nat) (i:Nat):AState :=
 ⟨tl [(38,.d (ints h.g.nodes)),(39,I h.g.nodes.length),(40,I i),(3,.ptr (nb+3) 0 0),(2,.ptr (nb+2) 0 0)],lb nb box [(3,[[.d (ints h.g.nodes),.d (AM.edges h.g.edges),.d (lls h.vals)]]),(2,[[.d (nts t.nodes),.d (ets t.edges)]])],tok,nt⟩
def stHvE (t:Ty) (h:Hs) (nb:Nat) (box:Bxs) (tok:Tks) (nt:Nat) (i:Nat):AState :=
 ⟨tl [(60,.d (AM.edges h.g.edges)),(61,I h.g.edges.length),(62,I i),(3,.ptr (nb+3) 0 0),(2,.ptr (nb+2) 0 0)],lb nb box [(3,[[.d (ints h.g.nodes),.d (AM.edges h.g.edges),.d (lls h.vals)]]),(2,[[.d (nts t.nodes),.d (ets t.edges)]])],tok,nt⟩
set_option maxRecDepth 100000 in
theorem hostValid_c (t:Ty) (ht:t.Fit) (hM:∀ i,(t.nd i).own.length≤1000) (A:Int→List At) (hA:∀ k,(A k).length≤1000000) (h:Hs) (hg:h.g.Fit) (hv:h.vals.length≤1000000) (tok:Tks) (nt:Nat)
  (hat:tyE t=0→∀ k:Int,0≤k→k<(t.nodes.length:Int)→(t.nd k.toNat).abs=false→DCall Tryz.prog 265 [t.av,I k] tok nt (.tup [.d (atts (A k)),I 0]) tok nt) :
  DCall Tryz.prog 154 [t.av,h.av] tok nt (.tup [I (hostR t A h).1,I (hostR t A h).2]) tok nt:=by
 intro box nb;obtain ⟨Res,hRes⟩:∃ Res,hostR t A h=Res:=⟨_,rfl⟩
 rw [hRes];unfold hostR at hRes;have hty:=valid_c4 t ht hM;have hgv:=graphValid_c h.g hg;have hgn:=hg.n;have hge:=hg.e;refine sI Tryz.func154 Tryz.ntmps154 fun hbox htok=>?_
 repeat (first|simp|refine sR ?_)
 refine Stop.of_d (hty _ _) ?_;simp;by_cases c1:tyE t=0
 ·rw [if_neg (fun e=>e c1)] at hRes;have hat:=hat c1;try (simp [c1])
  repeat (first|(refine sR ?_; simp [c1])|(refine sC ?_; simp [c1])|(refine sX ?_; simp only [AU, ↓reduceIte]))
  refine Stop.of_d (hgv _ _) ?_;simp;by_cases c2:validG h.g=0
  ·rw [if_neg (fun e=>e c2)] at hRes;by_cases c3:h.vals.length=h.g.nodes.length
   ·have b3:((h.vals.length:Int) != (h.g.nodes.length:Int))=false:=by simp [c3]
    rw [if_neg (fun e=>e c3)] at hRes;have hn0:∀ x∈h.g.nodes,0≤x:=fun x hx=>by
     have:=(validG_types c2).2.1 x hx
     simp [withinB] at this;exact this.1
    have hed:=validG_edges c2;try (simp [c2,b3,c3])
    repeat (first|(refine sR ?_; simp [c2,b3,c3])|(refine sC ?_; simp [c2,b3,c3])|(refine sX ?_; simp only [AU, ↓reduceIte]))
    refine sN ?_;refine AL.loopT (stHvN t h nb box tok nt) (fun i=>i≤h.g.nodes.length∧firstE (hndE t A h) i=0) (fun i=>h.g.nodes.length - i) 0 ⟨Nat.zero_le _,rfl⟩ wkA ?_;rintro i S ⟨hi,h0⟩ hS;simp only [stHvN] at hS;subst hS;have hw:=sW (i:=i) (by omega);repeat (first|simp|refine sR ?_|refine sC ?_)
    refine ⟨fun hlt=>?_,fun hge2=>?_⟩
    ·have hv1:i<h.vals.length:=by omega
     have hk0:=hn0 _ (List.getElem_mem hlt);have hnc:=hnode_c t (A h.g.nodes[i]) (hA _) h.g.nodes[i] hk0 h.vals[i] tok nt (fun e1 e2=>hat _ hk0 e1 e2);have hne:hndE t A h i=hnodE t (A h.g.nodes[i]) h.g.nodes[i] h.vals[i]:=by simp [hndE,hlt,hv1]
     rw [←hne] at hnc;try (simp [hlt,hv1])
     repeat (first|(refine sR ?_; simp [hlt,hv1])|(refine sC ?_; simp [hlt,hv1])|(refine sX ?_; simp only [AU, ↓reduceIte]))
     refine Stop.of_d (hnc) ?_;simp;by_cases c4:hndE t A h i=0
     ·try (simp [c4,hw])
      repeat (first|(refine sR ?_; simp [c4,hw])|(refine sC ?_; simp [c4,hw])|(refine sX ?_; simp only [AU, ↓reduceIte]))
      refine sE ?_;exact ⟨i+1,⟨hlt,by simp only [firstE,h0, ↓reduceIte]; exact c4⟩,by omega,wkA⟩
     ·have b4:(hndE t A h i != 0)=true:=by simpa using c4
      have e1:=firstE_stop h0 c4 _ hlt;have e2:=firstX_stop h0 c4 _ hlt;rw [e1,e2,if_pos c4] at hRes;subst hRes;try (simp [c4,b4])
      repeat (first|(refine sR ?_; simp [c4,b4])|(refine sC ?_; simp [c4,b4])|(refine sX ?_; simp only [AU, ↓reduceIte]))
      refine sT (sH hbox htok ?_);simp [packA]
    ·refine sX ?_;simp only [AU, ↓reduceIte];have:i=h.g.nodes.length:=by omega
     subst this;rw [if_neg (fun e=>e h0)] at hRes;try (simp)
     repeat (first|(refine sR ?_; simp)|(refine sC ?_; simp)|(refine sX ?_; simp only [AU, ↓reduceIte]))
     refine sN ?_;refine AL.loopT (stHvE t h nb box tok nt) (fun i=>i≤h.g.edges.length∧firstE (hedE t h) i=0) (fun i=>h.g.edges.length - i) 0 ⟨Nat.zero_le _,rfl⟩ wkA ?_;rintro i S ⟨hi,h0e⟩ hS;simp only [stHvE] at hS;subst hS;have hw:=sW (i:=i) (by omega);repeat (first|simp|refine sR ?_|refine sC ?_)
     refine ⟨fun hlt=>?_,fun hge2=>?_⟩
     ·obtain ⟨e1,e2,e3,e4⟩:=hed _ (List.getElem_mem hlt);have hde:hedE t h i=if (t.edges.length:Int)≤h.g.edges[i].ty then 6 else if fitB t h.g.edges[i].ty (h.g.nodes.getD h.g.edges[i].fr.toNat 0) (h.g.nodes.getD h.g.edges[i].to.toNat 0)=true then 0 else 13:=by simp [hedE,hlt]
      repeat (first|simp [hlt]|refine sR ?_)
      generalize h.g.edges[i]=x at *;have f1:x.fr.toNat<h.g.nodes.length:=by omega
      have f2:x.to.toNat<h.g.nodes.length:=by omega
      rw [show h.g.nodes.getD x.fr.toNat 0=h.g.nodes[x.fr.toNat] by simp [f1],show h.g.nodes.getD x.to.toNat 0=h.g.nodes[x.to.toNat] by simp [f2]] at hde;have hfc:=fits_c4 t ht x.ty h.g.nodes[x.fr.toNat] h.g.nodes[x.to.toNat];by_cases c5:(t.edges.length:Int)≤x.ty
      ·have b5:decide ((t.edges.length:Int)≤x.ty)=true:=by simpa using c5
       rw [if_pos c5] at hde;have g1:=firstE_stop h0e (by rw [hde]; decide) _ hlt;have g2:=firstX_stop h0e (by rw [hde]; decide) _ hlt;rw [g1,g2,hde] at hRes;rw [if_pos (by decide)] at hRes;subst hRes;try (simp [c5,b5])
       repeat (first|(refine sR ?_; simp [c5,b5])|(refine sC ?_; simp [c5,b5])|(refine sX ?_; simp only [AU, ↓reduceIte]))
       refine sT (sH hbox htok ?_);simp [packA]
      ·have b5:decide ((t.edges.length:Int)≤x.ty)=false:=by simpa using c5
       rw [if_neg c5] at hde;try (simp [c5,b5,e1,e2,e3,e4,f1,f2])
       repeat (first|(refine sR ?_; simp [c5,b5,e1,e2,e3,e4,f1,f2])|(refine sC ?_; simp [c5,b5,e1,e2,e3,e4,f1,f2])|(refine sX ?_; simp only [AU, ↓reduceIte]))
       refine Stop.of_d (hfc _ _) ?_;simp;cases e6:fitB t x.ty h.g.nodes[x.fr.toNat] h.g.nodes[x.to.toNat]
       ·rw [e6] at hde;simp only [Bool.false_eq_true, ↓reduceIte] at hde;have g1:=firstE_stop h0e (by rw [hde]; decide) _ hlt;have g2:=firstX_stop h0e (by rw [hde]; decide) _ hlt;rw [g1,g2,hde] at hRes;rw [if_pos (by decide)] at hRes;subst hRes;try (simp [e6])
        repeat (first|(refine sR ?_; simp [e6])|(refine sC ?_; simp [e6])|(refine sX ?_; simp only [AU, ↓reduceIte]))
        refine sT (sH hbox htok ?_);simp [packA]
       ·rw [e6,if_pos rfl] at hde;try (simp [e6,hw])
        repeat (first|(refine sR ?_; simp [e6,hw])|(refine sC ?_; simp [e6,hw])|(refine sX ?_; simp only [AU, ↓reduceIte]))
        refine sE ?_;exact ⟨i+1,⟨hlt,by simp only [firstE,h0e, ↓reduceIte]; exact hde⟩,by omega,wkA⟩
     ·refine sX ?_;simp only [AU, ↓reduceIte];have:i=h.g.edges.length:=by omega
      subst this;rw [if_neg (fun e=>e h0e)] at hRes;subst hRes;try (simp)
      repeat (first|(refine sR ?_; simp)|(refine sC ?_; simp)|(refine sX ?_; simp only [AU, ↓reduceIte]))
      refine sT (sH hbox htok ?_);simp [packA]
   ·have b3:((h.vals.length:Int) != (h.g.nodes.length:Int))=true:=by simpa using fun e=>c3 (by omega)
    rw [if_pos c3] at hRes;subst hRes;try (simp [c2,b3,c3])
    repeat (first|(refine sR ?_; simp [c2,b3,c3])|(refine sC ?_; simp [c2,b3,c3])|(refine sX ?_; simp only [AU, ↓reduceIte]))
    refine sT (sH hbox htok ?_);simp [packA]
  ·have b2:(validG h.g != 0)=true:=by simpa using c2
   rw [if_pos c2] at hRes;subst hRes;try (simp [b2,c2])
   repeat (first|(refine sR ?_; simp [b2,c2])|(refine sC ?_; simp [b2,c2])|(refine sX ?_; simp only [AU, ↓reduceIte]))
   refine sT (sH hbox htok ?_);simp [packA]
 ·have b1:(tyE t != 0)=true:=by simpa using c1
  rw [if_pos c1] at hRes;subst hRes;try (simp [b1,c1])
  repeat (first|(refine sR ?_; simp [b1,c1])|(refine sC ?_; simp [b1,c1])|(refine sX ?_; simp only [AU, ↓reduceIte]))
  refine sT (sH hbox htok ?_);simp [packA]
end Go.AM
