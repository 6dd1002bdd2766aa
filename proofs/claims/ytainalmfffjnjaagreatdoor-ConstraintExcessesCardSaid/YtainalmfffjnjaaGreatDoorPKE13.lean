/-
 Parts of the proof, as merged from many texts: a machine over data, what the functions compute, plain laws.
-/
import Derived.Test.YtainalmfffjnjaaGreatDoorPKE12
import Derived.WalkKit
import Derived.ProofKit
import Derived.OpenShut
import Derived.ChangeStays
import Derived.SizedLaws
set_option linter.unusedSimpArgs false
set_option linter.unusedVariables false
namespace Go.AM
open Go
variable {P:Program}
def splitOk5 (n:Nat) (ops:Array Oper) (o:Oper):Bool:=(allocOk ops&&dstOk n ops&&regOk5 ops)&&(regionOk n #[o] false&&(downOk (ops.push o)&&(tiedAll (ops.push o) ops.size&&(guardOk ops&&o.guard.isNone))))
def lateOk (L:Array Oper) (q:Nat):Bool:=(List.range L.size).all fun i=>decide (i<q)||(match L[i]? with|some x=>(direct x).any fun j=>decide (q - 1≤j)&&decide (j<L.size)|none=>true)
theorem lateOk_spec {L:Array Oper} {q:Nat} (h:lateOk L q=true) {i:Nat} {x:Oper} (hx:L[i]?=some x) (hi:q≤i):∃ j∈direct x,q - 1≤j∧j<L.size:=by
 have hs:=(Array.getElem?_eq_some_iff.1 hx).1;have h1:=List.all_eq_true.1 h i (by simpa using hs);rw [hx,Bool.or_eq_true] at h1;rcases h1 with h1|h1
 ·have:=of_decide_eq_true h1; omega
 ·obtain ⟨j,hj,h2⟩:=List.any_eq_true.1 h1;rw [Bool.and_eq_true] at h2;exact ⟨j,hj,of_decide_eq_true h2.1,of_decide_eq_true h2.2⟩
theorem count_set_false {l:List Bool} {i k:Nat} (h:l[i]?=some false) (hc:l.count false=k+1):(l.set i true).count false=k:=by
 induction l generalizing i k with
 | nil=>simp at h
 | cons b l ih =>
  cases i with
  | zero =>
   have hb:b=false:=by simpa using h
   subst hb;rw [List.count_cons] at hc;simp only [List.set_cons_zero,List.count_cons];simp at hc ⊢;omega
  | succ i =>
   have h':l[i]?=some false:=by simpa using h
   have hp:0<l.count false:=by
    rw [List.count_pos_iff];exact List.mem_of_getElem? h'
   rw [List.count_cons] at hc;rw [List.set_cons_succ,List.count_cons];have:=ih (k:=l.count false - 1) h' (by omega)
   omega
theorem count_zero_all {l:Array Bool} (h:l.toList.count false=0) {i:Nat} (hi:i<l.size):l[i]?=some true:=by
 rw [List.count_eq_zero] at h;have:l[i]∈l.toList:=by simp
 rw [Array.getElem?_eq_getElem hi];cases e:l[i] with
 | true=>rfl
 | false=>rw [e] at this; exact absurd this h
theorem wpAny_more {L ops:Array Oper} {q:Nat} {Q Q':Exit→Act→World→Prop} (hx:L.extract 0 q=ops) (hq:q≤L.size) (hq0:0<q) (hdown:downOk ops=true) (htied:tiedAll ops (q - 1)=true) (hgo:guardOk ops=true) (hlate:lateOk L q=true)
    (hQ:∀ e a w,e≠.normal→Q' e a w→Q e a w) (hn:∀ a w,Q' .normal a w→wpAny P .any L Q (L.size - q) (Array.replicate q true++Array.replicate (L.size - q) false) a w) :
    ∀ (fuel:Nat) (l':Array Bool),l'.size=q→l'.toList.count false=fuel→(∀ i x,ops[i]?=some x→l'.getD i false=true→∀ j∈direct x,l'.getD j false=true) →
      ∀ a w,wpAny P .any ops Q' fuel l' a w→wpAny P .any L Q (fuel+(L.size - q)) (l'++Array.replicate (L.size - q) false) a w:=by
  have hsz:ops.size=q:=by rw [←hx,Array.size_extract]; omega
  have hat:∀ i,i<q→L[i]?=ops[i]?:=fun i hi=>by
    rw [←hx,Array.getElem?_extract];have:i<min q L.size:=by omega
    simp [this]
  have full:∀ (l':Array Bool),l'.size=q→(∀ i,i<q→l'[i]?=some true)→l'=Array.replicate q true:=by
    intro l' h1 h2;refine Array.ext (by simp [h1]) fun i h3 h4=>?_
    have:=h2 i (by omega)
    rw [Array.getElem?_eq_getElem h3] at this;simp only [Option.some.injEq] at this;rw [this];simp
  intro fuel;induction fuel with
  | zero =>
    intro l' h1 h2 hcl a w h;rw [full l' h1 fun i hi=>count_zero_all h2 (by omega),Nat.zero_add];exact hn a w h.2
  | succ k ih =>
    intro l' h1 h2 hcl a w h;have hval:∀ i,i<q→l'[i]?=some true∨l'[i]?=some false:=fun i hi=>by
      rw [Array.getElem?_eq_getElem (by omega)];cases l'[i] <;> simp
    have hnall:¬ ∀ i,i<q→l'[i]?=some true:=fun h3=>by
      rw [full l' h1 h3] at h2;simp [List.count_replicate] at h2
    -- the last one is not listed
    have hlast:l'[q - 1]?=some false:=by
      rcases hval (q - 1) (by omega) with e|e
      · exfalso
        refine hnall ?_;have hD:∀ n j,q - 1 - j≤n→j<q→l'[j]?=some true:=by
          intro n;induction n with
          | zero =>
            intro j hj hjq; have:j=q - 1:=by omega
            rw [this]; exact e
          | succ n ihn =>
            intro j hj hjq;by_cases e2:j=q - 1
            · rw [e2]; exact e
            · obtain ⟨i,x,hji,him,hx2,hjx⟩:=tiedAll_spec htied (show j<q - 1 by omega)
              exact of_getD (hcl i x hx2 (getD_some (ihn i (by omega) (by omega))) j hjx)
        exact fun i hi=>hD _ i (Nat.le_refl _) hi
      · exact e
    have hlow:∀ i,i<q→(l'++Array.replicate (L.size - q) false)[i]?=l'[i]?:=fun i hi=>by rw [Array.getElem?_append_left (by omega)]
    have hhigh:∀ i,q≤i→i<L.size→(l'++Array.replicate (L.size - q) false)[i]?=some false:=fun i hi hi2=>by
      rw [Array.getElem?_append_right (by omega),Array.getElem?_replicate,if_pos (by omega)]
    have hnl:∀ j,q - 1≤j→j<L.size→(l'++Array.replicate (L.size - q) false)[j]?=some false:=fun j hj hj2=>by
      by_cases e:j=q - 1
      · rw [e,hlow _ (by omega)]; exact hlast
      · exact hhigh j (by omega) hj2
    have hrd:∀ i,i∈Region.ready .any L (l'++Array.replicate (L.size - q) false)↔i<q∧i∈Region.ready .any ops l':=by
      intro i;rw [ready_mem,ready_mem];by_cases hi:i<q
      · have hg2:(l'++Array.replicate (L.size - q) false).getD i true=l'.getD i true:=by rw [Array.getD_eq_getD_getElem?,Array.getD_eq_getD_getElem?,hlow i hi]
        have hd:∀ x,ops[i]?=some x→((∀ j∈direct x,(l'++Array.replicate (L.size - q) false).getD j false=true)↔∀ j∈direct x,l'.getD j false=true):=fun x hx=>by
          have hj:=downOk_spec hdown hx;constructor
          · exact fun h j hj'=>getD_some ((hlow j (by have:=hj j hj'; omega)).symm.trans (of_getD (h j hj')))
          · exact fun h j hj'=>getD_some ((hlow j (by have:=hj j hj'; omega)).trans (of_getD (h j hj')))
        rw [hat i hi,hg2];constructor
        · rintro ⟨_,g2,x,g3,g4⟩
          exact ⟨hi,by omega,g2,x,g3,(hd x g3).1 g4⟩
        · rintro ⟨_,_,g2,x,g3,g4⟩
          exact ⟨by omega,g2,x,g3,(hd x g3).2 g4⟩
      · constructor
        · rintro ⟨g1,g2,x,g3,g4⟩
          exfalso
          obtain ⟨j,hj,hj1,hj2⟩:=lateOk_spec hlate g3 (by omega);have:=of_getD (g4 j hj)
          rw [hnl j hj1 hj2] at this;cases this
        · rintro ⟨g1,_⟩
          exact absurd g1 hi
    have hfu:k+1+(L.size - q)=(k+(L.size - q))+1:=by omega
    rw [hfu];refine ⟨fun h0=>?_,fun i hi=>?_⟩
    · exfalso
      refine hnall ?_;have hC:∀ n i,i<n→i<q→l'[i]?=some true:=by
        intro n;induction n with
        | zero=>intro i hi; omega
        | succ n ihn =>
          intro i hi him;rcases hval i him with e|e
          · exact e
          · exfalso
            have:i∈Region.ready .any L (l'++Array.replicate (L.size - q) false):=(hrd i).2 ⟨him,ready_mem.2 ⟨by omega,getD_some e,ops[i],by simp [hsz,him],fun j hj=>by
              have hji:=downOk_spec hdown (show ops[i]?=some ops[i] by simp [hsz,him]) j hj;exact getD_some (ihn j (by omega) (by omega))⟩⟩
            rw [h0] at this;cases this
      exact fun i hi=>hC (i+1) i (Nat.lt_succ_self _) hi
    · obtain ⟨him,hir⟩:=(hrd i).1 hi
      have h3:=wpOp_exits hQ (h.2 i hir);obtain ⟨_,g2,x,g3,g4⟩:=ready_mem.1 hir;have hxL:L[i]?=some x:=(hat i him).trans g3
      have hif:l'[i]?=some false:=by
        rcases hval i him with e|e
        · rw [getD_some e] at g2; cases g2
        · exact e
      have hset:(l'++Array.replicate (L.size - q) false).setIfInBounds i true=l'.setIfInBounds i true++Array.replicate (L.size - q) false:=by
        refine Array.ext_getElem? fun j=>?_
        rw [Array.getElem?_setIfInBounds];by_cases hjq:j<q
        · rw [hlow j hjq,Array.getElem?_append_left (by rw [Array.size_setIfInBounds]; omega),Array.getElem?_setIfInBounds]
          by_cases e:i=j
          · rw [if_pos e,if_pos e,if_pos (by rw [Array.size_append]; omega),if_pos (by omega)]
          · rw [if_neg e,if_neg e]
        · rw [if_neg (by omega),Array.getElem?_append_right (by omega),Array.getElem?_append_right (by rw [Array.size_setIfInBounds]; omega),Array.size_setIfInBounds]
      have hIH:∀ a w,wpAny P .any ops Q' k (l'.setIfInBounds i true) a w→wpAny P .any L Q (k+(L.size - q)) ((l'++Array.replicate (L.size - q) false).setIfInBounds i true) a w:=by
        intro a w hh;rw [hset];refine ih _ (by simpa using h1) ?_ ?_ a w hh
        · rw [Array.toList_setIfInBounds]
          exact count_set_false (by simpa using hif) h2
        · intro i2 y hy hl2 j hj
          have hset2:∀ r,(l'.setIfInBounds i true)[r]?=some true↔(r=i∨l'[r]?=some true):=by
            intro r;rw [Array.getElem?_setIfInBounds];by_cases e:i=r
            · rw [if_pos e,if_pos (by omega)]; simp [e]
            · rw [if_neg e]
              constructor
              · exact .inr
              · rintro (h|h)
                · exact absurd h.symm e
                · exact h
          refine getD_some ((hset2 j).2 ?_);rcases (hset2 i2).1 (of_getD hl2) with e|e
          · subst e
            rw [g3] at hy;cases hy;exact .inr (of_getD (g4 j hj))
          · exact .inr (of_getD (hcl i2 y hy (getD_some e) j hj))
      unfold wpOp at h3 ⊢;rw [g3] at h3;rw [hxL];simp only at h3 ⊢;have hwan:Region.wanted x (yielded L a.tmps)=Region.wanted x (yielded ops a.tmps):=by
        unfold Region.wanted;cases hgx:x.guard with
        | none=>rfl
        | some jw =>
          obtain ⟨j,want⟩:=jw;have hj:j<ops.size:=by
            unfold guardOk at hgo;have:=Array.all_eq_true'.1 hgo x (Array.mem_of_getElem? g3)
            rw [hgx] at this;simpa using this
          simp only [yielded,hat j (by omega)]
      rw [hwan];split
      · rename_i hw
        rw [if_pos hw] at h3;exact h3.imp (Oper.wp_mono hIH) id
      · rename_i hw
        rw [if_neg hw] at h3;exact hIH _ _ h3
def splitOkU (n:Nat) (L ops:Array Oper) (o:Oper) (p:Nat):Bool:=splitOk n ops o&&(ops.size==p&&(decide (p+1≤L.size)&&(lateOk L (p+1)&&(guardOk (ops.push o)&&(dstOk n L&&(Region.noSelect L&&Region.lexFrom .any L (L.size - (p+1)) (p+1) (Array.replicate (p+1) true++Array.replicate (L.size - (p+1)) false)))))))
theorem AL.splitU {cx:Cx} {nt0:Nat} {K:Exit→AState→Prop} {r:List CI} {S:AState} {id:Nat} {L ops:Array Oper} {o:Oper} {tail:List Oper} (p:Nat) (hx:L.extract 0 (p+1)=ops.push o) (ht:L.toList.drop (p+1)=tail) (hf:P.follows .mixedOrders=true) (hnb:cx.base+cx.n≤cx.nb) (hokU:splitOkU cx.n L ops o p=true)
  (h:FReg P cx ops true (fun S'=>∃ S2,Trans cx nt0 S' S2∧FReg P cx #[o] false (fun S3=>SegS P cx L tail (AL P cx nt0 K r) S3) S2) S):AL P cx nt0 K (.c (.region id L true)::r) S:=by
 unfold splitOkU at hokU;simp only [Bool.and_eq_true,decide_eq_true_eq] at hokU;obtain ⟨hok,hps,hpL,hlate,hgo2,hdstL,hnsel,hlex⟩:=hokU;have hps:ops.size=p:=by simpa using hps
 unfold splitOk at hok;simp only [Bool.and_eq_true,regionOk,Bool.or_eq_true,Bool.not_eq_true',Option.isNone_iff_eq_none] at hok;obtain ⟨⟨⟨hal,hdst⟩,hreg⟩,⟨⟨hal1,hdst1⟩,_⟩,hdown,htied,hgo,hgn⟩:=hok;have hreg':regOk ops=true:=by simpa using hreg
 have h:=fReg_sound h;simp only [AL];intro G0 w0 he hn G a w hr hl;have hd:=dstOk_spec hdst;obtain ⟨b,hb,hr1,hp,hkeep⟩:=preB_sound hnb ops.toList S.box (S:=S) hr (fun o ho d hod=>hd o d (by simpa using ho) hod) (allocOk_nodup hal) h;have hl1:LeC cx G0 w0 G w { S with box:=b }:=⟨hl.1,fun k hk hg=>by
  rw [←hl.2 k hk hg];refine hkeep k fun hm=>?_
  obtain ⟨o,ho,he⟩:=List.mem_filterMap.1 hm;split at he
  ·rename_i T s h1 h2;simp only [Option.some.injEq] at he;subst he;exact absurd hk (by simp)
  ·cases he⟩
 simp only at hb;obtain ⟨S',hrun,hK⟩:=hb;refine wp_region_any hf ?_;have hrd:RelS cx.n cx.nb G { S with box:=b } a w.drew:=hr1.drew
 have hld:LeC cx G0 w0 G w.drew { S with box:=b }:=hl1.step ⟨Le.drew,fun k _ hg=>⟨hg,rfl⟩⟩
 obtain ⟨Q,hQ⟩:∃ Q:Exit→Act→World→Prop,(fun e a' w'=>∃ S' G',(match e with|.normal=>AL P cx nt0 K r S'|e=>AU P cx nt0 K r e S')∧RelS cx.n cx.nb G' S' a' w'∧LeC cx G0 w0 G' w' S')=Q:=⟨_,rfl⟩
 have hQn:∀ S' a' w' G',AL P cx nt0 K r S'→RelS cx.n cx.nb G' S' a' w'→LeC cx G0 w0 G' w' S'→Q .normal a' w':=fun S' a' w' G' h1 h2 h3=>by rw [←hQ]; exact ⟨S',G',h1,h2,h3⟩
 show wpAny P .any L (fun e a' w'=>∃ S' G',(match e with|.normal=>AL P cx nt0 K r S'|e=>AU P cx nt0 K r e S')∧RelS cx.n cx.nb G' S' a' w'∧LeC cx G0 w0 G' w' S') L.size (Array.replicate L.size false) a w.drew
 rw [hQ];clear hQ;obtain ⟨Q',hQ'⟩:∃ Q':Exit→Act→World→Prop,(fun e a' w'=>match e with
  | .normal=>wpAny P .any L Q (L.size - (p+1)) (Array.replicate (p+1) true++Array.replicate (L.size - (p+1)) false) a' w'
  | e=>Q e a' w')=Q':=⟨_,rfl⟩
 have hf1:L.size=(p+1)+(L.size - (p+1)):=by omega
 have hf2:Array.replicate L.size false=Array.replicate (p+1) false++Array.replicate (L.size - (p+1)) false:=by
  conv=>lhs; rw [hf1]
  rw [Array.replicate_append_replicate]
 have hmore:=wpAny_more (P:=P) (L:=L) (ops:=ops.push o) (q:=p+1) (Q:=Q) (Q':=Q') hx hpL (Nat.succ_pos _) hdown (by rw [←hps]; exact htied) hgo2 hlate (fun e a w hne hh=>by rw [←hQ'] at hh; cases e <;> first|exact absurd rfl hne|exact hh) (fun a w hh=>by rw [←hQ'] at hh; exact hh)
  (p+1) (Array.replicate (p+1) false) (by simp) (by simp) (fun i x hx hl2=>by
   have:=of_getD hl2
   rw [Array.getElem?_replicate] at this;split at this
   ·cases this
   ·cases this) a w.drew
 rw [hf2];rw [show wpAny P .any L Q L.size (Array.replicate (p+1) false++Array.replicate (L.size - (p+1)) false) a w.drew=wpAny P .any L Q ((p+1)+(L.size - (p+1))) (Array.replicate (p+1) false++Array.replicate (L.size - (p+1)) false) a w.drew by rw [←hf1]];refine hmore ?_;subst hps;have htail:∀ S3 a3 w3 G3,SegS P cx L tail (AL P cx nt0 K r) S3→RelS cx.n cx.nb G3 S3 a3 w3→LeC cx G0 w0 G3 w3 S3→Q' .normal a3 w3:=fun S3 a3 w3 G3 hs h2 h3=>by
  rw [←hQ'];show wpAny P .any L Q (L.size - (ops.size+1)) (Array.replicate (ops.size+1) true++Array.replicate (L.size - (ops.size+1)) false) a3 w3
  have hlen:tail.length=L.size - (ops.size+1):=by rw [←ht,List.length_drop,Array.length_toList]
  rw [←hlen] at hlex ⊢;refine wpAny_of_still (Q:=fun a'=>Q .normal a' w3) (fun _ h=>h) _ _ _ ?_;refine wpAnyS_lex (md:=.any) hnsel tail (ops.size+1) _ a3 (fun j=>?_) hlex (hs G3 w3 (fun a'=>Q .normal a' w3) (fun S' a' q1 q2 q3 q4=>hQn S' a' w3 G3 q1 q4 ⟨h3.1,fun k hk hg=>by rw [q2]; exact h3.2 k hk hg⟩) a3 h2);rw [←ht,List.getElem?_drop,Array.getElem?_toList]
 refine wpAny_split (Qm:=fun e a' w'=>match e with
  | .normal=>o.wp P a' w' (Q' .normal) Q'∨(o.asks P a' w'∧LetsOut Q')
  | e=>False) hdown htied hgo hgn (fun e a w hne hh=>by cases e <;> first|exact absurd rfl hne|exact hh.elim) (fun a w hh=>hh) ops.size _ (Array.replicate ops.size false) (by simp) (by simp) (fun i hi=>by simp [Array.getElem?_replicate,hi]; omega) (by simp [Array.getElem?_replicate]) ?_ a w.drew ?_
 ·intro i x hx hl2;have:=of_getD hl2
  rw [Array.getElem?_replicate] at this;split at this
  ·cases this
  ·cases this
 ·refine any_sound (n:=cx.n) (nb:=cx.nb) (base:=cx.base) (Sf:=S') (G0:=G) (w0:=w.drew) (b0:=b) hreg' hal hdst hnb (fun a' w' G' h1 h2=>?_) ops.size (Array.replicate ops.size false) (List.range ops.size) { S with box:=b } a w.drew G (by simp) ?_ (by simp) ?_ (IRun.of_all hrun) hrd ?_ (LeK.refl _ _ _ _)
  ·have hl2:=hld.step h2;obtain ⟨S2,hT,hK⟩:=hK;obtain ⟨G2,h1,hl2⟩:=hT G0 w0 G' a' w' he hn h1 hl2;have hK2:=fReg_sound hK;obtain ⟨b2,hb2,hr2,hp2,hkeep2⟩:=preB_sound hnb (#[o]:Array Oper).toList S2.box (S:=S2) h1 (fun o ho d hod=>dstOk_spec hdst1 o d (by simpa using ho) hod) (allocOk_nodup hal1) hK2;have hl3:LeC cx G0 w0 G2 w' { S2 with box:=b2 }:=⟨hl2.1,fun k hk hg=>by
    rw [←hl2.2 k hk hg];refine hkeep2 k fun hm=>?_
    obtain ⟨o,ho,he⟩:=List.mem_filterMap.1 hm;split at he
    ·rename_i T s h1 h2;simp only [Option.some.injEq] at he;subst he;exact absurd hk (by simp)
    ·cases he⟩
   simp only at hb2;have hfin:=aops_sound (cx:=cx) (ops := #[o]) (Q:=Q') (K:=fun S3=>SegS P cx L tail (AL P cx nt0 K r) S3) (G0:=G0) (w0:=w0) (fun o d ho hod=>dstOk_spec hdst1 o d ho hod) hnb hal1 (fun S3 a3 w3 G3 h1 h2 h3=>htail S3 a3 w3 G3 h1 h2 h3) (#[o]:Array Oper).toList 0 { S2 with box:=b2 } a' w' G2 (by simp) hp2 hr2 hl3 hb2;rw [show (#[o]:Array Oper).toList.length=1 from rfl,show List.range' 0 1=[0] from rfl,wpOps_cons] at hfin;unfold wpOp at hfin;rw [show (#[o]:Array Oper)[0]?=some o from rfl] at hfin;simp only at hfin;rw [if_pos (by simp [Region.wanted,hgn])] at hfin;exact hfin
  ·rw [List.filter_eq_self.2];intro i hi;simp at hi;simp [Array.getD,hi]
  ·intro i o ho hlst;have hi:=(Array.getElem?_eq_some_iff.1 ho).1;simp [Array.getD,hi] at hlst
  ·intro i _ o ho;exact hp o (by simpa using Array.mem_of_getElem? ho)
def splitOk5U (n:Nat) (L ops:Array Oper) (o:Oper) (p:Nat):Bool:=splitOk5 n ops o&&(ops.size==p&&(decide (p+1≤L.size)&&(lateOk L (p+1)&&(guardOk (ops.push o)&&(dstOk n L&&(Region.noSelect L&&Region.lexFrom .any L (L.size - (p+1)) (p+1) (Array.replicate (p+1) true++Array.replicate (L.size - (p+1)) false)))))))
theorem AL.splitU5 {cx:Cx} {nt0:Nat} {K:Exit→AState→Prop} {r:List CI} {S:AState} {id:Nat} {L ops:Array Oper} {o:Oper} {tail:List Oper} (p:Nat) (hx:L.extract 0 (p+1)=ops.push o) (ht:L.toList.drop (p+1)=tail) (hf:P.follows .mixedOrders=true) (hnb:cx.base+cx.n≤cx.nb) (hokU:splitOk5U cx.n L ops o p=true) (hside:Side ops S)
  (h:FReg P cx ops true (fun S'=>(Far S' (ptrs ops.toList)∧FarM S' cx.base (mks ops.toList) (lds ops.toList))∧∃ S2,Trans cx nt0 S' S2∧FReg P cx #[o] false (fun S3=>SegS P cx L tail (AL P cx nt0 K r) S3) S2) S):AL P cx nt0 K (.c (.region id L true)::r) S:=by
 unfold splitOk5U at hokU;simp only [Bool.and_eq_true,decide_eq_true_eq] at hokU;obtain ⟨hok,hps,hpL,hlate,hgo2,hdstL,hnsel,hlex⟩:=hokU;have hps:ops.size=p:=by simpa using hps
 unfold splitOk5 at hok;simp only [Bool.and_eq_true,regionOk,Bool.or_eq_true,Bool.not_eq_true',Option.isNone_iff_eq_none] at hok;obtain ⟨⟨⟨hal,hdst⟩,hreg⟩,⟨⟨hal1,hdst1⟩,_⟩,hdown,htied,hgo,hgn⟩:=hok;have h:=fReg_sound h;simp only [AL];intro G0 w0 he hn G a w hr hl;have hd:=dstOk_spec hdst;obtain ⟨b,hb,hr1,hp,hkeep⟩:=preB_sound hnb ops.toList S.box (S:=S) hr (fun o ho d hod=>hd o d (by simpa using ho) hod) (allocOk_nodup hal) h;have hl1:LeC cx G0 w0 G w { S with box:=b }:=⟨hl.1,fun k hk hg=>by
  rw [←hl.2 k hk hg];refine hkeep k fun hm=>?_
  obtain ⟨o,ho,he⟩:=List.mem_filterMap.1 hm;split at he
  ·rename_i T s h1 h2;simp only [Option.some.injEq] at he;subst he;exact absurd hk (by simp)
  ·cases he⟩
 simp only at hb;obtain ⟨S',hrun,⟨hfar,hfm⟩,hK⟩:=hb;refine wp_region_any hf ?_;have hrd:RelS cx.n cx.nb G { S with box:=b } a w.drew:=hr1.drew
 have hld:LeC cx G0 w0 G w.drew { S with box:=b }:=hl1.step ⟨Le.drew,fun k _ hg=>⟨hg,rfl⟩⟩
 obtain ⟨Q,hQ⟩:∃ Q:Exit→Act→World→Prop,(fun e a' w'=>∃ S' G',(match e with|.normal=>AL P cx nt0 K r S'|e=>AU P cx nt0 K r e S')∧RelS cx.n cx.nb G' S' a' w'∧LeC cx G0 w0 G' w' S')=Q:=⟨_,rfl⟩
 have hQn:∀ S' a' w' G',AL P cx nt0 K r S'→RelS cx.n cx.nb G' S' a' w'→LeC cx G0 w0 G' w' S'→Q .normal a' w':=fun S' a' w' G' h1 h2 h3=>by rw [←hQ]; exact ⟨S',G',h1,h2,h3⟩
 show wpAny P .any L (fun e a' w'=>∃ S' G',(match e with|.normal=>AL P cx nt0 K r S'|e=>AU P cx nt0 K r e S')∧RelS cx.n cx.nb G' S' a' w'∧LeC cx G0 w0 G' w' S') L.size (Array.replicate L.size false) a w.drew
 rw [hQ];clear hQ;obtain ⟨Q',hQ'⟩:∃ Q':Exit→Act→World→Prop,(fun e a' w'=>match e with
  | .normal=>wpAny P .any L Q (L.size - (p+1)) (Array.replicate (p+1) true++Array.replicate (L.size - (p+1)) false) a' w'
  | e=>Q e a' w')=Q':=⟨_,rfl⟩
 have hf1:L.size=(p+1)+(L.size - (p+1)):=by omega
 have hf2:Array.replicate L.size false=Array.replicate (p+1) false++Array.replicate (L.size - (p+1)) false:=by
  conv=>lhs; rw [hf1]
  rw [Array.replicate_append_replicate]
 have hmore:=wpAny_more (P:=P) (L:=L) (ops:=ops.push o) (q:=p+1) (Q:=Q) (Q':=Q') hx hpL (Nat.succ_pos _) hdown (by rw [←hps]; exact htied) hgo2 hlate (fun e a w hne hh=>by rw [←hQ'] at hh; cases e <;> first|exact absurd rfl hne|exact hh) (fun a w hh=>by rw [←hQ'] at hh; exact hh)
  (p+1) (Array.replicate (p+1) false) (by simp) (by simp) (fun i x hx hl2=>by
   have:=of_getD hl2
   rw [Array.getElem?_replicate] at this;split at this
   ·cases this
   ·cases this) a w.drew
 rw [hf2];rw [show wpAny P .any L Q L.size (Array.replicate (p+1) false++Array.replicate (L.size - (p+1)) false) a w.drew=wpAny P .any L Q ((p+1)+(L.size - (p+1))) (Array.replicate (p+1) false++Array.replicate (L.size - (p+1)) false) a w.drew by rw [←hf1]];refine hmore ?_;subst hps;have htail:∀ S3 a3 w3 G3,SegS P cx L tail (AL P cx nt0 K r) S3→RelS cx.n cx.nb G3 S3 a3 w3→LeC cx G0 w0 G3 w3 S3→Q' .normal a3 w3:=fun S3 a3 w3 G3 hs h2 h3=>by
  rw [←hQ'];show wpAny P .any L Q (L.size - (ops.size+1)) (Array.replicate (ops.size+1) true++Array.replicate (L.size - (ops.size+1)) false) a3 w3
  have hlen:tail.length=L.size - (ops.size+1):=by rw [←ht,List.length_drop,Array.length_toList]
  rw [←hlen] at hlex ⊢;refine wpAny_of_still (Q:=fun a'=>Q .normal a' w3) (fun _ h=>h) _ _ _ ?_;refine wpAnyS_lex (md:=.any) hnsel tail (ops.size+1) _ a3 (fun j=>?_) hlex (hs G3 w3 (fun a'=>Q .normal a' w3) (fun S' a' q1 q2 q3 q4=>hQn S' a' w3 G3 q1 q4 ⟨h3.1,fun k hk hg=>by rw [q2]; exact h3.2 k hk hg⟩) a3 h2);rw [←ht,List.getElem?_drop,Array.getElem?_toList]
 refine wpAny_split (Qm:=fun e a' w'=>match e with
  | .normal=>o.wp P a' w' (Q' .normal) Q'∨(o.asks P a' w'∧LetsOut Q')
  | e=>False) hdown htied hgo hgn (fun e a w hne hh=>by cases e <;> first|exact absurd rfl hne|exact hh.elim) (fun a w hh=>hh) ops.size _ (Array.replicate ops.size false) (by simp) (by simp) (fun i hi=>by simp [Array.getElem?_replicate,hi]; omega) (by simp [Array.getElem?_replicate]) ?_ a w.drew ?_
 ·intro i x hx hl2;have:=of_getD hl2
  rw [Array.getElem?_replicate] at this;split at this
  ·cases this
  ·cases this
 ·refine any_sound5 (n:=cx.n) (nb:=cx.nb) (base:=cx.base) (Sf:=S') (G0:=G) (w0:=w.drew) (b0:=b) hreg hal hdst hnb hfar hfm (fun a' w' G' h1 h2=>?_) ops.size (Array.replicate ops.size false) (List.range ops.size) { S with box:=b } a w.drew G (by simp) hside (by simp) ?_ (by simp) ?_ (IRun.of_all hrun) hrd ?_ (LeK.refl _ _ _ _)
  ·have hl2:=hld.step h2;obtain ⟨S2,hT,hK⟩:=hK;obtain ⟨G2,h1,hl2⟩:=hT G0 w0 G' a' w' he hn h1 hl2;have hK2:=fReg_sound hK;obtain ⟨b2,hb2,hr2,hp2,hkeep2⟩:=preB_sound hnb (#[o]:Array Oper).toList S2.box (S:=S2) h1 (fun o ho d hod=>dstOk_spec hdst1 o d (by simpa using ho) hod) (allocOk_nodup hal1) hK2;have hl3:LeC cx G0 w0 G2 w' { S2 with box:=b2 }:=⟨hl2.1,fun k hk hg=>by
    rw [←hl2.2 k hk hg];refine hkeep2 k fun hm=>?_
    obtain ⟨o,ho,he⟩:=List.mem_filterMap.1 hm;split at he
    ·rename_i T s h1 h2;simp only [Option.some.injEq] at he;subst he;exact absurd hk (by simp)
    ·cases he⟩
   simp only at hb2;have hfin:=aops_sound (cx:=cx) (ops := #[o]) (Q:=Q') (K:=fun S3=>SegS P cx L tail (AL P cx nt0 K r) S3) (G0:=G0) (w0:=w0) (fun o d ho hod=>dstOk_spec hdst1 o d ho hod) hnb hal1 (fun S3 a3 w3 G3 h1 h2 h3=>htail S3 a3 w3 G3 h1 h2 h3) (#[o]:Array Oper).toList 0 { S2 with box:=b2 } a' w' G2 (by simp) hp2 hr2 hl3 hb2;rw [show (#[o]:Array Oper).toList.length=1 from rfl,show List.range' 0 1=[0] from rfl,wpOps_cons] at hfin;unfold wpOp at hfin;rw [show (#[o]:Array Oper)[0]?=some o from rfl] at hfin;simp only at hfin;rw [if_pos (by simp [Region.wanted,hgn])] at hfin;exact hfin
  ·rw [List.filter_eq_self.2];intro i hi;simp at hi;simp [Array.getD,hi]
  ·intro i o ho hlst;have hi:=(Array.getElem?_eq_some_iff.1 ho).1;simp [Array.getD,hi] at hlst
  ·intro i _ o ho;exact hp o (by simpa using Array.mem_of_getElem? ho)
theorem take_push {L:List Oper} {o:Oper} {p:Nat} (hl:L[p]?=some o):L.toArray.extract 0 (p+1)=(L.take p).toArray.push o:=by
 have hp:=(List.getElem?_eq_some_iff.1 hl).1;have hg:L[p]=o:=(List.getElem?_eq_some_iff.1 hl).2
 rw [List.push_toArray,List.extract_toArray,List.extract_eq_take_drop,List.drop_zero,Nat.sub_zero,List.take_succ_eq_append_getElem hp,hg]
theorem AL.splitU5L {cx:Cx} {nt0:Nat} {K:Exit→AState→Prop} {r:List CI} {S:AState} {id:Nat} {L:List Oper} {o:Oper} (p:Nat) (hl:L[p]?=some o) (hf:P.follows .mixedOrders=true) (hnb:cx.base+cx.n≤cx.nb) (hok:splitOk5U cx.n L.toArray (L.take p).toArray o p=true) (hside:Side (L.take p).toArray S)
  (h:FReg P cx (L.take p).toArray true (fun S'=>(Far S' (ptrs (L.take p).toArray.toList)∧FarM S' cx.base (mks (L.take p).toArray.toList) (lds (L.take p).toArray.toList))∧∃ S2,Trans cx nt0 S' S2∧FReg P cx #[o] false (fun S3=>SegS P cx L.toArray (L.drop (p+1)) (AL P cx nt0 K r) S3) S2) S):AL P cx nt0 K (.c (.region id L.toArray true)::r) S :=
 AL.splitU5 p (take_push hl) (by simp) hf hnb hok hside h
open Go Go.Proofs
theorem Weaks.tr {cx:Cx} {nt0:Nat} {S S':AState} (h:Weaks cx nt0 S S'):Trans cx nt0 S S':=by
 obtain ⟨_,_,_,_,h⟩:=h;intro G0 w0 G a w he hn hr hl;obtain ⟨G',hr',hl',_⟩:=h.sound he hl.1 hr hn;exact ⟨G',hr',⟨hl',fun j hj hg=>by rw [←hl.2 j hj hg,h.hb',h.hb,lb_out hj,lb_out hj]⟩⟩
theorem Trans.seq {cx:Cx} {nt0:Nat} {S S' S2:AState} (h:Trans cx nt0 S S') (k:Trans cx nt0 S' S2):Trans cx nt0 S S2:=by
 intro G0 w0 G a w he hn hr hl;obtain ⟨G',h1,h2⟩:=h G0 w0 G a w he hn hr hl;exact k G0 w0 G' a w he hn h1 h2
theorem lwC_row {t:Ty} {k:Nat} (h:k<t.nodes.length) (Z:List (List AV)):(rowsD ((lwC t k).map NT.cells)++Z)[k]?=some [Sb t.nodes[k].name,I t.nodes[k].par,B t.nodes[k].abs,.d (atts t.nodes[k].own)]:=by
 have hl:k<(lwC t k).length:=by rw [lwC_len]; exact h
 rw [List.getElem?_append_left (by simpa [rowsD] using hl)];have:(lwC t k)[k]=t.nodes[k]:=by simp [lwC,Ty.nd,h]
 simp [rowsD,hl,this]
def lwM (t:Ty) (k:Nat):List NT:=(lwC t k).set k ⟨(t.nd k).name,(t.nd k).par,(t.nd k).abs,[]⟩
theorem lwM_len (t:Ty) (k:Nat):(lwM t k).length=t.nodes.length:=by simp [lwM,lwC_len]
theorem lwM_leaf (t:Ty) {k:Nat} (h:k<t.nodes.length) (c:Int):leafB ⟨lwM t k,t.edges⟩ c=leafB t c:=by
 refine leafB_par ?_ c;refine List.ext_getElem (by simp [lwM,lwC_len]) fun i h1 h2=>?_
 have hi:i<t.nodes.length:=by simpa using h2
 have hC:=lwC_par t k;have hC2:((lwC t k).map NT.par)[i]'(by simp [lwC_len]; exact hi)=(t.nodes.map NT.par)[i]:=by simp only [hC]
 simp only [lwM,List.getElem_map,List.getElem_set];split
 ·rename_i e;subst e;simp [Ty.nd,h]
 ·simpa using hC2
theorem rows_set_nil {p q:Nat→Prop} {fz:Option (Nat × Nat × List (List D))} {X:List (List D)} {Z:List (List AV)} {m k:Nat} (hZ:List.replicate m (List.replicate 4 AV.bot)=Z) (hk:k<X.length) (a b c:D) :
  RowsTo p q fz ((rowsD X++Z).set k [.d a,.d b,.d c,.osl 0 [] .full]) (rowsD (X.set k [a,b,c,atts []])++Z):=by
 refine ⟨by simp [rowsD],fun i h1 h2=>?_⟩;subst hZ;by_cases e:i=k
 ·subst e;have hl:i<(rowsD (X.set i [a,b,c,atts []])).length:=by simpa [rowsD] using hk
  rw [List.getElem_append_left hl];simp only [List.getElem_set_self,rowsD,List.getElem_map];refine ⟨rfl,fun j g1 g2=>?_⟩
  match j,g1 with
  | 0,_=>exact .same .d
  | 1,_=>exact .same .d
  | 2,_=>exact .same .d
  | 3,_=>exact to_emp0 0 4 .full
  | n+4,g=>exact absurd g (by simp)
 ·have hs:((rowsD X++List.replicate m (List.replicate 4 AV.bot)).set k [.d a,.d b,.d c,.osl 0 [] .full])[i]=(rowsD (X.set k [a,b,c,atts []])++List.replicate m (List.replicate 4 AV.bot))[i]:=by
   rw [List.getElem_set_ne (fun h=>e h.symm)];by_cases hi:i<X.length
   ·rw [List.getElem_append_left (by simpa [rowsD] using hi),List.getElem_append_left (by simpa [rowsD] using hi)];simp only [rowsD,List.getElem_map];rw [List.getElem_set_ne (fun h=>e h.symm)]
   ·rw [List.getElem_append_right (by simp [rowsD]; omega),List.getElem_append_right (by simp [rowsD]; omega)];simp [rowsD]
  refine ⟨by rw [hs],fun j g1 g2=>?_⟩;have hs2:((rowsD X++List.replicate m (List.replicate 4 AV.bot)).set k [.d a,.d b,.d c,.osl 0 [] .full])[i][j]=(rowsD (X.set k [a,b,c,atts []])++List.replicate m (List.replicate 4 AV.bot))[i][j]:=by simp only [hs]
  rw [hs2];have hmem:=List.getElem_mem h2;rcases List.mem_append.1 hmem with hm|hm
  ·simp only [rowsD,List.mem_map] at hm;obtain ⟨r,_,hr⟩:=hm;have:(rowsD (X.set k [a,b,c,atts []])++List.replicate m (List.replicate 4 AV.bot))[i][j]∈r.map AV.d:=by rw [hr]; exact List.getElem_mem g2
   obtain ⟨u,_,hu⟩:=List.mem_map.1 this;rw [←hu];exact .same .d
  ·have h3:=(List.mem_replicate.1 hm).2;have:∀ x∈(rowsD (X.set k [a,b,c,atts []])++List.replicate m (List.replicate 4 AV.bot))[i],x=AV.bot:=fun x hx=>by
    rw [h3] at hx;exact (List.mem_replicate.1 hx).2
   rw [this _ (List.getElem_mem g2)];exact .same .bot
theorem lw_rt {p q:Nat→Prop} {fz:Option (Nat × Nat × List (List D))} {a b:List (List D)} {m:Nat} {Z:List (List AV)} (h:a=b) (hZ:List.replicate m (List.replicate 4 AV.bot)=Z):RowsTo p q fz (rowsD a++Z) (rowsD b++Z):=by
 subst h;refine rowsTo_same fun r hr x hx=>?_
 rcases List.mem_append.1 hr with hr|hr
 ·simp only [rowsD,List.mem_map] at hr;obtain ⟨e,_,rfl⟩:=hr;obtain ⟨d,_,rfl⟩:=List.mem_map.1 hx;exact .d
 ·rw [←hZ] at hr;rw [(List.mem_replicate.1 hr).2] at hx;rw [(List.mem_replicate.1 hx).2];exact .bot
theorem lwM_cells {t:Ty} {k:Nat} (h:k<t.nodes.length):((lwC t k).map NT.cells).set k [.raw (.string t.nodes[k].name),.raw (.int .i64 t.nodes[k].par),.raw (.bool t.nodes[k].abs),atts []]=(lwM t k).map NT.cells:=by
 unfold lwM;rw [List.map_set];simp [NT.cells,Ty.nd,h]
theorem lwM_row {t:Ty} {k:Nat} (h:k<t.nodes.length) (Z:List (List AV)):(rowsD ((lwM t k).map NT.cells)++Z)[k]?=some [Sb t.nodes[k].name,I t.nodes[k].par,B t.nodes[k].abs,.d (atts [])]:=by
 have hl:k<(lwM t k).length:=by rw [lwM_len]; exact h
 rw [List.getElem?_append_left (by simpa [rowsD] using hl)];have:(lwM t k)[k]=⟨t.nodes[k].name,t.nodes[k].par,t.nodes[k].abs,[]⟩:=by simp [lwM,Ty.nd,h]
 simp [rowsD,hl,this]
theorem lwM_put {t:Ty} {k:Nat} (h:k<t.nodes.length) (hl:leafB t k=true) (Z:List (List AV)):(rowsD ((lwM t k).map NT.cells)++Z).set k [Sb t.nodes[k].name,I t.nodes[k].par,B false,.d (atts [])]=rowsD ((lwC t (k+1)).map NT.cells)++Z:=by
 rw [List.set_append_left _ _ (by simp [rowsD,lwM_len]; exact h)];congr 1
 refine List.ext_getElem (by simp [rowsD,lwM_len,lwC_len]) fun i h1 h2=>?_
 have hi:i<t.nodes.length:=by simpa [rowsD,lwC_len] using h2
 rw [List.getElem_set];simp only [rowsD,lwM,lwC,List.getElem_map,List.getElem_set,List.getElem_range];by_cases e:k=i
 ·subst e;simp [lwNd,hl,Ty.nd,h]
 ·have e1:(i<k+1)=(i<k):=by simp only [eq_iff_iff]; omega
  simp [e,e1]
theorem lwM_done {t:Ty} {k:Nat} (h:k<t.nodes.length) (hl:leafB t k=false):lwM t k=lwC t (k+1):=by
 refine List.ext_getElem (by simp [lwM_len,lwC_len]) fun i h1 h2=>?_
 simp only [lwM,lwC,List.getElem_map,List.getElem_set,List.getElem_range];by_cases e:k=i
 ·subst e;simp [lwNd,hl]
 ·have e1:(i<k+1)=(i<k):=by simp only [eq_iff_iff]; omega
  simp [e,e1]
def stLwA (U:Ty) (R:List AV) (Z:List (List AV)) (nb:Nat) (box:Bxs) (tok:Tks) (nt:Nat) (k:Nat):AState :=
 ⟨tl [(35,I k),(34,I U.nodes.length),(33,.msl (nb+33) 0 U.nodes.length 4),(5,.ptr (nb+5) 0 0),(2,.ptr (nb+2) 0 0)],lb nb box [(33,rowsD ((lwC U k).map NT.cells)++Z),(5,[[.msl (nb+33) 0 U.nodes.length 4,.d (ets U.edges)]]),(2,[R])],tok,nt⟩
def vioA (T:Ty) (G:Gr) (l:List Co) (i:Nat):Bool:=(l.take i).any fun c=>decide (0<(cVio T G c).1.length)
theorem vioA_succ {T:Ty} {G:Gr} {l:List Co} {i:Nat} (h:i<l.length):vioA T G l (i+1)=(vioA T G l i||decide (0<(cVio T G l[i]).1.length)):=by
 unfold vioA;rw [List.take_succ_eq_append_getElem h,List.any_append];simp
def stLwB (T:Ty) (G:Gr) (X:List (List D)) (l:List Co) (nb:Nat) (box:Bxs) (tok:Tks) (nt:Nat) (i:Nat):AState :=
 ⟨tl [(92,I i),(91,I l.length),(90,.d (.sl 5 (rCo l))),(12,B (vioA T G l i)),(10,.d (.sl 4 X)),(7,.ptr (nb+7) 0 0),(5,.ptr (nb+5) 0 0)],lb nb box [(7,[[.d (ints G.nodes),.d (AM.edges G.edges)]]),(5,[[.d (nts T.nodes),.d (ets T.edges)]])],tok,nt⟩
theorem mtT_bd (ns es:List (Int × Int)):∀ x∈(mtT ns es).edges,(-1≤x.oh∧x.oh≤100)∧(-1≤x.ih∧x.ih≤100)∧(0≤x.ol∧x.ol≤100)∧0≤x.il∧x.il≤100:=by
 intro x hx;unfold mtT mtEs at hx;obtain ⟨j,_,rfl⟩:=List.mem_map.1 hx;simp [mtE]
structure LawE (T:Ty) (G:Gr):Prop where
 fit:T.Fit
 lg:Lg T G
 leaf:0<(lfs T).length
 bd:bdR T=0
 host:(hostR T (atsK T) ⟨G,List.replicate G.nodes.length []⟩).2=0
theorem lawE {ns es:List (Int × Int)} {cs bs:List Int} {ed:List (Int × Int × Int)} (h1:U82 ns) (h2:U82 es) (h3:U83 ed) (h8:U8s bs):LawE (lawT ns es bs) (lgR (lawT ns es bs) cs ed 6):=by
 have h0:=lawT_tyE h1 h2 h8;have hg:=lgR_lg (ns:=cs) h0 h3;exact ⟨lawT_fit h8,hg,lfs_pos h0,lawT_bd h1 h2 h8,host_ok hg (lawT_own ns es bs) fun i hi hl=>lawT_abs hi hl⟩
theorem law_mul {T:Ty} {G:Gr} (h:LawE T G):(mulR T=([],3))∨∃ l,mulR T=(l,0)∧l.length≤100∧(∀ c∈l,CoOk T G c)∧vioA T G l l.length=decide (0<(xsAll T G T.edges.length).length):=by
 unfold mulR;rw [if_neg (by simp [h.bd])];cases hl:mulR0 T with
 | none=>exact .inl rfl
 | some l =>
  obtain ⟨a,b⟩:=xq_main h.fit h.lg h.bd hl;refine .inr ⟨nmL l l.length,rfl,by rw [nmL_len]; exact (mulR0_mem hl).1,a,?_⟩;unfold vioA;rw [List.take_length,Bool.eq_iff_iff,List.any_eq_true,decide_eq_true_eq,List.length_pos_iff,←b];constructor
  ·rintro ⟨c,hc,hv⟩;exact ⟨c,hc,by rw [←List.length_pos_iff]; simpa using hv⟩
  ·rintro ⟨c,hc,hv⟩;exact ⟨c,hc,by rw [←List.length_pos_iff] at hv; simpa using hv⟩
theorem made_rows (n:Nat) {p q:Nat→Prop} {fz:Option (Nat × Nat × List (List D))}:RowsTo p q fz (List.replicate n [AV.osl 0 [] .full]) (rowsD (List.replicate n [ints []])):=by
 refine ⟨by simp [rowsD],fun i h1 h2=>?_⟩;have:(rowsD (List.replicate n [ints []]))[i]=[.d (ints [])]:=by simp [rowsD]
 rw [this];simp only [List.getElem_replicate];exact (rowTo_cons).2 ⟨to_emp0 0 1 .full,rowTo_nil⟩
theorem made_frz {p q:Nat→Prop} {k n:Nat}:To p q (some (k,1,List.replicate n [ints []])) (.msl k 0 n 1) (.d (lls (List.replicate n []))):=by
 have:=@to_frz p q k n 1 (List.replicate n [ints []]) (by simp)
 have e:lls (List.replicate n ([]:List Int))=.sl 1 (List.replicate n [ints []]):=by simp [lls]
 rw [e];exact this
set_option maxRecDepth 100000 in
theorem lawExc_c (ty en:List (Int × Int)) (ns:List Int) (es:List (Int × Int × Int)) (bs:List Int) (x2 x3 x4:D) (h1:U82 ty) (h2:U82 en) (h3:U8s ns) (h4:U83 es) (h5:U8s bs)
  (n1:ty.length≤200000000000000) (n2:en.length≤200000000000000) (n3:ns.length≤200000000000000) (n4:es.length≤200000000000000) (n5:bs.length≤200000000000000) (tok:Tks) (nt:Nat) :
  DCall Tryz.prog 9 [.agg [.d (b2s ty),.d (b2s en),.d x2,.d x3,.d x4,.d (bytes ns),.d (b3s es)],.d (bytes bs)] tok nt (B true) tok nt:=by
 intro box nb;have haw:=awake42_c;by_cases hb10:10<bs.length
 ·have b1:(10:Int)<bs.length:=by omega
  refine sI Tryz.func9 Tryz.ntmps9 fun hbox htok=>?_
  try (simp)
  repeat (first|(refine sR ?_; simp)|(refine sC ?_; simp)|(refine sX ?_; simp only [AU, ↓reduceIte]))
  refine Stop.of_d (haw _ _) ?_;simp;try (simp [b1])
  repeat (first|(refine sR ?_; simp [b1])|(refine sC ?_; simp [b1])|(refine sX ?_; simp only [AU, ↓reduceIte]))
  refine Stop.of_d (haw _ _) ?_;simp;try (simp)
  repeat (first|(refine sR ?_; simp)|(refine sC ?_; simp)|(refine sX ?_; simp only [AU, ↓reduceIte]))
  refine sT (sH hbox htok ?_);simp [packA]
 ·have b1:¬ (10:Int)<bs.length:=by omega
  have hm:=madeT_c ty en h1 h2 n1 n2;obtain ⟨l1,l2⟩:=mtT_len ty en;have hmt:1≤mtn ty∧mtn ty≤6:=by unfold mtn; omega
  have hbd:=boundedT_c (mtT ty en) (by omega) (by omega) (mtT_bd ty en) bs h5 n5;have hE:=lawE (cs:=ns) h1 h2 h4 h5;have hTT:lawT ty en bs=lwT (bdT (mtT ty en) bs):=rfl
  have hUn:=(bdT_len (mtT ty en) bs).1;have hRR:[AV.d (b2s ty),.d (b2s en),.d x2,.d x3,.d x4,.d (bytes ns),.d (b3s es)]=[AV.d (b2s ty),.d (b2s en),.d x2,.d x3,.d x4,.d (bytes ns),.d (b3s es)]:=rfl
  refine sI Tryz.func9 Tryz.ntmps9 fun hbox htok=>?_
  try (simp)
  repeat (first|(refine sR ?_; simp)|(refine sC ?_; simp)|(refine sX ?_; simp only [AU, ↓reduceIte]))
  refine Stop.of_d (haw _ _) ?_;simp;try (simp [b1])
  repeat (first|(refine sR ?_; simp [b1])|(refine sC ?_; simp [b1])|(refine sX ?_; simp only [AU, ↓reduceIte]))
  refine Stop.of_d (hm _ _) ?_;simp;refine Stop.of_a (hbd _ _ _ _ (by simpa using htok)) ?_;rintro v m ⟨tk,tok1,nt1,rfl,rfl,htk⟩;obtain ⟨U,hU⟩:∃ U,bdT (mtT ty en) bs=U:=⟨_,rfl⟩
  have hU1:bdNs (mtT ty en) (mtT ty en).nodes.length=U.nodes:=by rw [←hU]; rfl
  have hU2:bdEs (mtT ty en) bs (mtT ty en).edges.length=U.edges:=by rw [←hU]; rfl
  rw [hU1,hU2];rw [hU] at hTT hUn;rw [hTT] at hE;have hn6:U.nodes.length≤6:=by omega
  have hn0:1≤U.nodes.length:=by omega
  clear hbd hm hU hU1 hU2 hUn hTT;try (simp)
  repeat (first|(refine sR ?_; simp)|(refine sC ?_; simp)|(refine sX ?_; simp only [AU, ↓reduceIte]))
  refine sN ?_;refine AL.weak (Weaks.mk (l':=[(35,I 0),(34,I U.nodes.length),(33,.stk tk 4 (U.nodes.map NT.cells)),(5,.ptr (nb+5) 0 0),(2,.ptr (nb+2) 0 0)]) (loc':=[(5,[[.stk tk 4 (U.nodes.map NT.cells),.d (ets U.edges)]]),(2,[[.d (b2s ty),.d (b2s en),.d x2,.d x3,.d x4,.d (bytes ns),.d (b3s es)]])]) htk.le rfl (by simp [ToL,lk]) (by simp [BoxL,lk])) ?_;refine AL.thawS (l':=[(35,I 0),(34,I U.nodes.length),(33,.msl (nb+33) 0 U.nodes.length 4),(5,.ptr (nb+5) 0 0),(2,.ptr (nb+2) 0 0)]) (loc':=[(5,[[.msl (nb+33) 0 U.nodes.length 4,.d (ets U.edges)]]),(2,[[.d (b2s ty),.d (b2s en),.d x2,.d x3,.d x4,.d (bytes ns),.d (b3s es)]])]) tk 33 4 (U.nodes.map NT.cells) 33 rfl (show (33:Nat)<117 by decide) rfl htk.live (fun h=>by rw [List.map_eq_nil_iff] at h; rw [h] at hn0; simp at hn0) rfl ?_ ?_ ?_
  ·simp [CvL]
  ·exact ⟨rfl,cvRs_one (cvR_cons (by simp) (cvR_cons (by simp) cvR_nil)),rfl,cvRs_same (fun _=>by simp) _,trivial⟩
  intro m;generalize hRm:List.replicate m (List.replicate 4 AV.bot)=Z;have hbt:=htk.spend;obtain ⟨R,hR⟩:∃ R,[AV.d (b2s ty),.d (b2s en),.d x2,.d x3,.d x4,.d (bytes ns),.d (b3s es)]=R:=⟨_,rfl⟩
  refine AL.loopT (stLwA U [AV.d (b2s ty),.d (b2s en),.d x2,.d x3,.d x4,.d (bytes ns),.d (b3s es)] Z nb box (upd tok1 tk false) nt1) (fun k=>k≤U.nodes.length) (fun k=>U.nodes.length - k) 0 (Nat.zero_le _) (Weaks.mk htk.le rfl (by simp [ToL,lk,lb_at]) (by simp [BoxL,lk,lb_at]; exact lw_rt (by rw [lwC_zero]) hRm)) ?_;rintro k S hk hS;simp only [stLwA] at hS;subst hS;have hw:=sW (i:=k) (by omega);by_cases hlt:k<U.nodes.length
  ·have hrow:=lwC_row hlt Z;have hrow2:=lwM_row hlt Z;have hcl:k<((lwC U k).map NT.cells).length:=by rw [List.length_map,lwC_len]; exact hlt
   have hlf:=fun box0 h0=>leafSm_c ⟨lwM U k,U.edges⟩ (by show (lwM U k).length≤_; rw [lwM_len]; omega) k box0 (nb+33) Z h0
   simp only [lwM_len,lwM_leaf U hlt] at hlf;refine sR ?_;simp [hlt];refine sC ?_;simp;refine sR ?_;simp;refine sR ?_;simp [hrow,hlt];refine AL.weak (Weaks.mk (l':=[(6,I k),(35,I k),(34,I U.nodes.length),(33,.msl (nb+33) 0 U.nodes.length 4),(5,.ptr (nb+5) 0 0),(2,.ptr (nb+2) 0 0)]) (loc':=[(33,rowsD ((lwM U k).map NT.cells)++Z),(5,[[.msl (nb+33) 0 U.nodes.length 4,.d (ets U.edges)]]),(2,[[AV.d (b2s ty),.d (b2s en),.d x2,.d x3,.d x4,.d (bytes ns),.d (b3s es)]])]) htk.le rfl (by simp [ToL,lk,lb_at]) (by simp [BoxL,lk,lb_at]; rw [←lwM_cells hlt]; exact rows_set_nil hRm hcl _ _ _)) ?_;refine sR ?_;simp;refine Stop.of_r (hlf _ (by simp [lb_at,lk]) _ _) ?_;simp;cases e:leafB U (k:Int)
   ·have hdn:=lwM_done hlt e;rw [hdn];try (simp [hw])
    repeat (first|(refine sR ?_; simp [hw])|(refine sC ?_; simp [hw])|(refine sX ?_; simp only [AU, ↓reduceIte]))
    refine sE ?_;exact ⟨k+1,hlt,by omega,Weaks.mk htk.le rfl (by simp [ToL,lk,lb_at]) (by simp [BoxL,lk,lb_at]; exact lw_rt rfl hRm)⟩
   ·have hput:=lwM_put hlt e Z;try (simp [hrow2,hlt,hput,hw])
    repeat (first|(refine sR ?_; simp [hrow2,hlt,hput,hw])|(refine sC ?_; simp [hrow2,hlt,hput,hw])|(refine sX ?_; simp only [AU, ↓reduceIte]))
    refine sE ?_;exact ⟨k+1,hlt,by omega,Weaks.mk htk.le rfl (by simp [ToL,lk,lb_at]) (by simp [BoxL,lk,lb_at]; exact lw_rt rfl hRm)⟩
  ·have:k=U.nodes.length:=by omega
   subst this;obtain ⟨T,hT⟩:∃ T,lwT U=T:=⟨_,rfl⟩
   have hT1:lwC U U.nodes.length=T.nodes:=by rw [←hT]; rfl
   have hT2:U.edges=T.edges:=by rw [←hT]; rfl
   have hTl:T.nodes.length=U.nodes.length:=by rw [←hT1,lwC_len]
   rw [hT] at hE;rw [hT1,hT2];refine sR ?_;simp;refine sC ?_;simp;refine sX ?_;simp only [AU, ↓reduceIte];refine AL.weak (Weaks.mk (l':=[(33,.msl (nb+33) 0 U.nodes.length 4),(5,.ptr (nb+5) 0 0),(2,.ptr (nb+2) 0 0)]) (loc':=[(33,rowsD (T.nodes.map NT.cells)++Z),(5,[[.msl (nb+33) 0 U.nodes.length 4,.d (ets T.edges)]]),(2,[[AV.d (b2s ty),.d (b2s en),.d x2,.d x3,.d x4,.d (bytes ns),.d (b3s es)]])]) htk.le rfl (by simp [ToL,lk,lb_at]) (by simp [BoxL,lk,lb_at]; exact lw_rt rfl hRm)) ?_;have hsp:SpTo (nb+33) 4 (T.nodes.map NT.cells) (.msl (nb+33) 0 U.nodes.length 4) (.d (nts T.nodes)):=by
    have:=@SpTo.msl (nb+33) 4 (T.nodes.map NT.cells)
    rw [List.length_map,hTl] at this;exact this
   refine AL.trans (Trans.sealD (l':=[(33,.d (nts T.nodes)),(5,.ptr (nb+5) 0 0),(2,.ptr (nb+2) 0 0)]) (loc:=[(5,[[.msl (nb+33) 0 U.nodes.length 4,.d (ets T.edges)]]),(2,[[AV.d (b2s ty),.d (b2s en),.d x2,.d x3,.d x4,.d (bytes ns),.d (b3s es)]])]) (loc':=[(5,[[.d (nts T.nodes),.d (ets T.edges)]]),(2,[[AV.d (b2s ty),.d (b2s en),.d x2,.d x3,.d x4,.d (bytes ns),.d (b3s es)]])]) 33 4 (T.nodes.map NT.cells) Z 33 rfl (fun e he=>by obtain ⟨c,_,rfl⟩:=List.mem_map.1 he; rfl) (by simp [tl_cons,hTl]) rfl ⟨rfl,hsp,rfl,.same (.ptr (by simp)),rfl,.same (.ptr (by simp)),trivial⟩ ⟨rfl,cvRs_one (cvR_cons hsp (cvR_cons (.same .d) cvR_nil)),rfl,cvRs_one (cvR_cons (.same .d) (cvR_cons (.same .d) (cvR_cons (.same .d) (cvR_cons (.same .d) (cvR_cons (.same .d) (cvR_cons (.same .d) (cvR_cons (.same .d) cvR_nil))))))),trivial⟩) ?_;have hb7:=hbt;clear hT hT1 hT2 hRm hsp;have hlg:=leafG_c T hE.fit hE.leaf ns h3 n3 es h4 n4 6 (by decide);obtain ⟨G,hG⟩:∃ G,lgR T ns es 6=G:=⟨_,rfl⟩
   rw [hG] at hE hlg;clear hG;try (simp)
   repeat (first|(refine sR ?_; simp)|(refine sC ?_; simp)|(refine sX ?_; simp only [AU, ↓reduceIte]))
   refine Stop.of_d (hlg _ _) ?_;simp;try (simp)
   repeat (first|(refine sR ?_; simp)|(refine sC ?_; simp)|(refine sX ?_; simp only [AU, ↓reduceIte]))
   refine Stop.of_a (multP_c T hE.fit _ _ _ _) ?_;rintro v m ⟨rfl,hv⟩;have hlm:=law_mul hE;obtain ⟨M,hM⟩:∃ M,mulR T=M:=⟨_,rfl⟩
   rw [hM] at hv hlm;clear hM;have hfit:=hE.fit;have hgf:=hE.lg.gfit;have hg6:=hE.lg.n;have hte:=hfit.e;have hex:=excesses_c T hfit ⟨G,List.replicate G.nodes.length []⟩ hgf (by simp; omega) hte (by simp only; omega) hE.host;simp only at hex;obtain ⟨X,hX⟩:∃ X,xsAll T G T.edges.length=X:=⟨_,rfl⟩
   rw [hX] at hex hlm;rcases hv with rfl|⟨e0,rfl⟩
   all_goals
    simp;refine AL.weak (Weaks.mk (l':=[(8,.d (.sl 5 (rCo M.1))),(9,I M.2),(7,.ptr (nb+7) 0 0),(5,.ptr (nb+5) 0 0)]) (loc':=[(7,[[.d (ints G.nodes),.d (AM.edges G.edges)]]),(5,[[.d (nts T.nodes),.d (ets T.edges)]])]) htk.le rfl (by first|(simp [ToL,lk]; done)|(simp [ToL,lk,e0]; done)) (by simp [BoxL,lk])) ?_;refine sN ?_;refine AL.splitU5L 7 rfl follows_Tryz (Nat.le_refl _) (by kernel_rfl) (Side.of (by simp)) ?_;simp [FarM,FarN,NB,mks,lds,maker];refine ⟨by omega,⟨tl [(70,.agg [.d (ints G.nodes),.d (AM.edges G.edges),.d (lls (List.replicate G.nodes.length []))]),(64,.agg [.d (nts T.nodes),.d (ets T.edges)]),(8,.d (.sl 5 (rCo M.1))),(9,I M.2),(7,.ptr (nb+7) 0 0),(5,.ptr (nb+5) 0 0)],lb nb box [(7,[[.d (ints G.nodes),.d (AM.edges G.edges)]]),(5,[[.d (nts T.nodes),.d (ets T.edges)]])],upd tok1 tk false,nt1⟩,?_,?_⟩
    ·refine Trans.seq (Weaks.tr (Weaks.mk (l':=[(70,.agg [.d (ints G.nodes),.d (AM.edges G.edges),.msl (nb+69) 0 G.nodes.length 1]),(64,.agg [.d (nts T.nodes),.d (ets T.edges)]),(8,.d (.sl 5 (rCo M.1))),(9,I M.2),(7,.ptr (nb+7) 0 0),(5,.ptr (nb+5) 0 0)]) (loc':=[(69,rowsD (List.replicate G.nodes.length [ints []])),(7,[[.d (ints G.nodes),.d (AM.edges G.edges)]]),(5,[[.d (nts T.nodes),.d (ets T.edges)]])]) htk.le rfl (by simp [ToL,lk,lb_at]) (by simp [BoxL,lk,lb_at]; exact made_rows _))) (Weaks.tr (Weaks.frz 69 1 (List.replicate G.nodes.length [ints []]) htk.le rfl rfl rfl (fun e he=>by rw [(List.mem_replicate.1 he).2]; rfl) (by simp [ToL,lk,lb_at]; exact made_frz) (by simp [BoxL,lk,lb_at])))
    ·simp;refine Stop.of_d (hex _ _) ?_;simp;refine SegS.run 8 5 (by kernel_rfl) rfl rfl rfl (by kernel_rfl) ?_;simp;refine SegS.nil ?_;refine AL.weak (Weaks.mk (l':=[(11,I 0),(10,.d (.sl 4 X)),(8,.d (.sl 5 (rCo M.1))),(9,I M.2),(7,.ptr (nb+7) 0 0),(5,.ptr (nb+5) 0 0)]) (loc':=[(7,[[.d (ints G.nodes),.d (AM.edges G.edges)]]),(5,[[.d (nts T.nodes),.d (ets T.edges)]])]) htk.le rfl (by simp [ToL,lk]) (by simp [BoxL,lk])) ?_;rcases hlm with hM|⟨l,hM,hll,hco,hvi⟩
     ·rw [hM];try (simp)
      repeat (first|(refine sR ?_; simp)|(refine sC ?_; simp)|(refine sX ?_; simp only [AU, ↓reduceIte]))
      refine sT (sG hbox htok hbt.old htk.le ?_);simp [packA, ]
     ·rw [hM];simp only;try (simp)
      repeat (first|(refine sR ?_; simp)|(refine sC ?_; simp)|(refine sX ?_; simp only [AU, ↓reduceIte]))
      refine sN ?_;refine AL.loopT (stLwB T G X l nb box (upd tok1 tk false) nt1) (fun i=>i≤l.length) (fun i=>l.length - i) 0 (Nat.zero_le _) (Weaks.mk htk.le rfl (by simp [ToL,lk,vioA]) (by simp [BoxL,lk])) ?_;rintro i S hi hS;simp only [stLwB] at hS;subst hS;have hwi:=sW (i:=i) (by omega);by_cases hli:i<l.length
      ·have hsuc:=vioA_succ (T:=T) (G:=G) hli;obtain ⟨c,hc⟩:∃ c,l[i]=c:=⟨_,rfl⟩
       have hcok:=hco _ (List.getElem_mem hli);rw [hc] at hsuc hcok;have hvk:=violationsK_c T hfit c hcok.fit G hgf (fun m=>c.exts.any (xtH T G m)) (fun _ m hm tok nt=>extended_c T hfit c hcok.fit.n G hgf m (hcok.xt m hm) tok nt);have hv2:(vioS T c G fun m=>c.exts.any (xtH T G m)).2=0:=hcok.vio.1
       have hsuc:vioA T G l (i+1)=(vioA T G l i||decide (0<(vioS T c G fun m=>c.exts.any (xtH T G m)).1.length)):=hsuc
       obtain ⟨V,hV⟩:∃ V,(vioS T c G fun m=>c.exts.any (xtH T G m))=V:=⟨_,rfl⟩
       simp only [hV] at hvk hv2 hsuc;have hget:(rCo l)[i]?=some c.cells:=by simp [hli,hc]
       obtain ⟨b,hbv⟩:∃ b,vioA T G l i=b:=⟨_,rfl⟩
       rw [hbv] at hsuc ⊢;refine sR ?_;simp [hli];refine sC ?_;simp;refine sR ?_;simp [hli,hget,hc];rw [hv2] at hvk;cases b
       ·try (simp)
        repeat (first|(refine sR ?_; simp)|(refine sC ?_; simp)|(refine sX ?_; simp only [AU, ↓reduceIte]))
        refine Stop.of_d (hvk _ _) ?_;simp;try (simp [hwi])
        repeat (first|(refine sR ?_; simp [hwi])|(refine sC ?_; simp [hwi])|(refine sX ?_; simp only [AU, ↓reduceIte]))
        refine sE ?_;exact ⟨i+1,hli,by omega,Weaks.mk htk.le rfl (by simp [ToL,lk,hsuc]) (by simp [BoxL,lk])⟩
       ·try (simp)
        repeat (first|(refine sR ?_; simp)|(refine sC ?_; simp)|(refine sX ?_; simp only [AU, ↓reduceIte]))
        refine Stop.of_d (hvk _ _) ?_;simp;try (simp [hwi])
        repeat (first|(refine sR ?_; simp [hwi])|(refine sC ?_; simp [hwi])|(refine sX ?_; simp only [AU, ↓reduceIte]))
        refine sE ?_;exact ⟨i+1,hli,by omega,Weaks.mk htk.le rfl (by simp [ToL,lk,hsuc]) (by simp [BoxL,lk])⟩
      ·have:i=l.length:=by omega
       subst this;rw [hvi];by_cases hX0:0<X.length
       ·have hX1:X≠[]:=List.length_pos_iff.1 hX0
        rw [decide_eq_true hX0];try (simp [hX0,hX1])
        repeat (first|(refine sR ?_; simp [hX0,hX1])|(refine sC ?_; simp [hX0,hX1])|(refine sX ?_; simp only [AU, ↓reduceIte]))
        refine sT (sG hbox htok hbt.old htk.le ?_);simp [packA, ]
       ·have hX1:X=[]:=List.eq_nil_of_length_eq_zero (by omega)
        rw [decide_eq_false hX0];try (simp [hX0,hX1])
        repeat (first|(refine sR ?_; simp [hX0,hX1])|(refine sC ?_; simp [hX0,hX1])|(refine sX ?_; simp only [AU, ↓reduceIte]))
        refine sT (sG hbox htok hbt.old htk.le ?_);simp [packA, ]
open Go Go.ChangeShapes
variable {P:Program}
def Rd (w:World) (cs:List Value) (ds:List D):Prop:=cs.length=ds.length∧∀ i (h1:i<cs.length) (h2:i<ds.length),RVd w.cell? (fun _=>True) ds[i] cs[i]
theorem Rd.append {w:World} {cs cs':List Value} {ds ds':List D} (h:Rd w cs ds) (k:Rd w cs' ds'):Rd w (cs++cs') (ds++ds'):=by
 refine ⟨by simp [h.1,k.1],fun i h1 h2=>?_⟩;by_cases hi:i<cs.length
 ·rw [List.getElem_append_left hi,List.getElem_append_left (by rw [←h.1]; exact hi)];exact h.2 i hi _
 ·have hl:=h.1;rw [List.getElem_append_right (by omega),List.getElem_append_right (by omega)];have:=k.2 (i - cs.length) (by simp at h1; omega) (by have:=k.1; simp at h1; omega)
  simpa [hl] using this
theorem Rd.one {w:World} {c:Value} {d:D} (h:RVd w.cell? (fun _=>True) d c):Rd w [c] [d]:=⟨rfl,fun i h1 h2=>by
 have:i=0:=by simpa using h1
 subst this;exact h⟩
def Light {H:Type} (P:Program) (T:TypeId) (d:DataW H):Prop:=(d.weights P T).all (· ≤ reachBytes)=true
structure Rdr (P:Program) (T:TypeId) (α:Type) where
 enc:α→List D
 ok:α→Prop
 len:∀ x,(enc x).length=P.cellsOf T
 sound:∀ {H:Type} (e:TypeId × Value→H) (w:World) (base:Nat) (spare:Nat→Bool) (held:Bool) (fuel:Nat) (cs:List Value) (x:DataW H × List MemPlace),
  DataW.trod e P w base spare held fuel T cs=some x→∃ y,Rd w cs (enc y)∧(Light P T x.1→ok y)
def Rdr.int {T:TypeId} {k:IntKind} (h:P.underlying T=some (.int k)) (hc:P.cellsOf T=1):Rdr P T Int where
 enc n:=[.raw (.int k n)]
 ok n:=(Lit.int k n).wf=true
 len _:=by simp [hc]
 sound e w base spare held fuel cs x hx:=by
  cases fuel with
  | zero=>simp [DataW.trod] at hx
  | succ n =>
   unfold DataW.trod at hx;rw [h] at hx;split at hx <;> simp_all
   rename_i k' n' _;exact ⟨n',Rd.one (.raw rfl),fun _=>hx.1.2⟩
theorem cells_spec {w:World} {base:Nat} {a:Addr} {n:Nat} {l:List Value} (h:w.cells? base a n=some l):l.length=n∧∀ i (hi:i<l.length),w.cell? (a.add i)=some l[i]:=by
 unfold World.cells? at h;split at h
 ·have h1:l.length=n:=by have:=mapM_some_length h; simpa using this
  refine ⟨h1,fun i hi=>?_⟩;have hin:i<n:=by omega
  have:=mapM_some_get h i i (by simp [hin])
  rw [this];exact List.getElem?_eq_getElem hi
 ·cases h
theorem light_slice {H:Type} {T E:TypeId} (h:P.underlying T=some (.slice E)) {elems rest:List (DataW H)} (hl:Light P T (.slice elems rest)):elems.length * P.bytesOf E≤reachBytes∧∀ d∈elems,Light P E d:=by
 unfold Light at hl ⊢;simp only [DataW.weights,h,List.all_cons,List.all_append,Bool.and_eq_true,decide_eq_true_eq] at hl;refine ⟨Nat.le_trans (Nat.mul_le_mul_right _ (Nat.le_add_right _ _)) hl.1,?_⟩;have key:∀ l:List (DataW H),(DataW.weightsAll P E l).all (· ≤ reachBytes)=true→∀ d∈l,(d.weights P E).all (· ≤ reachBytes)=true:=by
  intro l;induction l with
  | nil=>intro _ d hd; simp at hd
  | cons x l ih =>
   intro hx d hd;simp only [DataW.weightsAll,List.all_append,Bool.and_eq_true] at hx;rcases List.mem_cons.1 hd with rfl|hd
   ·exact hx.1
   ·exact ih hx.2 d hd
 exact key elems hl.2.1
def Rdr.slice {T E:TypeId} {α:Type} (r:Rdr P E α) (h:P.underlying T=some (.slice E)) (hc:P.cellsOf T=1):Rdr P T (List α) where
 enc l:=[.sl (P.cellsOf E) (l.map r.enc)]
 ok l:=(∀ x∈l,r.ok x)∧l.length * P.bytesOf E≤reachBytes
 len _:=by simp [hc]
 sound e w base spare held fuel cs x hx:=by
  rcases DataW.trod_slice h hx with ⟨rfl,rfl⟩|⟨a,len,cap,elems,rest,n,rfl,rfl,rfl,hb,hl,hm,hel,hat,_⟩
  ·exact ⟨[],Rd.one (.sl (es:=[]) (fun _ _=>default) (Nat.le_refl _) (by decide) (by simp) (by simp) (by simp) (by simp)),fun _=>⟨by simp,by simp⟩⟩
  ·have key:∀ i (hi:i<elems.length),∃ cs y,cs.length=P.cellsOf E∧(∀ j (hj:j<cs.length),w.cell? (a.add (i * P.cellsOf E+j))=some cs[j])∧Rd w cs (r.enc y)∧(Light P E elems[i].1→r.ok y):=by
    intro i hi;have h1:=hat i (by omega);have h2:elems[i]?=some elems[i]:=List.getElem?_eq_getElem hi
    rw [h2,Option.bind_eq_some_iff] at h1;obtain ⟨cs,hcs,htr⟩:=h1;obtain ⟨hcl,hcc⟩:=cells_spec hcs;obtain ⟨y,hy,hok⟩:=r.sound e w base spare held n cs _ htr;refine ⟨cs,y,hcl,fun j hj=>?_,hy,hok⟩;rw [←Addr.add_add];exact hcc j hj
   have pick:∀ m,m≤elems.length→∃ ys:List α,ys.length=m∧(∀ i (hi:i<ys.length) (hi2:i<elems.length),∃ cs,cs.length=P.cellsOf E∧(∀ j (hj:j<cs.length),w.cell? (a.add (i * P.cellsOf E+j))=some cs[j])∧Rd w cs (r.enc ys[i])∧(Light P E elems[i].1→r.ok ys[i])):=by
    intro m;induction m with
    | zero=>intro _; exact ⟨[],rfl,fun i hi=>by simp at hi⟩
    | succ m ih =>
     intro hm';obtain ⟨ys,hys,hall⟩:=ih (by omega);obtain ⟨cs,y,g1,g2,g3,g4⟩:=key m (by omega);refine ⟨ys++[y],by simp [hys],fun i hi hi2=>?_⟩;by_cases him:i<ys.length
     ·rw [List.getElem_append_left him];exact hall i him hi2
     ·have:i=m:=by simp at hi; omega
      subst this;have e1:(ys++[y])[i]=y:=by
       rw [List.getElem_append_right (by omega)];simp
      rw [e1];exact ⟨cs,g1,g2,g3,g4⟩
   obtain ⟨ys,hys,hall⟩:=pick elems.length (Nat.le_refl _);refine ⟨ys,Rd.one ?_,fun hli=>?_⟩
   ·have hlen:len=ys.length:=by omega
    subst hlen;have hml:ys.length=(ys.map r.enc).length:=by simp
    rw [hml];refine .sl (fun i j=>(w.cell? (a.add (i * P.cellsOf E+j))).getD default) (by simpa using hl) hm (fun e he=>?_) (fun _=>⟨a,rfl⟩) (fun a' ha' i j hi hj=>?_) (fun i j hi hj=>?_)
    ·obtain ⟨y,_,rfl⟩:=List.mem_map.1 he;exact r.len y
    ·cases ha'
     obtain ⟨cs,g1,g2,_⟩:=hall i (by simpa using hi) (by simp at hi; omega);rw [g2 j (by omega)];exact ⟨trivial,rfl⟩
    ·obtain ⟨cs,g1,g2,g3,_⟩:=hall i (by simpa using hi) (by simp at hi; omega);simp only [List.getElem_map] at hj ⊢;have hjc:j<cs.length:=by rw [g3.1]; exact hj
     rw [g2 j hjc];exact g3.2 j hjc hj
   ·obtain ⟨w1,w2⟩:=light_slice h hli;refine ⟨fun y hy=>?_,by simpa [hys] using w1⟩;obtain ⟨i,hi,rfl⟩:=List.getElem_of_mem hy;obtain ⟨_,_,_,_,h4⟩:=hall i hi (by omega);exact h4 (w2 _ (List.mem_map.2 ⟨_,List.getElem_mem _,rfl⟩))
def Rdr.sliceN {T E:TypeId} {α:Type} (r:Rdr P E α) (n:Nat) (h:P.underlying T=some (.slice E)) (hc:P.cellsOf T=1) (hn:P.cellsOf E=n):Rdr P T (List α) where
 enc l:=[.sl n (l.map r.enc)]
 ok l:=(∀ x∈l,r.ok x)∧l.length * P.bytesOf E≤reachBytes
 len _:=by simp [hc]
 sound:=by
  subst hn;exact (Rdr.slice r h hc).sound
theorem list3 {α:Type} {l:List α} (h:l.length=3):l=[l[0]'(by omega),l[1]'(by omega),l[2]'(by omega)]:=by
 match l,h with
 | [p,q,r],_=>rfl
def Rdr.struct3 {T A B C:TypeId} {α β γ:Type} (r:Rdr P A α) (s:Rdr P B β) (t:Rdr P C γ) {f0 f1 f2:Field} (h:P.underlying T=some (.struct #[f0,f1,f2])) (hA:f0.type=A) (hB:f1.type=B) (hC:f2.type=C)
  (h0:f0.offset=0) (h1:f1.offset=P.cellsOf A) (h2:f2.offset=P.cellsOf A+P.cellsOf B) (hc:P.cellsOf T=P.cellsOf A+P.cellsOf B+P.cellsOf C):Rdr P T (α × β × γ) where
 enc x:=r.enc x.1++(s.enc x.2.1++t.enc x.2.2)
 ok x:=r.ok x.1∧s.ok x.2.1∧t.ok x.2.2
 len x:=by simp [r.len,s.len,t.len,hc]; omega
 sound e w base spare held fuel cs x hx:=by
  obtain ⟨xs,n,rfl,rfl,hl,hxs,hat⟩:=DataW.trod_struct h hx;have hxs':xs.length=3:=hxs
  have g0:=hat 0 f0 rfl;have g1:=hat 1 f1 rfl;have g2:=hat 2 f2 rfl;have e0:xs[0]?=some (xs[0]'(by omega)):=List.getElem?_eq_getElem (by omega)
  have e1:xs[1]?=some (xs[1]'(by omega)):=List.getElem?_eq_getElem (by omega)
  have e2:xs[2]?=some (xs[2]'(by omega)):=List.getElem?_eq_getElem (by omega)
  rw [e0,h0,hA] at g0;rw [e1,h1,hB] at g1;rw [e2,h2,hC] at g2;obtain ⟨y,k1,k2⟩:=r.sound e w base spare held n _ _ g0;obtain ⟨z,m1,m2⟩:=s.sound e w base spare held n _ _ g1;obtain ⟨q,p1,p2⟩:=t.sound e w base spare held n _ _ g2;refine ⟨(y,z,q),?_,fun hli=>?_⟩
  rotate_left
  ·unfold Light at hli k2 m2 p2;have e2:xs=[xs[0]'(by omega),xs[1]'(by omega),xs[2]'(by omega)]:=list3 hxs'
   rw [e2] at hli;simp only [List.map_cons,List.map_nil,DataW.weights,h,DataW.weightsEach,hA,hB,hC,List.all_append,Bool.and_eq_true] at hli;exact ⟨k2 hli.1,m2 hli.2.1,p2 hli.2.2.1⟩
  have hcs:cs=(cs.drop 0).take (P.cellsOf A)++((cs.drop (P.cellsOf A)).take (P.cellsOf B)++(cs.drop (P.cellsOf A+P.cellsOf B)).take (P.cellsOf C)):=by
   have:(cs.drop (P.cellsOf A+P.cellsOf B)).take (P.cellsOf C)=cs.drop (P.cellsOf A+P.cellsOf B):=List.take_of_length_le (by simp; omega)
   rw [this,←List.drop_drop,List.take_append_drop,List.drop_zero,List.take_append_drop]
  rw [hcs];exact k1.append (m1.append p1)
def G0:Gh:=⟨fun _=>none,fun _=>none,fun _=>.whole,0⟩
def m0:AMem:=⟨fun _=>none,0,fun _=>false,0⟩
theorem G0_ps (a:Addr):G0.ps a:=trivial
theorem relM_start (W:World) (hg:GlobOk G0 W:=by exact ⟨fun g cs h=>by simp [globD] at h,fun g vs h=>by simp [globT] at h⟩):RelM G0 m0 W:=by
 constructor
 case glob=>exact hg
 case box=>intro k rows b sz h; cases h
 case nobox=>intro k _; rfl
 case inj=>intro k k' b sz sz' h; cases h
 case nb=>intro k _; rfl
 case nt=>rfl
 case toks=>intro t h; cases h
 case tokb=>intro t g h; cases h
 case tinj=>intro t t' g h; cases h
 case tnt=>intro t x h; cases h
 case fresh=>intro b _; rfl
theorem RVd.start {W:World} {d:D} {v:Value} (h:RVd W.cell? (fun _=>True) d v):RVd W.cell? G0.ps d v:=h.mono fun a u _ hc=>⟨G0_ps a,hc⟩
theorem Rdr.agg {T:TypeId} {α:Type} (r:Rdr P T α) {W:World} {base base':Nat} {sp:Nat→Bool} {held:Bool} {H:Type} {enc:TypeId × Value→H} {v:Value} {d:DataW H} {p:List MemPlace}
  (hs:aggT P T=some true) (hv:Value.okWide P W .any base T v) (h:DataW.Trod enc P W base' sp held T v d p) (hli:Light P T d):∃ y,r.ok y∧RV G0 W (.agg ((r.enc y).map .d)) v:=by
 have hcs:∃ cs,v=.agg cs:=by
  unfold aggT at hs;unfold Value.okWide at hv;cases hu:P.underlying T with
  | none=>rw [hu] at hs; simp at hs
  | some u =>
   rw [hu] at hs hv;cases u <;> simp at hs hv <;> exact ⟨_,hv.choose_spec.1⟩
 obtain ⟨cs,rfl⟩:=hcs;obtain ⟨fuel,h⟩:=h;obtain ⟨y,⟨h1,h2⟩,hok⟩:=r.sound enc W base' sp held fuel _ _ h;refine ⟨y,hok hli,?_⟩;simp only [Value.cells] at h1 h2;have:=RV.agg (G:=G0) (w:=W) (cs:=(r.enc y).map .d) (vs:=cs.toList) (by simp [h1]) (fun i g1 g2=>by
  simp only [List.getElem_map];exact .d (h2 i g2 (by simpa using g1)).start) (fun v hv=>by
  obtain ⟨i,hi,rfl⟩:=List.getElem_of_mem hv;exact (h2 i hi (by omega)).one)
 simpa using this
theorem Rdr.cell {T:TypeId} {α:Type} (r:Rdr P T α) {W:World} {base base':Nat} {sp:Nat→Bool} {held:Bool} {H:Type} {enc:TypeId × Value→H} {v:Value} {d:DataW H} {p:List MemPlace} (f:α→D)
  (hs:aggT P T=some false) (hf:∀ y,r.enc y=[f y]) (hv:Value.okWide P W .any base T v) (h:DataW.Trod enc P W base' sp held T v d p) (hli:Light P T d):∃ y,r.ok y∧RV G0 W (.d (f y)) v:=by
 obtain ⟨fuel,h⟩:=h;obtain ⟨y,⟨h1,h2⟩,hok⟩:=r.sound enc W base' sp held fuel _ _ h;refine ⟨y,hok hli,?_⟩;rw [hf] at h1;have hcs:v.cells.toList=[v]:=by
  cases v with
  | agg cs =>
   exfalso
   unfold aggT at hs;unfold Value.okWide Cell.okWide Cell.ok at hv;cases hu:P.underlying T with
   | none=>rw [hu] at hs; simp at hs
   | some u =>
    rw [hu] at hs hv;cases u <;> simp_all
  | _=>rfl
 have:=h2 0 (by rw [h1]; simp) (by rw [hf]; simp)
 simp only [hf,List.getElem_cons_zero] at this;have e:v.cells.toList[0]'(by rw [h1]; simp)=v:=by simp [hcs]
 rw [e] at this;exact .d this.start
theorem light_arg {H:Type} {ts:List TypeId} {ds:List (DataW H)} (hz:(DataW.weightsEach P ts ds).all (· ≤ reachBytes)=true) {j:Nat} {T:TypeId} {d:DataW H} (ht:ts[j]?=some T) (hd:ds[j]?=some d):Light P T d :=
 List.all_eq_true.2 fun x hx=>List.all_eq_true.1 hz x (DataW.weights_mem_each ht hd x hx)
theorem arg_agg {ps:Array TypeId} {args:Array Value} {W:World} {base base':Nat} {sp:Nat→Bool} {held:Bool} {H:Type} {enc:TypeId × Value→H} (hval:∀ (j:Nat) t v,ps[j]?=some t→args[j]?=some v→Value.okWide P W .any base t v)
  (j:Nat) (T:TypeId) (v:Value) (hp:ps[j]?=some T) (ha:args[j]?=some v) {α:Type} (r:Rdr P T α) {d:DataW H} {p:List MemPlace} (hs:aggT P T=some true) (h:DataW.Trod enc P W base' sp held T v d p) (hli:Light P T d) :
  ∃ y,r.ok y∧RV G0 W (.agg ((r.enc y).map .d)) v:=r.agg hs (hval j T v hp ha) h hli
theorem arg_cell {ps:Array TypeId} {args:Array Value} {W:World} {base base':Nat} {sp:Nat→Bool} {held:Bool} {H:Type} {enc:TypeId × Value→H} (hval:∀ (j:Nat) t v,ps[j]?=some t→args[j]?=some v→Value.okWide P W .any base t v)
  (j:Nat) (T:TypeId) (v:Value) (hp:ps[j]?=some T) (ha:args[j]?=some v) {α:Type} (r:Rdr P T α) (f:α→D) {d:DataW H} {p:List MemPlace} (hs:aggT P T=some false) (hf:∀ y,r.enc y=[f y]) (h:DataW.Trod enc P W base' sp held T v d p) (hli:Light P T d) :
  ∃ y,r.ok y∧RV G0 W (.d (f y)) v:=r.cell f hs hf (hval j T v hp ha) h hli
theorem le_old {W W':World} {G':Gh} (h:Le G0 W G' W') (b:Nat) (hb:b<W.heap.size):W'.heap[b]?=W.heap[b]?:=(h.whole b hb rfl).2
theorem le_kept {W W':World} {G':Gh} (h:Le G0 W G' W') (may:MemPlace→Prop):W.keptBut W' may:=by
 refine ⟨h.os,h.output,fun i hi=>?_⟩;rw [le_old h i hi];split
 ·rename_i c t fr c' t' fr' e1 e2;rw [e1] at e2;cases e2;exact ⟨rfl,rfl,rfl,fun _ _=>rfl⟩
 ·rename_i e1 e2;rw [e1] at e2;cases e2;exact .inr ⟨rfl,rfl⟩
 ·rfl
theorem le_same {W W':World} {G':Gh} (h:Le G0 W G' W') {p:MemPlace} (hp:p.block<W.heap.size):W.sameAt W' p:=by
 cases p with
 | cell b off=>exact World.cell?_of_block (w:=W) (a:=⟨b,off,none⟩) (le_old h b hp)
 | map b=>exact le_old h b hp
theorem trodAll_stays {H:Type} {enc:TypeId × Value→H} {W W':World} {T:TypeId→Prop} {sp':Nat→Bool} (K:Kids P T) (hsz:∀ {t e:TypeId},T t→P.underlying t=some (.slice e)→0<P.cellsOf e) :
  ∀ {ts:List TypeId} {vs:List Value} {ds:List (DataW H)} {ps:List MemPlace},(∀ t∈ts,T t)→DataW.TrodAll enc P W 0 (fun _=>true) true ts vs ds ps→(∀ p∈ps,W.sameAt W' p)→(∀ p∈ps,sp' p.block=true) →
  DataW.TrodAll enc P W' 0 sp' true ts vs ds ps
 | [],[],[],_,_,h,_,_=>h
 | t::ts,v::vs,d::ds,_,hT,⟨p,q,⟨n,hn⟩,h2,e⟩,h3,h4=>by
  subst e;exact ⟨p,q,⟨n,DataW.trod_stays K hsz (fun h=>by cases h) (hT t (by simp)) hn (fun x hx=>h3 x (by simp [hx])) (fun x hx=>h4 x (by simp [hx]))⟩,
   trodAll_stays K hsz (fun t ht=>hT t (by simp [ht])) h2 (fun x hx=>h3 x (by simp [hx])) (fun x hx=>h4 x (by simp [hx])),rfl⟩
theorem law_of {f:FuncId} {fn:Func} {s:ChangeSpec} {H:Type} {enc:TypeId × Value→H} {W:World} {args:Array Value} {ds:List (DataW H)} {before:List MemPlace} {avs:List AV} {tok':Nat→Bool} {nt':Nat}
  (hl:laidOutB P=true) (hm:mapsRowed P=true) (hz:((List.range P.types.size).all fun t=>match P.underlying t with|some (.slice e)=>decide (0<P.cellsOf e)|_=>true)=true)
  (hpar:fn.params.all (· < P.types.size)=true) {tb:TypeId} (hres:fn.resultTypes = #[tb]) (hb:P.underlying tb=some .bool)
  (hvars:s.vars=[]) (hfn:s.fn H ds={ results:=[.lit (.bool true)],args:=ds })
  (hW:DataW.Whole enc P fn.params.toList s.vars false W args.toList ds [] before) (hr:RVs G0 W avs args.toList) (hc:DCall P f avs (fun _=>false) 0 (B true) tok' nt') (hgl:GlobOk G0 W:=by exact ⟨fun g cs h=>by simp [globD] at h,fun g vs h=>by simp [globT] at h⟩) :
  Calls P f args W fun e W'=>∃ v,e=.returned v∧s.post enc P fn false true false false W args v W':=by
 have hcall:=(hc (fun _=>none) 0).2 G0 W args.toList (relM_start W hgl) hr;simp only [Array.toArray_toList] at hcall;refine hcall.mono ?_;rintro e W' ⟨v,av,m',G',rfl,⟨rfl,rfl⟩,_,_,hv,hle,_⟩;cases hv with
 | d hv =>
  cases hv with
  | raw =>
   refine ⟨_,rfl,?_⟩;have hlt:=hW.lt;have hWW:=hW;obtain ⟨p,q,hA,hV,rfl,hfz,hnd⟩:=hW;rw [hvars] at hV;obtain ⟨_,rfl⟩:=trodVars_none hV;simp only [List.append_nil] at hlt hfz hWW ⊢;have hT:∀ t∈fn.params.toList,t<P.types.size:=fun t ht=>by
    have:=Array.all_eq_true_iff_forall_mem.1 hpar t (by simpa using ht)
    simpa using this
   have hsz:∀ {t e:TypeId},t<P.types.size→P.underlying t=some (.slice e)→0<P.cellsOf e:=by
    intro t e ht hu;have:=List.all_eq_true.1 hz t (List.mem_range.2 ht)
    rw [hu] at this;simpa using this
   have hargs:∀ sp:Nat→Bool,(∀ x∈p,sp x.block=true)→DataW.TrodAll enc P W' 0 sp true fn.params.toList args.toList ds p:=fun sp hsp =>
    trodAll_stays (kids_rows hl hm) hsz hT hA (fun x hx=>le_same hle (hlt x hx)) hsp
   have hnat:(Value.bool true).resultList fn.resultTypes.size=[.bool true]:=by rw [hres]; rfl
   have hresb:∀ (b:Nat) (sp:Nat→Bool) (hd:Bool),DataW.TrodAll enc P W' b sp hd fn.resultTypes.toList ((Value.bool true).resultList fn.resultTypes.size) [.lit (.bool true)] []:=fun b sp hd=>by
    rw [hnat,hres];exact trodAll_mk1 ⟨1,by simp [DataW.trod,hb,Value.cells]⟩
   have hfn':s.fn H (ds++[])={ results:=[.lit (.bool true)],args:=ds }:=by rw [List.append_nil]; exact hfn
   refine ⟨ds,[],p,[],p,[],hWW,?_,?_,?_,World.keptBut_mono (fun _ f=>f.elim) (le_kept hle fun _=>False),fun h=>by cases h⟩
   ·rw [hfn']; exact hresb _ _ _
   ·rw [hfn']; exact hargs _ fun x hx=>by simpa using hlt x hx
   ·rw [hfn',hvars]; exact rfl
theorem own0:ownKnob Tryz.prog.godebug=none:=by kernel_rfl
theorem laidOut0:laidOutB Tryz.prog=true:=by kernel_rfl
theorem mapsRowed0:mapsRowed Tryz.prog=true:=by kernel_rfl
theorem slices0:((List.range Tryz.prog.types.size).all fun t=>match Tryz.prog.underlying t with|some (.slice e)=>decide (0<Tryz.prog.cellsOf e)|_=>true)=true:=by kernel_rfl
structure RdF (P:Program) (T:TypeId) {α:Type} (en:α→List D) (ok:α→Prop) (n:Nat):Prop where
 sound:∀ {H:Type} (e:TypeId × Value→H) (w:World) (base:Nat) (spare:Nat→Bool) (held:Bool) (cs:List Value) (x:DataW H × List MemPlace),
  DataW.trod e P w base spare held n T cs=some x→∃ y,Rd w cs (en y)∧(Light P T x.1→ok y)
theorem Rdr.f {P:Program} {T:TypeId} {α:Type} (r:Rdr P T α) (n:Nat):RdF P T r.enc r.ok n:=⟨fun e w base spare held cs x hx=>r.sound e w base spare held n cs x hx⟩
theorem RdF.zero {P:Program} {T:TypeId} {α:Type} {en:α→List D} {ok:α→Prop}:RdF P T en ok 0:=⟨fun e w base spare held cs x hx=>by simp [DataW.trod] at hx⟩
def Rdr.ofF {P:Program} {T:TypeId} {α:Type} (en:α→List D) (ok:α→Prop) (len:∀ x,(en x).length=P.cellsOf T) (h:∀ n,RdF P T en ok n):Rdr P T α:=⟨en,ok,len,fun e w base spare held n cs x hx=>(h n).sound e w base spare held cs x hx⟩
def Rdr.arr3 {P:Program} {T A:TypeId} {α:Type} (r:Rdr P A α) (h:P.underlying T=some (.array 3 A)) (hc:P.cellsOf T=P.cellsOf A+P.cellsOf A+P.cellsOf A):Rdr P T (α × α × α) where
 enc x:=r.enc x.1++(r.enc x.2.1++r.enc x.2.2)
 ok x:=r.ok x.1∧r.ok x.2.1∧r.ok x.2.2
 len x:=by simp [r.len,hc]; omega
 sound e w base spare held fuel cs x hx:=by
  obtain ⟨xs,n,rfl,rfl,hl,hxs,hat⟩:=DataW.trod_array h hx;have g0:=hat 0 (by decide);have g1:=hat 1 (by decide);have g2:=hat 2 (by decide);have e0:xs[0]?=some (xs[0]'(by omega)):=List.getElem?_eq_getElem (by omega)
  have e1:xs[1]?=some (xs[1]'(by omega)):=List.getElem?_eq_getElem (by omega)
  have e2:xs[2]?=some (xs[2]'(by omega)):=List.getElem?_eq_getElem (by omega)
  rw [e0,Nat.zero_mul] at g0;rw [e1,Nat.one_mul] at g1;rw [e2,show 2 * P.cellsOf A=P.cellsOf A+P.cellsOf A by omega] at g2;obtain ⟨y,k1,k2⟩:=r.sound e w base spare held n _ _ g0;obtain ⟨z,m1,m2⟩:=r.sound e w base spare held n _ _ g1;obtain ⟨q,p1,p2⟩:=r.sound e w base spare held n _ _ g2;refine ⟨(y,z,q),?_,fun hli=>?_⟩
  rotate_left
  ·unfold Light at hli k2 m2 p2;have e2:xs=[xs[0]'(by omega),xs[1]'(by omega),xs[2]'(by omega)]:=list3 hxs
   rw [e2] at hli;simp only [List.map_cons,List.map_nil,DataW.weights,h,DataW.weightsAll,List.all_append,Bool.and_eq_true] at hli;exact ⟨k2 hli.1,m2 hli.2.1,p2 hli.2.2.1⟩
  have hcs:cs=(cs.drop 0).take (P.cellsOf A)++((cs.drop (P.cellsOf A)).take (P.cellsOf A)++(cs.drop (P.cellsOf A+P.cellsOf A)).take (P.cellsOf A)):=by
   have:(cs.drop (P.cellsOf A+P.cellsOf A)).take (P.cellsOf A)=cs.drop (P.cellsOf A+P.cellsOf A):=List.take_of_length_le (by simp; omega)
   rw [this,←List.drop_drop,List.take_append_drop,List.drop_zero,List.take_append_drop]
  rw [hcs];exact k1.append (m1.append p1)
def rdB:Rdr Tryz.prog 5 Int:=Rdr.int (k:=.u8) Tryz.underlying5 (by kernel_rfl)
theorem rdB_ok {n:Int} (h:(Lit.int .u8 n).wf=true):0≤n∧n<256:=by
 simp [Lit.wf,IntKind.min,IntKind.max,IntKind.signed,IntKind.bits] at h;omega
def rdBs:Rdr Tryz.prog 66 (List Int):=rdB.sliceN 1 Tryz.underlying66 (by kernel_rfl) (by kernel_rfl)
theorem rdBs_ok {l:List Int} (h:rdBs.ok l):U8s l:=fun c hc=>rdB_ok (h.1 c hc)
def rdB3:Rdr Tryz.prog 193 (Int × Int × Int):=rdB.arr3 Tryz.underlying193 (by kernel_rfl)
def rdB3s:Rdr Tryz.prog 96 (List (Int × Int × Int)):=rdB3.sliceN 3 Tryz.underlying96 (by kernel_rfl) (by kernel_rfl)
def wordsL:List ByteArray:=[⟨#[110,111,116]⟩,⟨#[69,88]⟩,⟨#[69,70]⟩,⟨#[69,71]⟩,⟨#[65,88]⟩,⟨#[65,70]⟩,⟨#[65,71]⟩,⟨#[69]⟩,⟨#[65]⟩,⟨#[85]⟩]
theorem rch50:reachBytes=140737488351232:=rfl
def llB (L:List (List Bool)):List (List D):=L.map fun b=>[bools b]
@[simp] theorem llB_len (L:List (List Bool)):(llB L).length=L.length:=by simp [llB]
abbrev at_ (l:List Bool) (i:Nat):Bool:=l.getD i false
def far0 (g:List Bool):List Int:=g.map fun b=>if b=true then 0 else -1
def f1 (g:List Bool) (i:Nat):List Int:=(far0 g).take i++List.replicate (g.length - i) 0
theorem getD_set_ne {o:List Int} {i k:Nat} (h:k≠i) (v:Int):(o.set i v).getD k 0=o.getD k 0:=by simp [List.getElem?_set_ne (Ne.symm h)]
def nx0 (i:Nat) (r:List Int):List Int:=if r=[] then [(i:Int)] else r
def nx1 (i:Nat) (r:List Int):List Int:=sortI (nx0 i r)
def nxR (N:List (List Int)):List (List Int):=N.mapIdx nx1
@[simp] theorem nxR_len (N:List (List Int)):(nxR N).length=N.length:=by simp [nxR]
def pvS (i:Nat) (P:List (List Int)) (k:Int):List (List Int):=P.set k.toNat (P.getD k.toNat []++[(i:Int)])
def pvJ (i:Nat) (r:List Int) (P:List (List Int)) (j:Nat):List (List Int):=(r.take j).foldl (pvS i) P
theorem pv_len (i:Nat):∀ (r:List Int) (P:List (List Int)),(r.foldl (pvS i) P).length=P.length
 | [],P=>rfl
 | k::r,P=>by rw [List.foldl_cons,pv_len i r]; simp [pvS]
@[simp] theorem pvJ_len (i:Nat) (r:List Int) (P:List (List Int)) (j:Nat):(pvJ i r P j).length=P.length:=pv_len i _ P
def pvP (NX:List (List Int)):Nat→List (List Int)
 | 0=>List.replicate NX.length []
 | i+1=>(NX.getD i []).foldl (pvS i) (pvP NX i)
@[simp] theorem pvP_len (NX:List (List Int)):∀ i,(pvP NX i).length=NX.length
 | 0=>by simp [pvP]
 | i+1=>by rw [pvP,pv_len,pvP_len NX i]
open Go Go.Proofs Go.RowKit
def rowsS (R:List (Nat × List Int)):List (List AV):=R.map fun r=>[AV.stk r.1 1 (rI r.2)]
@[simp] theorem rowsS_len (R:List (Nat × List Int)):(rowsS R).length=R.length:=by simp [rowsS]
def rowsW (P:List (List Int × Own)):List (List AV):=P.map fun r=>[AV.osl 1 (rI r.1) r.2]
@[simp] theorem rowsW_len (P:List (List Int × Own)):(rowsW P).length=P.length:=by simp [rowsW]
def spK (n:Int):Nat:=(n % 3).toNat
def spE1 (n:Int):List E:=if 0<spK n∧n / 3 % 2=1 then [⟨0,0,0⟩] else []
def spE2 (n:Int):List E:=if 1<spK n∧n / 6 % 2=1 then [⟨0,0,1⟩] else []
def spE (n:Int):List E:=spE1 n++spE2 n
def spH (n:Int):Hs:=⟨⟨List.replicate (spK n) 0,spE n⟩,List.replicate (spK n) []⟩
def spS (cs:List Int) (i:Nat):List Hs:=(List.range i).map fun j=>spH (cs.getD j 0)
@[simp] theorem spS_len (cs:List Int) (i:Nat):(spS cs i).length=i:=by simp [spS]
theorem list2y {α:Type} {l:List α} (h:l.length=2):l=[l[0]'(by omega),l[1]'(by omega)]:=by
 match l,h with
 | [p,q],_=>rfl
def Rdr.arr2 {P:Program} {T A:TypeId} {α:Type} (r:Rdr P A α) (h:P.underlying T=some (.array 2 A)) (hc:P.cellsOf T=P.cellsOf A+P.cellsOf A):Rdr P T (α × α) where
 enc x:=r.enc x.1++r.enc x.2
 ok x:=r.ok x.1∧r.ok x.2
 len x:=by simp [r.len,hc]
 sound e w base spare held fuel cs x hx:=by
  obtain ⟨xs,n,rfl,rfl,hl,hxs,hat⟩:=DataW.trod_array h hx;have g0:=hat 0 (by decide);have g1:=hat 1 (by decide);have e0:xs[0]?=some (xs[0]'(by omega)):=List.getElem?_eq_getElem (by omega)
  have e1:xs[1]?=some (xs[1]'(by omega)):=List.getElem?_eq_getElem (by omega)
  rw [e0,Nat.zero_mul] at g0;rw [e1,Nat.one_mul] at g1;obtain ⟨y,k1,k2⟩:=r.sound e w base spare held n _ _ g0;obtain ⟨z,m1,m2⟩:=r.sound e w base spare held n _ _ g1;refine ⟨(y,z),?_,fun hli=>?_⟩
  rotate_left
  ·unfold Light at hli k2 m2;have e2:xs=[xs[0]'(by omega),xs[1]'(by omega)]:=list2y hxs
   rw [e2] at hli;simp only [List.map_cons,List.map_nil,DataW.weights,h,DataW.weightsAll,List.all_append,Bool.and_eq_true] at hli;exact ⟨k2 hli.1,m2 hli.2.1⟩
  have hcs:cs=(cs.drop 0).take (P.cellsOf A)++(cs.drop (P.cellsOf A)).take (P.cellsOf A):=by
   have:(cs.drop (P.cellsOf A)).take (P.cellsOf A)=cs.drop (P.cellsOf A):=List.take_of_length_le (by simp; omega)
   rw [this,List.drop_zero,List.take_append_drop]
  rw [hcs];exact k1.append m1
def rdB2:Rdr Tryz.prog 169 (Int × Int):=rdB.arr2 Tryz.underlying169 (by kernel_rfl)
def rdB2s:Rdr Tryz.prog 67 (List (Int × Int)):=rdB2.sliceN 2 Tryz.underlying67 (by kernel_rfl) (by kernel_rfl)
theorem by_u81:Tryz.prog.bytesOf 5=1:=by kernel_rfl
theorem by_u82:Tryz.prog.bytesOf 169=2:=by kernel_rfl
set_option maxRecDepth 100000 in
theorem arg_codes50 {ps:Array TypeId} {args:Array Value} {W:World} {base base':Nat} {sp:Nat→Bool} {held:Bool} {H:Type} {enc:TypeId × Value→H} (hval:∀ (j:Nat) t v,ps[j]?=some t→args[j]?=some v→Value.okWide Tryz.prog W .any base t v)
  (j:Nat) (v:Value) (hp:ps[j]?=some 66) (ha:args[j]?=some v) {d:DataW H} {p:List MemPlace} (h:DataW.Trod enc Tryz.prog W base' sp held 66 v d p) (hli:Light Tryz.prog 66 d):∃ l:List Int,(U8s l∧l.length≤200000000000000)∧RV G0 W (.d (bytes l)) v:=by
 refine Exists.elim (arg_cell hval j 66 v hp ha rdBs (fun l=>bytes l) aggT_66 (fun _=>rfl) h hli) fun l hl=>⟨l,?_,hl.2⟩
 have h2:l.length * Tryz.prog.bytesOf 5≤reachBytes:=hl.1.2
 rw [by_u81,rch50] at h2;exact ⟨rdBs_ok hl.1,by omega⟩
theorem list5d {α:Type} {l:List α} (h:l.length=5):l=[l[0]'(by omega),l[1]'(by omega),l[2]'(by omega),l[3]'(by omega),l[4]'(by omega)]:=by
 match l,h with
 | [p,q,r,s,t],_=>rfl
theorem RdF.struct5 {P:Program} {T A B C E F:TypeId} {α β γ δ φ:Type} {ea:α→List D} {eb:β→List D} {ec:γ→List D} {ed:δ→List D} {ef:φ→List D} {oa:α→Prop} {ob:β→Prop} {oc:γ→Prop} {od:δ→Prop} {of:φ→Prop} {n:Nat}
  (r:RdF P A ea oa n) (s:RdF P B eb ob n) (t:RdF P C ec oc n) (u:RdF P E ed od n) (v:RdF P F ef of n) {f0 f1 f2 f3 f4:Field} (h:P.underlying T=some (.struct #[f0,f1,f2,f3,f4])) (hA:f0.type=A) (hB:f1.type=B) (hC:f2.type=C) (hE:f3.type=E) (hF:f4.type=F)
  (h0:f0.offset=0) (h1:f1.offset=P.cellsOf A) (h2:f2.offset=P.cellsOf A+P.cellsOf B) (h3:f3.offset=P.cellsOf A+P.cellsOf B+P.cellsOf C) (h4:f4.offset=P.cellsOf A+P.cellsOf B+P.cellsOf C+P.cellsOf E) (hc:P.cellsOf T=P.cellsOf A+P.cellsOf B+P.cellsOf C+P.cellsOf E+P.cellsOf F) :
  RdF P T (fun x:α × β × γ × δ × φ=>ea x.1++(eb x.2.1++(ec x.2.2.1++(ed x.2.2.2.1++ef x.2.2.2.2)))) (fun x=>oa x.1∧ob x.2.1∧oc x.2.2.1∧od x.2.2.2.1∧of x.2.2.2.2) (n+1):=by
 constructor
 intro H e w base spare held cs x hx;obtain ⟨xs,n',hn',rfl,hl,hxs,hat⟩:=DataW.trod_struct h hx;obtain rfl:n'=n:=by omega
 have hxs':xs.length=5:=hxs
 have g0:=hat 0 f0 rfl;have g1:=hat 1 f1 rfl;have g2:=hat 2 f2 rfl;have g3:=hat 3 f3 rfl;have g4:=hat 4 f4 rfl;have e0:xs[0]?=some (xs[0]'(by omega)):=List.getElem?_eq_getElem (by omega)
 have e1:xs[1]?=some (xs[1]'(by omega)):=List.getElem?_eq_getElem (by omega)
 have e2:xs[2]?=some (xs[2]'(by omega)):=List.getElem?_eq_getElem (by omega)
 have e3:xs[3]?=some (xs[3]'(by omega)):=List.getElem?_eq_getElem (by omega)
 have e4:xs[4]?=some (xs[4]'(by omega)):=List.getElem?_eq_getElem (by omega)
 rw [e0,h0,hA] at g0;rw [e1,h1,hB] at g1;rw [e2,h2,hC] at g2;rw [e3,h3,hE] at g3;rw [e4,h4,hF] at g4;obtain ⟨y,k1,k2⟩:=r.sound e w base spare held _ _ g0;obtain ⟨z,m1,m2⟩:=s.sound e w base spare held _ _ g1;obtain ⟨q,p1,p2⟩:=t.sound e w base spare held _ _ g2;obtain ⟨a,q1,q2⟩:=u.sound e w base spare held _ _ g3;obtain ⟨b,r1,r2⟩:=v.sound e w base spare held _ _ g4;refine ⟨(y,z,q,a,b),?_,fun hli=>?_⟩
 rotate_left
 ·unfold Light at hli k2 m2 p2 q2 r2;have e2:xs=[xs[0]'(by omega),xs[1]'(by omega),xs[2]'(by omega),xs[3]'(by omega),xs[4]'(by omega)]:=list5d hxs'
  rw [e2] at hli;simp only [List.map_cons,List.map_nil,DataW.weights,h,DataW.weightsEach,hA,hB,hC,hE,hF,List.all_append,Bool.and_eq_true] at hli;exact ⟨k2 hli.1,m2 hli.2.1,p2 hli.2.2.1,q2 hli.2.2.2.1,r2 hli.2.2.2.2.1⟩
 have hcs:cs=(cs.drop 0).take (P.cellsOf A)++((cs.drop (P.cellsOf A)).take (P.cellsOf B)++((cs.drop (P.cellsOf A+P.cellsOf B)).take (P.cellsOf C)++((cs.drop (P.cellsOf A+P.cellsOf B+P.cellsOf C)).take (P.cellsOf E)++(cs.drop (P.cellsOf A+P.cellsOf B+P.cellsOf C+P.cellsOf E)).take (P.cellsOf F)))):=by
  have:(cs.drop (P.cellsOf A+P.cellsOf B+P.cellsOf C+P.cellsOf E)).take (P.cellsOf F)=cs.drop (P.cellsOf A+P.cellsOf B+P.cellsOf C+P.cellsOf E):=List.take_of_length_le (by simp; omega)
  rw [this];have e4:=List.take_append_drop (P.cellsOf E) (cs.drop (P.cellsOf A+P.cellsOf B+P.cellsOf C));have e3:=List.take_append_drop (P.cellsOf C) (cs.drop (P.cellsOf A+P.cellsOf B));have e2:=List.take_append_drop (P.cellsOf B) (cs.drop (P.cellsOf A));rw [List.drop_drop] at e4 e3 e2;rw [e4,e3,e2,List.drop_zero,List.take_append_drop]
 rw [hcs];exact k1.append (m1.append (p1.append (q1.append r1)))
def rdBss:Rdr Tryz.prog 97 (List (List Int)):=rdBs.sliceN 1 Tryz.underlying97 (by kernel_rfl) (by kernel_rfl)
def rdDr42c:Rdr Tryz.prog 99 (List Int × List (Int × Int × Int) × List (List Int)):=Rdr.struct3 rdBs rdB3s rdBss Tryz.underlying99 rfl rfl rfl rfl (by kernel_rfl) (by kernel_rfl) (by kernel_rfl)
abbrev Dr42T:=List (Int × Int) × List (Int × Int) × (List Int × List (Int × Int × Int) × List (List Int)) × List Int × List (Int × Int × Int)
theorem rdDr42_n (n:Nat):RdF Tryz.prog 101 (fun x:Dr42T=>rdB2s.enc x.1++(rdB2s.enc x.2.1++(rdDr42c.enc x.2.2.1++(rdBs.enc x.2.2.2.1++rdB3s.enc x.2.2.2.2)))) (fun x=>rdB2s.ok x.1∧rdB2s.ok x.2.1∧rdDr42c.ok x.2.2.1∧rdBs.ok x.2.2.2.1∧rdB3s.ok x.2.2.2.2) n:=by
 cases n with
 | zero=>exact .zero
 | succ n=>exact RdF.struct5 (rdB2s.f n) (rdB2s.f n) (rdDr42c.f n) (rdBs.f n) (rdB3s.f n) Tryz.underlying101 rfl rfl rfl rfl rfl rfl (by kernel_rfl) (by kernel_rfl) (by kernel_rfl) (by kernel_rfl) (by kernel_rfl)
def rdDr42:Rdr Tryz.prog 101 Dr42T:=Rdr.ofF _ _ (fun x=>by simp [rdB2s.len,rdDr42c.len,rdBs.len,rdB3s.len]; kernel_rfl) rdDr42_n
structure Dr42 where
 ty:List (Int × Int)
 en:List (Int × Int)
 cn:List Int
 ce:List (Int × Int × Int)
 cx:List (List Int)
 ns:List Int
 es:List (Int × Int × Int)
structure Dr42.Big (d:Dr42):Prop where
 ty:U82 d.ty
 en:U82 d.en
 ns:U8s d.ns
 es:U83 d.es
 nt:d.ty.length≤200000000000000
 ne:d.en.length≤200000000000000
 nn:d.ns.length≤200000000000000
 ng:d.es.length≤200000000000000
abbrev Dr42.row (d:Dr42):List AV:=[.d (b2s d.ty),.d (b2s d.en),.d (bytes d.cn),.d (b3s d.ce),.d (.sl 1 (d.cx.map fun l=>[bytes l])),.d (bytes d.ns),.d (b3s d.es)]
abbrev Dr42.av (d:Dr42):AV:=.agg d.row
theorem by_u84:Tryz.prog.bytesOf 193=3:=by kernel_rfl
set_option maxRecDepth 100000 in
theorem arg_draft42 {ps:Array TypeId} {args:Array Value} {W:World} {base base':Nat} {sp:Nat→Bool} {held:Bool} {H:Type} {enc:TypeId × Value→H} (hval:∀ (j:Nat) t v,ps[j]?=some t→args[j]?=some v→Value.okWide Tryz.prog W .any base t v)
  (j:Nat) (v:Value) (hp:ps[j]?=some 101) (ha:args[j]?=some v) {d:DataW H} {p:List MemPlace} (h:DataW.Trod enc Tryz.prog W base' sp held 101 v d p) (hli:Light Tryz.prog 101 d):∃ x:Dr42,x.Big∧RV G0 W x.av v:=by
 refine Exists.elim (arg_agg hval j 101 v hp ha rdDr42 aggT_101 h hli) fun x hx=>⟨⟨x.1,x.2.1,x.2.2.1.1,x.2.2.1.2.1,x.2.2.1.2.2,x.2.2.2.1,x.2.2.2.2⟩,?_,?_⟩
 ·obtain ⟨⟨a1,a2⟩,⟨b1,b2⟩,_,⟨c1,c2⟩,⟨d1,d2⟩⟩:=hx.1;have a2:x.1.length * Tryz.prog.bytesOf 169≤reachBytes:=a2
  have b2:x.2.1.length * Tryz.prog.bytesOf 169≤reachBytes:=b2
  have c2:x.2.2.2.1.length * Tryz.prog.bytesOf 5≤reachBytes:=c2
  have d2:x.2.2.2.2.length * Tryz.prog.bytesOf 193≤reachBytes:=d2
  rw [by_u82,rch50] at a2 b2;rw [by_u81,rch50] at c2;rw [by_u84,rch50] at d2;exact ⟨fun a ha=>⟨rdB_ok (a1 a ha).1,rdB_ok (a1 a ha).2⟩,fun a ha=>⟨rdB_ok (b1 a ha).1,rdB_ok (b1 a ha).2⟩,fun c hc=>rdB_ok (c1 c hc),fun a ha=>⟨rdB_ok (d1 a ha).1,rdB_ok (d1 a ha).2.1,rdB_ok (d1 a ha).2.2⟩,by show x.1.length≤_; omega,by show x.2.1.length≤_; omega,by show x.2.2.2.1.length≤_; omega,by show x.2.2.2.2.length≤_; omega⟩
 ·have h2:=hx.2;exact h2
end Go.AM
