/-
 Parts of the proof, as merged from many texts: a machine over data, what the functions compute, plain laws.
-/
import Derived.Test.YtainalmfffjnjaaGreatDoorPTT7
import Derived.Shelf.Spec.SlicesGrow
import Derived.Deep.AppendLies
import Derived.WalkKit
import Derived.ProofKit
import Derived.OpenShut
import Derived.ChangeStays
import Derived.SizedLaws
set_option linter.unusedSimpArgs false
set_option linter.unusedVariables false
namespace Go.AM
open Go Go.Proofs
open Go.Proofs.Tryz
def atAt(L:List At)(k:Nat):Int:=attE (L.getD k ⟨eB,0,0,[]⟩) (L.take k)
def ownAt(L:List At)(M k:Nat):Int:=if k+M<L.length then 0 else atAt L k
def ownE(L:List At)(M:Nat):Int:=firstE (ownAt L M) L.length
theorem ownAt_zero(L:List At)(M:Nat):∀k,k+M<=L.length->firstE (ownAt L M) k=0
 | 0,_=>rfl
 | k+1,h=>by
  simp only[firstE,ownAt_zero L M k (by omega),↓reduceIte,ownAt];rw[if_pos (by omega)]
theorem atsL_own{t:Ty}{i:Nat}:(t.nd i).own.length<=(atsL t i).length:=by
 rw[atsL];split
 .rw[List.length_append];omega
 .exact nr _
theorem atsL_fit{t:Ty}(ht:t.Fit):∀n i,i<n->∀x∈atsL t i,x.Fit
 | 0,i,hi=>absurd hi (Nat.not_lt_zero _)
 | n+1,i,hi=>by
  have hown:∀x∈(t.nd i).own,x.Fit:=by
   by_cases h:i<t.nodes.length
   .rw[nd_at h];exact(ht.a _ (List.getElem_mem h)).2
   .intro x hx;simp only[Ty.nd,List.getD_eq_getElem?_getD,List.getElem?_eq_none (Nat.le_of_not_lt h),Option.getD_none] at hx;cases hx
  rw[atsL];split
  .rename_i h;intro x hx;rcases List.mem_append.1 hx with hx|hx
   .exact atsL_fit ht n _ (by omega) x hx
   .exact hown x hx
  .exact hown
theorem at_getD{L:List At}{k:Nat}(h:k<L.length):atAt L k=attE L[k] (L.take k):=by simp[atAt,h]
theorem atts_take(L:List At)(k:Nat):atts (L.take k)=.sl 4 (List.take k (L.map At.cells)):=by rw[atts,List.map_take]
theorem atts_at{L:List At}{k:Nat}(h:k<L.length):(L.map At.cells)[k]?=some L[k].cells:=by simp[h]
def nodE(t:Ty)(i:Nat):Int :=
 if nameB (t.nd i).name=false then 2 else if anyB (fun y=>decide (y.name=(t.nd i).name)) (t.nodes.take i)=true then 5
 else if (t.nd i).par < -1∨(i:Int)<=(t.nd i).par then 6 else if 4<(t.nd i).own.length then 3
 else if 8<(atsL t i).length then 3 else ownE (atsL t i) (t.nd i).own.length
def stNo(L:List At)(nb:Nat)(box:Bxs)(tok:Tks)(nt:Nat)(k:Nat):AS:=⟨tl [(7,I k),(6,.d (atts L))],lb nb box [],tok,nt⟩
theorem node_c(t:Ty)(ht:t.Fit)(hM:∀i,(t.nd i).own.length<=1000)(i:Nat)(hi:i<t.nodes.length)(hp:∀j,j<i->(t.nd j).par<j):DC 133 [t.av,I i] (I (nodE t i)):=by
 intro tok nt box nb;have hnd:=nd_at hi;have hmem:=List.getElem_mem hi;have h1:=isName_c (t.nd i).name (by rw[hnd];exact Nat.le_trans (ht.nn _ hmem) (by decide));obtain⟨N,hN⟩:∃N,nodE t i=N:=⟨_,rfl⟩
 rw[hN];unfold nodE at hN;rw[hnd] at h1 hN;cases e1:nameB t.nodes[i].name
 .rw[e1] at h1 hN;rw[if_pos rfl] at hN;refine sI func133 ntmps133 fun Hb Ht=>?_
  repeat first|simp[hi]|refine sR ?_
  refine sD (h1 _ _) ?_;repeat first|simp|refine sR ?_
  refine sC ?_;repeat first|simp|refine sR ?_
  refine sT (sH Hb Ht ?_);simp[<-hN]
 .rw[e1] at h1 hN;rw[if_neg (by simp)] at hN;obtain⟨p,hpp⟩:∃p:NT->Bool,(fun y=>decide (y.name=t.nodes[i].name))=p:=⟨_,rfl⟩
  have h2:=fun y box nb k (hbk:box k=some [(t.nodes[i]'hi).row])=>node1_c (t.nodes[i]'hi) y box nb k tok nt hbk
  have hpy:∀y:NT,decide (y.name=t.nodes[i].name)=p y:=fun y=>by rw[<-hpp]
  simp only[hpy] at h2;rw[hpp] at hN;refine sI func133 ntmps133 fun Hb Ht=>?_
  repeat first|simp[hi]|refine sR ?_
  refine sD (h1 _ _) ?_;repeat first|simp[hi]|refine sR ?_|refine sC ?_
  refine⟨by omega,?_⟩;have hcf:=fun (b:Bxs) nb' h3 h4=>containsFuncN_c (t.nodes.take i) 211 [.ptr (nb+5) 0 0] p (by simp;have:=ht.n;omega) b nb' tok nt h3 h4
  rw[show nts (t.nodes.take i)=.sl 4 (List.take i (t.nodes.map NT.cells)) by rw[nts,List.map_take]] at hcf;refine Stop.of_b (hcf _ _ (fun c hc=>by rw[List.mem_singleton.1 hc];simp[lb_at]) (fun y hy box' nb' he=>h2 y box' nb' _ (he _ _ (by simp[lb_at])))) ?_;simp;cases e2:anyB p (t.nodes.take i)
  .rw[e2,if_neg (by simp)] at hN;refine sC ?_;simp;by_cases e3:t.nodes[i].par < -1
   .rw[if_pos (.inl e3)] at hN;repeat first|simp[e3]|refine sR ?_
    refine sC ?_;repeat first|simp|refine sR ?_
    refine sT (sH Hb Ht ?_);simp[<-hN]
   .by_cases e4:(i:Int)<=t.nodes[i].par
    .rw[if_pos (.inr e4)] at hN;repeat first|simp[e3,e4]|refine sR ?_
     refine sC ?_;repeat first|simp|refine sR ?_
     refine sT (sH Hb Ht ?_);simp[<-hN]
    .rw[if_neg (by omega)] at hN;repeat first|simp[e3,e4]|refine sR ?_
     refine sC ?_;repeat first|simp|refine sR ?_
     by_cases e5:4<t.nodes[i].own.length
     .have e5':(4:Int)<t.nodes[i].own.length:=by omega
      rw[if_pos e5] at hN;refine sC ?_;simp[e5,e5'];repeat first|simp|refine sR ?_
      refine sT (sH Hb Ht ?_);simp[<-hN]
     .have e5':¬(4:Int)<t.nodes[i].own.length:=by omega
      rw[if_neg e5] at hN;obtain⟨tok1,nt1,o1,hk,hc⟩:=attrs_c t ht hM (i+1) i (Nat.lt_succ_self _) hi (fun j hj=>by
       by_cases e:j=i
       .subst e;rw[hnd];omega
       .exact hp j (by omega)) tok nt
      have hal:=atsL_len hM (i+1) i (Nat.lt_succ_self _);have haf:=atsL_fit ht (i+1) i (Nat.lt_succ_self _);have hml:=atsL_own (t:=t) (i:=i);rw[hnd] at hml;have htn:=ht.n;have hal2:(atsL t i).length<=1000000:=Nat.le_trans hal (by have:(i+1)*1000<=1000*1000:=Nat.mul_le_mul_right _ (by omega);omega)
      clear hal;generalize atsL t i=L at *;refine sC ?_;simp[e5,e5'];repeat first|simp|refine sR ?_
      refine sD (hc) ?_;simp;have hkk:=hk Ht;repeat first|simp|refine sR ?_
      by_cases e6:8<L.length
      .have e6':(8:Int)<L.length:=by omega
       rw[if_pos e6] at hN;refine sC ?_;simp[e6,e6'];repeat first|simp|refine sR ?_
       refine sT (sG Hb Ht hkk.old hkk.le ?_);simp[<-hN]
      .have e6':¬(8:Int)<L.length:=by omega
       rw[if_neg e6] at hN;have hw0:IntKind.i64.wrap ((L.length:Int)-(t.nodes[i].own.length:Nat))=((L.length-t.nodes[i].own.length:Nat):Int):=by rw[wrap_in (by omega) (by omega)];omega
       have hz:=ownAt_zero L t.nodes[i].own.length (L.length-t.nodes[i].own.length) (by omega);unfold ownE at hN;obtain⟨f,hf⟩:∃f,ownAt L t.nodes[i].own.length=f:=⟨_,rfl⟩
       have hfk:∀k,(hk:k<L.length)->L.length-t.nodes[i].own.length<=k->f k=attE L[k] (L.take k):=fun k hk hge=>by
        rw[<-hf,ownAt,if_neg (by omega),at_getD hk]
       rw[hf] at hN hz;refine sC ?_;simp[e6,e6'];repeat first|simp[hi,lb_at,hw0]|refine sR ?_
       have hal3:L.length-t.nodes[i].own.length<=L.length:=Nat.sub_le _ _
       generalize L.length-t.nodes[i].own.length=a at *;refine sN ?_;refine sL (stNo L nb box tok1 nt1) (fun k=>a<=k/\k<=L.length/\firstE f k=0) (fun k=>L.length-k) a ⟨nr _,by omega,hz⟩ (wM (by have:=hkk.le;omega) rfl (by simp[ToL,lk,To.data]) trivial) ?_;rintro k S' ⟨hak,hkl,hok⟩ hS;simp only[stNo] at hS;subst hS;have hw:=sW (i:=k) (by omega);repeat first|simp|refine sR ?_|refine sC ?_
       refine⟨fun hlt=>?_,fun hge=>?_⟩
       .have hA:=hfk k hlt hak;have hc2:=attribute_c L[k] (L.take k) (haf _ (List.getElem_mem hlt)) (by simp;omega);rw[atts_take,<-hA] at hc2;have hR:f k≠0->firstE f L.length=f k:=fun h0=>firstE_stop hok h0 L.length hlt
        have hnx:f k=0->firstE f (k+1)=0:=fun h0=>by simp only[firstE,hok,h0,↓reduceIte]
        generalize f k=E at *;repeat first|simp[hlt,atts_at hlt]|refine sR ?_
        try refine⟨by omega,?_⟩
        refine sD (hc2 _ _) ?_;repeat first|simp|refine sR ?_
        by_cases e7:E=0
        .refine sC ?_;simp[e7];repeat first|simp[hw]|refine sR ?_
         refine sE ?_;exact⟨k+1,⟨by omega,hlt,hnx e7⟩,by omega,wM (by have:=hkk.le;omega) rfl (by simp[ToL,lk]) trivial⟩
        .have b7:(E != 0)=true:=by simp[e7]
         refine sC ?_;simp[e7,b7];repeat first|simp|refine sR ?_
         refine sT (sG Hb Ht hkk.old hkk.le ?_);simp[<-hN,hR e7]
       .refine sX ?_;simp only[AU,↓reduceIte];repeat first|simp|refine sR ?_
        have:k=L.length:=by omega
        subst this;refine sT (sG Hb Ht hkk.old hkk.le ?_);simp[<-hN,hok]
  .rw[e2,if_pos rfl] at hN;refine sC ?_;repeat first|simp|refine sR ?_
   refine sT (sH Hb Ht ?_);simp[<-hN]
instance:Inhabited ET:=⟨⟨eB,0,0,0,0,0,0⟩⟩
def Ty.ed(t:Ty)(i:Nat):ET:=t.edges.getD i default
theorem ed_at{t:Ty}{i:Nat}(h:i<t.edges.length):t.ed i=t.edges[i]:=by simp[Ty.ed,h]
def anyE(l:List ET)(s:ByteArray):Bool:=anyB (fun y=>decide (y.name=s)) l
def edR(t:Ty)(x:ET):Int:=if insB t x.fr=false then 6 else if insB t x.to=false then 6 else if bndB x.ol x.oh=false then 6 else if bndB x.il x.ih=false then 6 else 0
def edgE(t:Ty)(i:Nat):Int :=
 if nameB (t.ed i).name=false then 2 else if anyE (t.edges.take i) (t.ed i).name=true then 5 else edR t (t.ed i)
set_option maxRecDepth 100000 in
theorem edge_c(t:Ty)(ht:t.Fit)(i:Nat)(hi:i<t.edges.length):DC 134 [t.av,I i] (I (edgE t i)):=by
 intro tok nt box nb;have hnd:=ed_at hi;have hmem:=List.getElem_mem hi;have hte:=ht.e;have h1:=isName_c (t.ed i).name (by rw[hnd];exact Nat.le_trans (ht.en _ hmem) (by decide));obtain⟨N,hN⟩:∃N,edgE t i=N:=⟨_,rfl⟩
 rw[hN];unfold edgE at hN;rw[hnd] at h1 hN;cases e1:nameB t.edges[i].name
 .rw[e1] at h1 hN;rw[if_pos rfl] at hN;refine sI func134 ntmps134 fun Hb Ht=>?_
  repeat first|simp[hi]|refine sR ?_
  refine sD (h1 _ _) ?_;repeat first|simp|refine sR ?_
  refine sC ?_;repeat first|simp|refine sR ?_
  refine sT (sH Hb Ht ?_);simp[<-hN]
 .rw[e1] at h1 hN;rw[if_neg (by simp)] at hN;unfold anyE at hN;obtain⟨p,hpp⟩:∃p:ET->Bool,(fun y=>decide (y.name=t.edges[i].name))=p:=⟨_,rfl⟩
  have h2:=fun y box nb k (hbk:box k=some [(t.edges[i]'hi).row])=>edge2_c (t.edges[i]'hi) y box nb k tok nt hbk
  have hpy:∀y:ET,decide (y.name=t.edges[i].name)=p y:=fun y=>by rw[<-hpp]
  simp only[hpy] at h2;rw[hpp] at hN;refine sI func134 ntmps134 fun Hb Ht=>?_
  repeat first|simp[hi]|refine sR ?_
  refine sD (h1 _ _) ?_;repeat first|simp[hi]|refine sR ?_|refine sC ?_
  try refine⟨by omega,?_⟩
  have hcf:=fun (b:Bxs) nb' h3 h4=>containsFuncE2_c (t.edges.take i) 216 [.ptr (nb+5) 0 0] p (by simp;have:=ht.e;omega) b nb' tok nt h3 h4
  rw[show ets (t.edges.take i)=.sl 7 (List.take i (t.edges.map ET.cells)) by rw[ets,List.map_take]] at hcf;refine Stop.of_b (hcf _ _ (fun c hc=>by rw[List.mem_singleton.1 hc];simp[lb_at]) (fun y hy box' nb' he=>h2 y box' nb' _ (he _ _ (by simp[lb_at])))) ?_;simp;cases e2:anyB p (t.edges.take i)
  .rw[e2,if_neg (by simp)] at hN;unfold edR at hN;have b1:=bounded_c t.edges[i].ol t.edges[i].oh;have b2:=bounded_c t.edges[i].il t.edges[i].ih;refine sC ?_;repeat first|simp|refine sR ?_
   refine Stop.of_b (edge1_c t t.edges[i].fr _ _ (nb+2) _ _ (by simp[lb_at])) ?_;simp;cases g1:insB t t.edges[i].fr
   .rw[g1,if_pos rfl] at hN;repeat first|simp|refine sR ?_
    refine sC ?_;repeat first|simp|refine sR ?_
    refine sC ?_;repeat first|simp|refine sR ?_
    refine sT (sH Hb Ht ?_);simp[<-hN]
   .rw[g1,if_neg (by simp)] at hN;repeat first|simp|refine sR ?_
    refine Stop.of_b (edge1_c t t.edges[i].to _ _ (nb+2) _ _ (by simp[lb_at])) ?_;simp;cases g2:insB t t.edges[i].to
    .rw[g2,if_pos rfl] at hN;repeat first|simp|refine sR ?_
     refine sC ?_;repeat first|simp|refine sR ?_
     refine sC ?_;repeat first|simp|refine sR ?_
     refine sT (sH Hb Ht ?_);simp[<-hN]
    .rw[g2,if_neg (by simp)] at hN;repeat first|simp|refine sR ?_
     refine sC ?_;repeat first|simp|refine sR ?_
     refine sD (b1 _ _) ?_;simp;cases g3:bndB t.edges[i].ol t.edges[i].oh
     .rw[g3,if_pos rfl] at hN;repeat first|simp|refine sR ?_
      refine sC ?_;repeat first|simp|refine sR ?_
      refine sT (sH Hb Ht ?_);simp[<-hN]
     .rw[g3,if_neg (by simp)] at hN;repeat first|simp|refine sR ?_
      refine sD (b2 _ _) ?_;simp;cases g4:bndB t.edges[i].il t.edges[i].ih
      .rw[g4,if_pos rfl] at hN;repeat first|simp|refine sR ?_
       refine sC ?_;repeat first|simp|refine sR ?_
       refine sT (sH Hb Ht ?_);simp[<-hN]
      .rw[g4,if_neg (by simp)] at hN;repeat first|simp|refine sR ?_
       refine sC ?_;repeat first|simp|refine sR ?_
       refine sT (sH Hb Ht ?_);simp[<-hN]
  .rw[e2,if_pos rfl] at hN;refine sC ?_;repeat first|simp|refine sR ?_
   refine sT (sH Hb Ht ?_);simp[<-hN]
theorem xx:True:=trivial
def firstN(f:Nat->Int)(g:Nat->ByteArray):Nat->ByteArray
 | 0=>eB
 | n+1=>if firstE f n=0 then (if f n=0 then eB else g n) else firstN f g n
theorem firstN_stop{f:Nat->Int}{g:Nat->ByteArray}{i:Nat}(h0:firstE f i=0)(h:f i≠0):∀n,i<n->firstN f g n=g i
 | 0,hi=>absurd hi (Nat.not_lt_zero _)
 | n+1,hi=>by
  simp only[firstN];by_cases e:i=n
  .subst e;rw[if_pos h0,if_neg h]
  .have:=firstE_stop h0 h n (by omega)
   rw[if_neg (by rw[this];exact h),firstN_stop h0 h n (by omega)]
theorem firstN_none{f:Nat->Int}{g:Nat->ByteArray}:∀n,firstE f n=0->firstN f g n=eB
 | 0,_=>rfl
 | n+1,h=>by
  simp only[firstE] at h;split at h
  .rename_i h1;rw[firstN,if_pos h1,if_pos h]
  .rename_i h1;exact absurd h h1
def tyE(t:Ty):Int :=
 if t.nodes.length=0 then 7 else if 12<t.nodes.length then 3 else if 20<t.edges.length then 3
 else if firstE (nodE t) t.nodes.length≠0 then firstE (nodE t) t.nodes.length else firstE (edgE t) t.edges.length
def tyN(t:Ty):ByteArray :=
 if t.nodes.length=0 then eB else if 12<t.nodes.length then eB else if 20<t.edges.length then eB
 else if firstE (nodE t) t.nodes.length≠0 then firstN (nodE t) (fun i=>(t.nd i).name) t.nodes.length else firstN (edgE t) (fun i=>(t.ed i).name) t.edges.length
theorem nodE_par{t:Ty}{i:Nat}(h:nodE t i=0):(t.nd i).par<i:=by
 unfold nodE at h;split at h
 .cases h
 .split at h
  .cases h
  .split at h
   .cases h
   .omega
theorem firstE_allZ{f:Nat->Int}:∀n,firstE f n=0->∀i,i<n->f i=0
 | 0,_,i,hi=>absurd hi (Nat.not_lt_zero _)
 | n+1,h,i,hi=>by
  simp only[firstE] at h;split at h
  .rename_i h1;by_cases e:i=n
   .subst e;exact h
   .exact firstE_allZ n h1 i (by omega)
  .rename_i h1;exact absurd h h1
def stVn(t:Ty)(nb:Nat)(box:Bxs)(tok:Tks)(nt:Nat)(i:Nat):AS:=⟨tl [(29,I i),(28,I t.nodes.length),(27,.d (nts t.nodes)),(1,.ptr (nb+1) 0 0)],lb nb box [(1,[[.d (nts t.nodes),.d (ets t.edges)]])],tok,nt⟩
def stVe(t:Ty)(nb:Nat)(box:Bxs)(tok:Tks)(nt:Nat)(i:Nat):AS:=⟨tl [(46,I i),(45,I t.edges.length),(44,.d (ets t.edges)),(1,.ptr (nb+1) 0 0)],lb nb box [(1,[[.d (nts t.nodes),.d (ets t.edges)]])],tok,nt⟩
theorem valid_c4(t:Ty)(ht:t.Fit)(hM:∀i,(t.nd i).own.length<=1000):DC 66 [t.av] (.tup [Sb (tyN t),I (tyE t)]):=by
 intro tok nt box nb;have htn:=ht.n;have hte:=ht.e;obtain⟨N,hN⟩:∃N,tyE t=N:=⟨_,rfl⟩
 obtain⟨Z,hZ⟩:∃Z,tyN t=Z:=⟨_,rfl⟩
 rw[hN,hZ];unfold tyE at hN;unfold tyN at hZ;by_cases e1:t.nodes.length=0
 .have e1':t.nodes=[]:=List.length_eq_zero_iff.1 e1
  rw[if_pos e1] at hN hZ;refine sI func66 ntmps66 fun Hb Ht=>?_
  repeat first|simp[e1']|refine sR ?_|refine sC ?_
  refine sT (sH Hb Ht ?_);simp[<-hN,<-hZ]
 .have e1':¬t.nodes=[]:=fun h=>e1 (by rw[h];rfl)
  rw[if_neg e1] at hN hZ;by_cases e2:12<t.nodes.length
  .have e2':(12:Int)<t.nodes.length:=by omega
   rw[if_pos e2] at hN hZ;refine sI func66 ntmps66 fun Hb Ht=>?_
   repeat first|simp[e1',e2,e2']|refine sR ?_
   refine sC ?_;simp[e1',e2,e2'];repeat first|simp[e2,e2']|refine sR ?_|refine sC ?_
   refine sT (sH Hb Ht ?_);simp[<-hN,<-hZ]
  .have e2':¬(12:Int)<t.nodes.length:=by omega
   rw[if_neg e2] at hN hZ;by_cases e3:20<t.edges.length
   .have e3':(20:Int)<t.edges.length:=by omega
    rw[if_pos e3] at hN hZ;refine sI func66 ntmps66 fun Hb Ht=>?_
    repeat first|simp[e1',e2,e2',e3,e3']|refine sR ?_
    refine sC ?_;simp[e1',e2,e2'];repeat first|simp[e2,e2',e3,e3']|refine sR ?_|refine sC ?_
    refine sT (sH Hb Ht ?_);simp[<-hN,<-hZ]
   .have e3':¬(20:Int)<t.edges.length:=by omega
    rw[if_neg e3] at hN hZ;refine sI func66 ntmps66 fun Hb Ht=>?_
    repeat first|simp[e1',e2,e2',e3,e3']|refine sR ?_
    refine sC ?_;simp[e1',e2,e2'];repeat first|simp[e2,e2',e3,e3']|refine sR ?_|refine sC ?_
    refine sN ?_;refine sL (stVn t nb box tok nt) (fun i=>i<=t.nodes.length/\firstE (nodE t) i=0) (fun i=>t.nodes.length-i) 0 ⟨Nat.zero_le _,rfl⟩ wkA ?_;rintro i S' ⟨hi,hok⟩ hS;simp only[stVn] at hS;subst hS;have hw:=sW (i:=i) (by omega);repeat first|simp|refine sR ?_|refine sC ?_
    refine⟨fun hlt=>?_,fun hge=>?_⟩
    .have hc:=node_c t ht hM i hlt (fun j hj=>nodE_par (firstE_allZ i hok j hj));have hR:nodE t i≠0->firstE (nodE t) t.nodes.length=nodE t i:=fun h0=>firstE_stop hok h0 _ hlt
     have hR2:nodE t i≠0->firstN (nodE t) (fun i=>(t.nd i).name) t.nodes.length=t.nodes[i].name:=fun h0=>by rw[firstN_stop hok h0 _ hlt,nd_at hlt]
     have hnx:nodE t i=0->firstE (nodE t) (i+1)=0:=fun h0=>by simp only[firstE,hok,h0,↓reduceIte]
     generalize nodE t i=E at *;repeat first|simp[hlt]|refine sR ?_
     refine sD (hc _ _) ?_;repeat first|simp|refine sR ?_
     by_cases e7:E=0
     .refine sC ?_;simp[e7];repeat first|simp[hw]|refine sR ?_
      refine sE ?_;exact⟨i+1,⟨hlt,hnx e7⟩,by omega,wkA⟩
     .have b7:(E != 0)=true:=by simp[e7]
      rw[hR e7,if_pos e7] at hN hZ;rw[hR2 e7] at hZ;refine sC ?_;simp[e7,b7];repeat first|simp[hlt]|refine sR ?_
      refine sT (sH Hb Ht ?_);simp[<-hN,<-hZ]
    .refine sX ?_;simp only[AU,↓reduceIte];have:i=t.nodes.length:=by omega
     subst this;rw[if_neg (by rw[hok];simp)] at hN hZ;repeat first|simp|refine sR ?_
     refine sN ?_;refine sL (stVe t nb box tok nt) (fun i=>i<=t.edges.length/\firstE (edgE t) i=0) (fun i=>t.edges.length-i) 0 ⟨Nat.zero_le _,rfl⟩ wkA ?_;rintro i S' ⟨hi,hok2⟩ hS;simp only[stVe] at hS;subst hS;have hw:=sW (i:=i) (by omega);repeat first|simp|refine sR ?_|refine sC ?_
     refine⟨fun hlt=>?_,fun hge=>?_⟩
     .have hc:=edge_c t ht i hlt;have hR:edgE t i≠0->firstE (edgE t) t.edges.length=edgE t i:=fun h0=>firstE_stop hok2 h0 _ hlt
      have hR2:edgE t i≠0->firstN (edgE t) (fun i=>(t.ed i).name) t.edges.length=t.edges[i].name:=fun h0=>by rw[firstN_stop hok2 h0 _ hlt,ed_at hlt]
      have hnx:edgE t i=0->firstE (edgE t) (i+1)=0:=fun h0=>by simp only[firstE,hok2,h0,↓reduceIte]
      generalize edgE t i=E at *;repeat first|simp[hlt]|refine sR ?_
      refine sD (hc _ _) ?_;repeat first|simp|refine sR ?_
      by_cases e7:E=0
      .refine sC ?_;simp[e7];repeat first|simp[hw]|refine sR ?_
       refine sE ?_;exact⟨i+1,⟨hlt,hnx e7⟩,by omega,wkA⟩
      .have b7:(E != 0)=true:=by simp[e7]
       rw[hR e7] at hN;rw[hR2 e7] at hZ;refine sC ?_;simp[e7,b7];repeat first|simp[hlt]|refine sR ?_
       refine sT (sH Hb Ht ?_);simp[<-hN,<-hZ]
     .refine sX ?_;simp only[AU,↓reduceIte];have:i=t.edges.length:=by omega
      subst this;rw[hok2] at hN;rw[firstN_none _ hok2] at hZ;repeat first|simp|refine sR ?_
      refine sT (sH Hb Ht ?_);simp[<-hN,<-hZ]
def rowsB(bs:List Bool):List (List AV):=bs.map fun b=>[AV.d (.raw (.bool b))]
theorem rowsB_eq(bs:List Bool):rowsB bs=rowsD (bs.map fun b=>[D.raw (.bool b)]):=by simp[rowsB,rowsD]
@[simp] theorem set_rB(bs:List Bool)(i:Nat)(v:Bool):(rowsB bs).set i [AV.d (.raw (.bool v))]=rowsB (bs.set i v):=by simp[rowsB,List.map_set]
@[simp] theorem rowsB_length(bs:List Bool):(rowsB bs).length=bs.length:=by simp[rowsB]
@[simp high] theorem rowsB_get{bs:List Bool}{i:Nat}(h:i<bs.length):(rowsB bs)[i]?=some [AV.d (.raw (.bool bs[i]))]:=by simp[rowsB,h]
@[simp] theorem rowsTo_B{p q:Nat->Prop}{fz:Option (Nat × Nat × List (List D))}(bs:List Bool):RowsTo p q fz (rowsB bs) (rowsB bs):=by rw[rowsB_eq];simp
def pickN(ns:List Int)(js:List Int)(i:Nat):List Int:=(js.take i).map fun j=>ns.getD j.toNat 0
@[simp] theorem pickN_len(l h:List Int)(i:Nat):(pickN l h i).length=min i h.length:=by simp[pickN]
def pickE(es:List E)(ns js:List Int)(i:Nat):List E:=(js.take i).map fun j=>⟨(es.getD j.toNat default).ty,indexI ns (es.getD j.toNat default).fr,indexI ns (es.getD j.toNat default).to⟩
@[simp] theorem pickE_len(l:List E)(ns h:List Int)(i:Nat):(pickE l ns h i).length=min i h.length:=by simp[pickE]
def rkK(ns:List Int)(bit:Nat->Bool):Nat->List Int
 | 0=>[]
 | i+1=>if bit i=true then rkK ns bit i++[((chN ns bit i).1.length:Int)] else rkK ns bit i++[0]
def rkR(ns:List Int)(bit:Nat->Bool)(n i:Nat):List Int:=rkK ns bit i++List.replicate (n-i) 0
theorem rkK_len(ns:List Int)(bit:Nat->Bool):∀i,(rkK ns bit i).length=i
 | 0=>rfl
 | i+1=>by
  simp only[rkK];split<;>simp[rkK_len ns bit i]
@[simp] theorem rkR_len(ns:List Int)(bit:Nat->Bool){n i:Nat}(h:i<=n):(rkR ns bit n i).length=n:=by simp[rkR,rkK_len];omega
def mrgK(l:List Int)(lo hi:Int)(i:Nat):List Int:=(l.take i).map fun k=>if k=hi then lo else k
@[simp] theorem mrgK_len(l:List Int)(lo hi:Int)(i:Nat):(mrgK l lo hi i).length=min i l.length:=by simp[mrgK]
def preK(l:List Int)(i:Nat):List Int:=l.take i
@[simp] theorem preK_len(l:List Int)(i:Nat):(preK l i).length=min i l.length:=by simp[preK]
end Go.AM
namespace Go.Proofs
open Go.Shelf
open Go.Proofs.Tryz
end Go.Proofs
namespace Go.AM
open Go Go.Proofs Go.RowKit Go.Lib
open Go.Proofs.Tryz
end Go.AM
namespace Go.Proofs.YtainalmfffjnjaaGreatDoorX.back
open Go Go.Proofs Go.RowKit Go.AM
open Go.Proofs.Tryz
theorem info3:(prog.info? 3).map (fun i=>(i.zero,i.size,i.bytes))=some (some (.int .i64 0),1,8):=by kernel_rfl
end Go.Proofs.YtainalmfffjnjaaGreatDoorX.back
namespace Go.Proofs.YtainalmfffjnjaaGreatDoorX.back
open Go Go.Proofs Go.RowKit Go.AM
open Go.Proofs.Tryz
end Go.Proofs.YtainalmfffjnjaaGreatDoorX.back
namespace Go.AM
open Go Go.Proofs Go.RowKit
open Go.Proofs.Tryz
def upP(ps:List Int)(i:Nat):List Int:=if _h:0<=ps.getD i 0/\(ps.getD i 0).toNat<i then (i:Int)::upP ps (ps.getD i 0).toNat else [(i:Int)]
termination_by i
decreasing_by exact _h.2
def upI(ps:List Int)(a:Int):List Int:=if a<0 then [] else upP ps a.toNat
theorem upI_neg{ps:List Int}{a:Int}(h:a<0):upI ps a=[]:=if_pos h
theorem upI_up{ps:List Int}{a:Int}(h:0<=a)(hp:ps.getD a.toNat 0<a):upI ps a=a::upI ps (ps.getD a.toNat 0):=by
 rw[upI,if_neg (by omega),upP];by_cases h0:0<=ps.getD a.toNat 0
 .rw[dif_pos ⟨h0,by omega⟩,upI,if_neg (by omega),Int.toNat_of_nonneg h]
 .rw[dif_neg (fun h2=>h0 h2.1),upI,if_pos (by omega),Int.toNat_of_nonneg h]
theorem upP_len(ps:List Int):∀n i,i<n->(upP ps i).length<=i+1
 | 0,i,h=>absurd h (Nat.not_lt_zero _)
 | n+1,i,h=>by
  rw[upP];split
  .rename_i h1;have:=upP_len ps n _ (show (ps.getD i 0).toNat<n by omega)
   simp only[List.length_cons];omega
  .simp
theorem upI_len(ps:List Int)(a:Int):(upI ps a).length<=(a+1).toNat:=by
 unfold upI;split
 .simp
 .have:=upP_len ps _ _ (Nat.lt_succ_self a.toNat)
  omega
end Go.AM
namespace Go.Proofs.YtainalmfffjnjaaGreatDoorX.line
open Go Go.Proofs Go.RowKit Go.AM Go.Sort
open Go.Proofs.Tryz
theorem own_le{w:World}{base base':Nat}{e:TypeId}{size:Nat}{v:Value}{n:Nat}{xs:List Value}(h:w.ownsRow base e size v n xs)(hb:base'<=base):w.ownsRow base' e size v n xs :=
 ⟨h.1,h.2.imp id fun ⟨g,cap,cur,a,b,c⟩=>⟨g,cap,cur,a,Nat.le_trans hb b,c⟩⟩
theorem rev{base n:Nat}{v:Value}{l:List Int}{w0 w:World}(hown:w.ownsRow base 3 1 v n (l.map (Value.int .i64)))(hb:Below base w0 w)(hl:l.length<=1000000):
  Calls prog 277 #[v] w fun e w'=>e=.returned (.tuple #[])/\w'.ownsRow base 3 1 v n (l.reverse.map (Value.int .i64))/\Below base w0 w':=by
 rcases hown.2 with ⟨rfl,e0⟩|⟨g,cap,cur,rfl,hg1,hg2,hg3,hg4,hg5,hg6⟩
 .refine(Tryz.slices_Reverse_int_empty _ _ _).mono ?_;rintro e w3 ⟨rfl,rfl⟩;subst e0;have:l=[]:=List.length_eq_zero_iff.1 (by simpa using hown.1)
  subst this;exact⟨rfl,hown,hb⟩
 .obtain⟨g',cap',hv,hgb,hgl,hncap,hcm,hlen,hH⟩:=Lib.holds_of_ownsRow hown (by simp);cases hv;have hrev:=Tryz.slices_Reverse_int g 0 cap l _ hH (by omega);rw[hlen] at hrev;refine hrev.mono ?_;rintro e w3 ⟨rfl,q,rfl⟩;have hh:=Lib.ownsRow_putRow (q:=q) (ys:=l.reverse) hown (by simpa using hlen) (nr _);rw[List.take_of_length_le (by simp[hlen])] at hh;exact⟨rfl,hh,Lib.below_putRow hb hg1⟩
set_option maxHeartbeats 2000000 in
set_option maxRecDepth 100000 in
theorem any(b off n c:Nat)(u:Value)(a0:Int)(ps:List Int)(w:World)(hz:ps.length=n)(hn:n<=1000000)(ha:a0<n)(hp:∀j,j<n->ps.getD j 0<j)(hb:b<w.heap.size)(hc:∀j,j<n->w.cell? ⟨b,off+j*4+1,none⟩=some (.int .i64 (ps.getD j 0))):
  Calls prog 236 #[.agg #[.slice (some ⟨b,off,none⟩) n c,u],.int .i64 a0] w fun e w'=>∃v,e=.returned v/\w'.ownsRow w.heap.size 3 1 v (upI ps a0).length ((upI ps a0).reverse.map (Value.int .i64))/\Below w.heap.size w w':=by
 obtain⟨i0,hi,hz0,hz1,hz2'⟩:=info_parts YtainalmfffjnjaaGreatDoorX.back.info3
 go_enter func236,ntmps236
 go_wp2
 have hsz:(w.alloc (Obj.cells #[Value.slice (some { block:=b,off:=off }) n c,u] 25)).heap.size=w.heap.size+1:=by unfold World.alloc;exact Array.size_push _
 have hz2:(w.alloc (Obj.cells #[Value.slice (some { block:=b,off:=off }) n c,u] 25)).cell? ⟨w.heap.size,0,none⟩=some (Value.slice (some { block:=b,off:=off }) n c):=by rw[World.cell?_alloc_at _ _ _ _ rfl];rfl
 have hcc:∀j,j<n->(w.alloc (Obj.cells #[Value.slice (some { block:=b,off:=off }) n c,u] 25)).cell? ⟨b,off+j*4+1,none⟩=some (.int .i64 (ps.getD j 0)):=fun j hj=>((Below.refl _ w).alloc (nr _) _ |>.cell (by exact hb)).trans (hc j hj)
 have hbel:Below w.heap.size w (w.alloc (Obj.cells #[Value.slice (some { block:=b,off:=off }) n c,u] 25)):=(Below.refl _ w).alloc (nr _) _
 generalize w.alloc (Obj.cells #[Value.slice (some { block:=b,off:=off }) n c,u] 25)=w1 at *
 go_loopw [1,5] (fun x v wr=>∃(a:Int) (l:List Int),x=.int .i64 a/\a<n/\l++upI ps a=upI ps a0/\wr.ownsRow w1.heap.size 3 1 v l.length (l.map (Value.int .i64))/\Below w1.heap.size w1 wr) (fun x _ _=>(intOf x+1).toNat)
 case atStart=>exact⟨a0,[],rfl,ha,rfl,World.ownsRow_nil _ _ _ _,Below.refl _ _⟩
 case round =>
  obtain⟨a,l,rfl,hal,hl,hown,hnx⟩:=hrel;have hll:l.length<=n:=by
   have h1:=congrArg List.length hl;have h2:=upI_len ps a0;rw[List.length_append] at h1;omega
  have hr2:=(hnx.cell (p:=⟨w.heap.size,0,none⟩) (by simp;omega)).trans hz2
  go_wp2_with (first
   | (at_builtin;refine wpList_append_own _ rfl _ _ 26 rfl w1.heap.size 3 i0 (.int .i64 0) 1 8 underlying26 hi hz0 hz1 hz2' rfl (by decide) _ _ _ rfl (hown.alloc _) ⟨wr.heap.size,0,none⟩ 1 1 [.int .i64 a] rfl rfl ?c1 ?c2 ?c3 ?c4 ?c5 ?_)
   | (go_at_call 277;refine(rev hown hnx (by omega)).mono ?_;rintro e w3 ⟨rfl,hown3,hnx3⟩)
   | go_in)
  case c1 =>
   intro j u hj
   match j,hj with
   | 0,hj=>simp at hj;subst hj;simp[Addr.add]
  case c2=>intro u hu;simp at hu;subst hu;rfl
  case c3=>unfold maxLen;omega
  case c4=>omega
  case c5=>have:=hnx.size;simp;omega
  .intro v' w2 hown' hgrow hne;have h0:0<=a:=by assumption
   obtain⟨k,rfl⟩:=Int.eq_ofNat_of_zero_le h0;have hnx1:Below w1.heap.size w1 w2:=(hnx.alloc (by have:=hnx.size;omega) _).grown hgrow (by have:=hnx.size;simp;omega) (fun q hq=>(hown.lt q hq).1)
   have hr3:=(hnx1.cell (p:=⟨w.heap.size,0,none⟩) (by simp;omega)).trans hz2;have hr4:=(hnx1.cell (p:=⟨b,off+k*4+1,none⟩) (by simp;omega)).trans (hcc k (by omega));have hup:=upI_up (ps:=ps) h0 (by have:=hp k (by omega);simpa using this);rw[hup,Int.toNat_natCast] at hl;clear hgrow hown hnx hne
   go_wp2
   refine⟨⟨ps.getD k 0,l++[(k:Int)],rfl,by have:=hp k (by omega);omega,by rw[List.append_assoc];exact hl,by simpa[hsz] using hown',hnx1⟩,?_⟩;have:=hp k (by omega)
   simp at this;simp[intOf];omega
  .go_ret
   have h0:a<0:=by assumption
   rw[upI_neg h0,List.append_nil] at hl;rw[<-hl];exact⟨_,rfl,own_le hown3 (by omega),hbel.trans (hnx3.mono (by omega))⟩
end Go.Proofs.YtainalmfffjnjaaGreatDoorX.line
namespace Go.AM
open Go Go.Proofs Go.RowKit
open Go.Proofs.Tryz
abbrev Ty.pars(t:Ty):List Int:=t.nodes.map NT.par
theorem pars_getD(t:Ty){j:Nat}(h:j<t.nodes.length):t.pars.getD j 0=(t.nd j).par:=by simp[Ty.pars,Ty.nd,h]
theorem rvd_pars{c:Addr->Option Value}{ps:Addr->Prop}{l:List NT}{v:Value}(h:RVd c ps (nts l) v):
  ∃A cap,v=.slice A l.length cap/\l.length<=cap/\cap<=maxLen/\(l≠[]->∃a,A=some a)/\∀a,A=some a->∀i (hi:i<l.length),c (a.add (i*4))=some (.string l[i].name)/\c (a.add (i*4+1))=some (.int .i64 l[i].par):=by
 unfold nts at h;generalize hes:l.map NT.cells=es at h;cases h with
 | @sl _ _ A cap u hcap hmax hsz hA hc hr =>
  have hl:es.length=l.length:=by rw[<-hes];simp
  refine⟨A,cap,by rw[hl],by omega,hmax,fun hne=>hA (by intro e;rw[e] at hl;exact hne (List.length_eq_zero_iff.1 hl.symm)),fun a ha i hi=>⟨?_,?_⟩⟩
  .have g:=(hc a ha i 0 (by omega) (by decide)).2;have r:=hr i 0 (by omega) (by rw[hsz _ (List.getElem_mem _)];decide);have e1:es[i][0]'(by rw[hsz _ (List.getElem_mem _)];decide)=D.raw (.string l[i].name):=by
    subst hes;simp
   rw[e1] at r;have e2:u i 0=.string l[i].name:=by
    generalize hu:u i 0=x at r;cases r;rfl
   rw[<-e2];exact g
  .have g:=(hc a ha i 1 (by omega) (by decide)).2;have r:=hr i 1 (by omega) (by rw[hsz _ (List.getElem_mem _)];decide);have e1:es[i][1]'(by rw[hsz _ (List.getElem_mem _)];decide)=D.raw (.int .i64 l[i].par):=by
    subst hes;simp
   rw[e1] at r;have e2:u i 1=.int .i64 l[i].par:=by
    generalize hu:u i 1=x at r;cases r;rfl
   rw[<-e2];exact g
theorem line_c(t:Ty)(ht:t.nodes.length<=1000000)(a:Int)(h0:0<=a)(ha:a<t.nodes.length)(hp:∀j,j<t.nodes.length->(t.nd j).par<j):DC 236 [t.av,I a] (.d (ints (upI t.pars a).reverse)):=by
 intro tok nt box nb;refine⟨Enters.mk func236 rfl (by kernel_rfl),fun G w vals hm hr=>?_⟩;obtain⟨hlen,hrv⟩:=hr
 match vals,hlen with
 | [v,x],_ =>
  have h0:=hrv 0 (by simp) (by simp);have h1:=hrv 1 (by simp) (by simp);simp only[List.getElem_cons_zero,List.getElem_cons_succ] at h0 h1;cases h1 with
  | d h1 =>
  cases h1 with
  | raw h1 =>
  cases h0 with
  | @agg _ vs hl h2 h3 =>
   match vs,hl with
   | [v1,v2],_ =>
    have h4:=h2 0 (by simp) (by simp);simp only[List.getElem_cons_zero] at h4;cases h4 with
    | d h4 =>
     obtain⟨A,cap,rfl,hcap,hmax,hA,hc⟩:=rvd_pars h4;have e:t.nodes≠[]:=by intro e;rw[e] at ha;simp at ha;omega
     obtain⟨a1,rfl⟩:=hA e;have hp0:0<t.nodes.length:=List.length_pos_iff.2 e
     have hc':=hc a1 rfl
     have hs:a1.spot=none:=by
      cases hsp:a1.spot with
      | none=>rfl
      | some q =>
       exfalso
       have:=(hc' 0 hp0).1
       simp only[World.cell?,Addr.add,hsp,Option.isSome_some,↓reduceIte] at this;split at this<;>simp at this
     obtain⟨b,off,sp⟩:=a1;simp only at hs;subst hs;have hcc:∀j,j<t.nodes.length->w.cell? ⟨b,off+j*4+1,none⟩=some (.int .i64 (t.pars.getD j 0)):=fun j hj=>by
      have h1:=(hc' j hj).2;rw[pars_getD t hj,nd_at hj];unfold Addr.add at h1;split at h1
      .rename_i e;omega
      .rw[show off+j*4+1=off+(j*4+1) by omega];exact h1
     have hbw:b<w.heap.size:=lt_of_cell (hcc 0 hp0)
     refine(YtainalmfffjnjaaGreatDoorX.line.any b off t.nodes.length cap v2 a t.pars w (by simp) ht (by omega) (fun j hj=>by rw[pars_getD t hj];exact hp j hj) hbw hcc).mono ?_;rintro e w' ⟨v,rfl,hown,hb⟩;refine⟨v,_,_,G,rfl,⟨rfl,rfl⟩,rfl,relM_below hm hb,.d (rvd_owns hm (by rw[List.length_reverse];exact hown)),le_below hm hb,fun k hk=>⟨hk,rfl⟩⟩
theorem Ty.Fit.hM{t:Ty}(h:t.Fit)(i:Nat):(t.nd i).own.length<=1000:=by
 by_cases hi:i<t.nodes.length
 .rw[nd_at hi];exact(h.a _ (List.getElem_mem hi)).1
 .simp[Ty.nd,List.getElem?_eq_none (Nat.le_of_not_lt hi)];exact Nat.zero_le _
theorem given1_c(t:Ty)(n:Int)(box:Bxs)(nb k:Nat)(tok:Tks)(nt:Nat)(h1:box k=some [[.d (nts t.nodes),.d (ets t.edges)]]):
  ACalls prog 235 [I n,.ptr k 0 0] ⟨box,nb,tok,nt⟩ fun v m=>v=B (!insB t n)/\m=⟨box,nb,tok,nt⟩:=by
 by_cases h0:n<0
 .rw[show insB t n=false by simp only[insB,decide_eq_false_iff_not];omega];refine sI func235 ntmps235 fun Hb Ht=>?_
  have k1n:=key_lt Hb h1;repeat first|simp[lO k1n,h1,h0]|refine sR ?_
  refine sT (sH Hb Ht ?_);simp
 .by_cases h2:(t.nodes.length:Int)<=n
  .rw[show insB t n=false by simp only[insB,decide_eq_false_iff_not];omega];refine sI func235 ntmps235 fun Hb Ht=>?_
   have k1n:=key_lt Hb h1;repeat first|simp[lO k1n,h1,h0,h2]|refine sR ?_
   refine sT (sH Hb Ht ?_);simp
  .rw[show insB t n=true by simp only[insB,decide_eq_true_eq];omega];refine sI func235 ntmps235 fun Hb Ht=>?_
   have k1n:=key_lt Hb h1;repeat first|simp[lO k1n,h1,h0,h2]|refine sR ?_
   refine sT (sH Hb Ht ?_);simp
def givE(t:Ty)(l:List Int):Int:=if tyE t=0 then (if anyB (fun a=>!insB t a) l=true then 6 else 0) else tyE t
theorem given_c(t:Ty)(ht:t.Fit)(l:List Int)(hl:l.length<=1000000):DC 171 [t.av,.d (ints l)] (I (givE t l)):=by
 intro tok nt box nb;have h1:=valid_c4 t ht ht.hM;obtain⟨N,hN⟩:∃N,givE t l=N:=⟨_,rfl⟩
 rw[hN];unfold givE at hN;generalize tyE t=E at *;generalize tyN t=Z at *;refine sI func171 ntmps171 fun Hb Ht=>?_
 repeat first|simp|refine sR ?_
 refine sD (h1 _ _) ?_;repeat first|simp|refine sR ?_
 by_cases e1:E=0
 .rw[if_pos e1] at hN;obtain⟨p,hpp⟩:∃p:Int->Bool,(fun a=>!insB t a)=p:=⟨_,rfl⟩
  have h2:=fun y box nb k hbk=>given1_c t y box nb k tok nt hbk
  have hpy:∀y:Int,(!insB t y)=p y:=fun y=>by rw[<-hpp]
  simp only[hpy] at h2;rw[hpp] at hN;refine sC ?_;simp[e1];repeat first|simp|refine sR ?_
  refine Stop.of_b (containsFunc_c l 235 [.ptr (nb+2) 0 0] p hl _ _ _ _ (fun c hc=>by rw[List.mem_singleton.1 hc];simp[lb_at]) (fun y hy box' nb' he=>h2 y box' nb' _ (he _ _ (by simp[lb_at])))) ?_;simp;cases e2:anyB p l
  .rw[e2,if_neg (by simp)] at hN;repeat first|simp|refine sR ?_
   refine sC ?_;repeat first|simp|refine sR ?_
   refine sT (sH Hb Ht ?_);simp[<-hN]
  .rw[e2,if_pos rfl] at hN;repeat first|simp|refine sR ?_
   refine sC ?_;repeat first|simp|refine sR ?_
   refine sT (sH Hb Ht ?_);simp[<-hN]
 .rw[if_neg e1] at hN;have b1:(E != 0)=true:=by simp[e1]
  refine sC ?_;simp[b1];repeat first|simp|refine sR ?_
  refine sT (sH Hb Ht ?_);simp[<-hN]
def isB(t:Ty)(a b:Int):Bool:=decide (b∈upI t.pars a)
theorem is_c(t:Ty)(ht:t.Fit)(a b:Int)(h0:0<=a)(ha:a<t.nodes.length)(hp:∀j,j<t.nodes.length->(t.nd j).par<j):DC 172 [t.av,I a,I b] (B (isB t a b)):=by
 intro tok nt box nb;have hc:=line_c t (by have:=ht.n;omega) a h0 ha hp;have hlen:=upI_len t.pars a;have htn:=ht.n;obtain⟨N,hN⟩:∃N,isB t a b=N:=⟨_,rfl⟩
 rw[hN];unfold isB at hN;have hN2:decide (b∈(upI t.pars a).reverse)=N:=by rw[<-hN];simp
 have hl2:(upI t.pars a).reverse.length<=1000000:=by rw[List.length_reverse];omega
 generalize (upI t.pars a).reverse=L at *;have hk:=contains_c L b hl2;rw[hN2] at hk;refine sI func172 ntmps172 fun Hb Ht=>?_
 repeat first|simp|refine sR ?_
 refine sD (hc _ _) ?_;repeat first|simp|refine sR ?_
 refine sD (hk _ _) ?_;repeat first|simp|refine sR ?_
 refine sT (sH Hb Ht ?_);simp
theorem tyE_par{t:Ty}(h:tyE t=0):∀j,j<t.nodes.length->(t.nd j).par<j:=by
 unfold tyE at h;split at h
 .cases h
 .split at h
  .cases h
  .split at h
   .cases h
   .split at h
    .rename_i h1;exact absurd h h1
    .rename_i h1;exact fun j hj=>nodE_par (firstE_allZ _ (Decidable.not_not.1 h1) j hj)
def fitB(t:Ty)(e a b:Int):Bool :=
 if givE t [a,b]=0 then (if 0<=e then (if e<t.edges.length then (if isB t a (t.ed e.toNat).fr=true then isB t b (t.ed e.toNat).to else false) else false) else false) else false
theorem givE_in{t:Ty}{l:List Int}(h:givE t l=0):tyE t=0/\∀a∈l,0<=a/\a<t.nodes.length:=by
 unfold givE at h;split at h
 .rename_i h1;split at h
  .cases h
  .rename_i h2;refine⟨h1,fun a ha=>?_⟩;simp only[anyB,List.any_eq_true,not_exists,not_and] at h2;have:=h2 a ha
   simpa[insB] using this
 .rename_i h1;exact absurd h h1
theorem fits_c4(t:Ty)(ht:t.Fit)(e a b:Int):DC 137 [t.av,I e,I a,I b] (B (fitB t e a b)):=by
 intro tok nt box nb;have h1:=given_c t ht [a,b] (by simp);have hin:=@givE_in t [a,b];obtain⟨N,hN⟩:∃N,fitB t e a b=N:=⟨_,rfl⟩
 rw[hN];unfold fitB at hN;generalize givE t [a,b]=E at *;refine sI func137 ntmps137 fun Hb Ht=>?_
 repeat first|simp|refine sR ?_
 refine⟨rfl,?_⟩;refine Stop.data ?_;refine sD (h1 _ _) ?_;simp;by_cases e1:E=0
 .obtain⟨htE,hin⟩:=hin e1;have ha:=hin a (by simp);have hb:=hin b (by simp);rw[if_pos e1] at hN;by_cases e2:0<=e
  .have e2':¬e<0:=by omega
   rw[if_pos e2] at hN;by_cases e3:e<t.edges.length
   .have e3':¬(t.edges.length:Int)<=e:=by omega
    rw[if_pos e3] at hN;obtain⟨k,rfl⟩:=Int.eq_ofNat_of_zero_le e2;have hk:k<t.edges.length:=by omega
    rw[Int.toNat_natCast,ed_at hk] at hN;have c1:=is_c t ht a t.edges[k].fr ha.1 ha.2 (tyE_par htE);have c2:=is_c t ht b t.edges[k].to hb.1 hb.2 (tyE_par htE);repeat first|simp[e1,e2',e3',hk]|refine sR ?_
    refine sC ?_;simp[e1,e2',e3',hk];repeat first|simp[hk]|refine sR ?_
    refine sD (c1 _ _) ?_;simp;cases f1:isB t a t.edges[k].fr
    .rw[f1,if_neg (by simp)] at hN;repeat first|simp|refine sR ?_
     refine sT (sH Hb Ht ?_);simp[<-hN]
    .rw[f1,if_pos rfl] at hN;repeat first|simp[hk]|refine sR ?_
     refine sD (c2 _ _) ?_;repeat first|simp|refine sR ?_
     refine sT (sH Hb Ht ?_);simp[<-hN]
   .have e3':(t.edges.length:Int)<=e:=by omega
    rw[if_neg e3] at hN;repeat first|simp[e1,e2',e3']|refine sR ?_|refine sC ?_
    refine sT (sH Hb Ht ?_);simp[<-hN]
  .have e2':e<0:=by omega
   rw[if_neg e2] at hN;repeat first|simp[e1,e2']|refine sR ?_|refine sC ?_
   refine sT (sH Hb Ht ?_);simp[<-hN]
 .rw[if_neg e1] at hN;have b1:(E != 0)=true:=by simp[e1]
  repeat first|simp[b1]|refine sR ?_|refine sC ?_
  refine sT (sH Hb Ht ?_);simp[<-hN]
def leafB(t:Ty)(k:Int):Bool:=!anyB (fun n=>n.par==k) t.nodes
def allP{α:Type}(p:α->Bool)(l:List α):Bool:=l.all p
theorem all_no{α:Type}{p:α->Bool}{l:List α}{i:Nat}(h:i<l.length)(hp:p l[i]=false):allP p l=false:=by
 unfold allP;rw[<-Bool.not_eq_true,List.all_eq_true];intro h2;have:=h2 _ (List.getElem_mem h)
 rw[hp] at this;cases this
theorem all_more{α:Type}{p:α->Bool}{l:List α}{i:Nat}(h:i<l.length)(h1:allP p (l.take i)=true)(hp:p l[i]=true):allP p (l.take (i+1))=true:=by
 unfold allP at *;rw[List.take_succ_eq_append_getElem h,List.all_append,h1];simp[hp]
def lvN(t:Ty)(n:Int):Bool:=if (t.nodes.length:Int)<=n then false else leafB t n
def lvE(t:Ty)(g:Gr)(e:E):Bool:=fitB t e.ty (g.nodes.getD e.fr.toNat 0) (g.nodes.getD e.to.toNat 0)
def lvsB(t:Ty)(g:Gr):Bool:=if allP (lvN t) g.nodes=true then allP (lvE t g) g.edges else false
variable {P:Program}
theorem upon_exits{o:Oper}{a:Act}{next:Act->World->Prop}{Q Q':Exit->Act->World->Prop}(h:∀e a w,e≠.normal->Q e a w->Q' e a w)(r:Result Next)(hh:o.upon P a next Q r):o.upon P a next Q' r:=by
 have hl:LetsOut Q->LetsOut Q':=fun ⟨a,w,h1⟩=>⟨a,w,h _ _ _ (by simp) h1⟩
 cases r with
 | ok n w' =>
  cases n<;>simp only[Oper.upon] at hh ⊢ <;>
   first
    | exact hh
    | exact Calls.mono hh (fun e w'' he=>by
      cases e
      .exact he
      .exact h _ _ _ (by simp) he
      .exact hl he)
 | halt x w'=>cases x<;>simp only[Oper.upon] at hh ⊢<;>first|exact h _ _ _ (by simp) hh|exact hh
theorem wpOp_exits{ops:Array Oper}{i:Nat}{K:Act->World->Prop}{Q Q':Exit->Act->World->Prop}{a:Act}{w:World}(h:∀e a w,e≠.normal->Q e a w->Q' e a w)(hh:wpOp P ops Q i K a w):wpOp P ops Q' i K a w:=by
 have hl:LetsOut Q->LetsOut Q':=fun ⟨a,w,h1⟩=>⟨a,w,h _ _ _ (by simp) h1⟩
 unfold wpOp at *;split
 .rename_i ho;simpa only[ho] using hh
 .rename_i o ho;simp only[ho] at hh;split
  .rename_i hw;rw[if_pos hw] at hh;exact hh.imp (upon_exits h _) fun ⟨h1,h2⟩=>⟨h1,hl h2⟩
  .rename_i hw;rw[if_neg hw] at hh;exact hh
def tiedAll(L:Array Oper)(m:Nat):Bool:=(List.range m).all fun j=>(List.range (m+1)).any fun i=>decide (j<i)&&(match L[i]? with|some x=>(direct x).contains j|none=>false)
def downOk(L:Array Oper):Bool:=(List.range L.size).all fun i=>match L[i]? with|some o=>(direct o).all fun j=>decide (j<i)|none=>true
theorem tiedAll_spec{L:Array Oper}{m:Nat}(h:tiedAll L m=true){j:Nat}(hj:j<m):∃i x,j<i/\i<=m/\L[i]?=some x/\j∈direct x:=by
 unfold tiedAll at h;have h1:=List.all_eq_true.1 h j (by simpa using hj);obtain⟨i,hi,h2⟩:=List.any_eq_true.1 h1;simp only[Bool.and_eq_true,decide_eq_true_eq] at h2;obtain⟨h2,h3⟩:=h2;split at h3
 .rename_i x hx;exact⟨i,x,h2,by simp at hi;omega,hx,by simpa using h3⟩
 .cases h3
theorem downOk_spec{L:Array Oper}(h:downOk L=true){i:Nat}{o:Oper}(ho:L[i]?=some o):∀j∈direct o,j<i:=by
 unfold downOk at h;have hi:=(Array.getElem?_eq_some_iff.1 ho).1;have h1:=List.all_eq_true.1 h i (by simpa using hi);rw[ho] at h1;intro j hj;simpa using List.all_eq_true.1 h1 j hj
theorem ready_mem{L:Array Oper}{listed:Array Bool}{i:Nat}:i∈Region.ready .any L listed↔i<L.size/\listed.getD i true=false/\∃o,L[i]?=some o/\∀j∈direct o,listed.getD j false=true:=by
 unfold Region.ready;rw[List.mem_filter];simp only[List.mem_range,Bool.and_eq_true,Bool.not_eq_true'];constructor
 .rintro⟨h1,h2,h3⟩;refine⟨h1,h2,L[i],by simp[h1],?_⟩;simp only[h1,Array.getElem?_eq_getElem,Option.map_some,Option.getD_some,Array.all_eq_true'] at h3;intro j hj;unfold direct at hj;obtain⟨e,he,rfl⟩:=List.mem_map.1 hj;obtain⟨he1,he2⟩:=List.mem_filter.1 he;have:=h3 e (by simpa using he1)
  simpa[he2] using this
 .rintro⟨h1,h2,o,h3,h4⟩;refine⟨h1,h2,?_⟩;rw[h3];simp only[Option.map_some,Option.getD_some,Array.all_eq_true'];intro e he;by_cases hb:Region.binds .any e=true
  .have:=h4 e.on (by unfold direct;exact List.mem_map.2 ⟨e,List.mem_filter.2 ⟨by simpa using he,hb⟩,rfl⟩)
   simp[this]
  .simp[hb]
theorem getD_some{l:Array Bool}{i:Nat}{d v:Bool}(h:l[i]?=some v):l.getD i d=v:=by simp[Array.getD_eq_getD_getElem?,h]
def guardOk(ops:Array Oper):Bool:=ops.all fun o=>match o.guard with|some (j,_)=>decide (j<ops.size)|none=>true
theorem of_getD{l:Array Bool}{i:Nat}(h:l.getD i false=true):l[i]?=some true:=by
 rw[Array.getD_eq_getD_getElem?] at h;cases e:l[i]? with
 | none=>rw[e] at h;cases h
 | some v=>rw[e] at h;simp at h;rw[h]
theorem wpAny_split{ops:Array Oper}{o:Oper}{Q Qm:Exit->Act->World->Prop}(hdown:downOk (ops.push o)=true)(htied:tiedAll (ops.push o) ops.size=true)(hgo:guardOk ops=true)(hg:o.guard=none)(hq:∀e a w,e≠.normal->Qm e a w->Q e a w)(hn:∀a w,Qm .normal a w->o.wp P a w (Q .normal) Q∨(o.asks P a w/\LetsOut Q)):
  ∀(fuel:Nat) (listed l':Array Bool),listed.size=ops.size+1->l'.size=ops.size->(∀i,i<ops.size->l'[i]?=listed[i]?)->listed[ops.size]?=some false ->
   (∀i x,(ops.push o)[i]?=some x->listed.getD i false=true->∀j∈direct x,listed.getD j false=true) ->
   ∀a w,wpAny P .any ops Qm fuel l' a w->wpAny P .any (ops.push o) Q (fuel+1) listed a w:=by
 have hsL:(ops.push o).size=ops.size+1:=Array.size_push _
 have hat:∀i,i<ops.size->(ops.push o)[i]?=ops[i]?:=fun i hi=>by rw[Array.getElem?_push,if_neg (by omega)]
 have hlast:(ops.push o)[ops.size]?=some o:=by rw[Array.getElem?_push,if_pos rfl]
 have fin:∀(listed:Array Bool),listed.size=ops.size+1->(∀i,i<ops.size->listed[i]?=some true)->listed[ops.size]?=some false->∀a w,Qm .normal a w->∀n,wpAny P .any (ops.push o) Q (n+1) listed a w:=by
  intro listed hsz hall hls a w hQ n;have hm:ops.size∈Region.ready .any (ops.push o) listed:=ready_mem.2 ⟨by omega,getD_some hls,o,hlast,fun j hj=>getD_some (hall j (downOk_spec hdown hlast j hj))⟩
  refine⟨fun h0=>absurd hm (by rw[h0];simp),fun i hi=>?_⟩;have him:i=ops.size:=by
   obtain⟨h1,h2,_⟩:=ready_mem.1 hi;rcases Nat.lt_or_ge i ops.size with h|h
   .rw[getD_some (hall i h)] at h2;cases h2
   .omega
  subst him;have hall2:Region.ready .any (ops.push o) (listed.setIfInBounds ops.size true)=[]:=by
   rw[List.eq_nil_iff_forall_not_mem];intro i hi;obtain⟨h1,h2,_⟩:=ready_mem.1 hi;have:(listed.setIfInBounds ops.size true)[i]?=some true:=by
    rw[Array.getElem?_setIfInBounds];by_cases e:ops.size=i
    .rw[if_pos e,if_pos (by omega)]
    .rw[if_neg e];exact hall i (by omega)
   rw[getD_some this] at h2;cases h2
  have hK:∀a w,Q .normal a w->wpAny P .any (ops.push o) Q n (listed.setIfInBounds ops.size true) a w:=by
   intro a w hq;cases n with
   | zero=>exact⟨hall2,hq⟩
   | succ n=>exact⟨fun _=>hq,fun i hi=>by rw[hall2] at hi;cases hi⟩
  unfold wpOp;rw[hlast];simp only;rw[if_pos (by simp[Region.wanted,hg])];exact(hn a w hQ).imp (Oper.wp_mono hK) id
 intro fuel;induction fuel with
 | zero =>
  intro listed l' hsz hsz' hll hls hcl a w h;obtain⟨h1,h2⟩:=h;refine fin listed hsz ?_ hls a w h2 0;have hC:∀n i,i<n->i<ops.size->listed[i]?=some true:=by
   intro n;induction n with
   | zero=>intro i hi;omega
   | succ n ihn =>
    intro i hi him;cases e:listed[i]? with
    | none=>rw[Array.getElem?_eq_none_iff] at e;omega
    | some v =>
     cases v with
     | true=>rfl
     | false =>
      exfalso
      have:i∈Region.ready .any ops l':=ready_mem.2 ⟨him,getD_some ((hll i him).trans e),ops[i],by simp[him],fun j hj=>by
       have hji:=downOk_spec hdown (by rw[hat i him];simp[him]) j hj;exact getD_some ((hll j (by omega)).trans (ihn j (by omega) (by omega)))⟩
      rw[h1] at this;cases this
  exact fun i hi=>hC (i+1) i (Nat.lt_succ_self _) hi
 | succ k ih =>
  intro listed l' hsz hsz' hll hls hcl a w h;obtain⟨h1,h2⟩:=h;have hval:∀i,i<ops.size->listed[i]?=some true∨listed[i]?=some false:=fun i hi=>by
   cases e:listed[i]? with
   | none=>rw[Array.getElem?_eq_none_iff] at e;omega
   | some v=>cases v<;>simp
  have hrd:∀i,i<ops.size->(i∈Region.ready .any (ops.push o) listed↔i∈Region.ready .any ops l'):=by
   intro i hi;have hd:∀x,ops[i]?=some x->((∀j∈direct x,listed.getD j false=true)↔∀j∈direct x,l'.getD j false=true):=fun x hx=>by
    have hj:=downOk_spec hdown ((hat i hi).trans hx);constructor
    .exact fun h j hj'=>getD_some ((hll j (by have:=hj j hj';omega)).trans (of_getD (h j hj')))
    .exact fun h j hj'=>getD_some ((hll j (by have:=hj j hj';omega)).symm.trans (of_getD (h j hj')))
   rw[ready_mem,ready_mem,hat i hi];have hg2:listed.getD i true=l'.getD i true:=by rw[Array.getD_eq_getD_getElem?,Array.getD_eq_getD_getElem?,hll i hi]
   constructor
   .rintro⟨_,g2,x,g3,g4⟩;exact⟨hi,hg2 ▸ g2,x,g3,(hd x g3).1 g4⟩
   .rintro⟨_,g2,x,g3,g4⟩;exact⟨by omega,hg2.symm ▸ g2,x,g3,(hd x g3).2 g4⟩
  by_cases hall:∀i,i<ops.size->listed[i]?=some true
  .refine fin listed hsz hall hls a w (h1 ?_) (k+1);rw[List.eq_nil_iff_forall_not_mem];intro i hi;obtain⟨g1,g2,_⟩:=ready_mem.1 hi;rw[getD_some ((hll i g1).trans (hall i g1))] at g2;cases g2
  .have hnm:ops.size∉Region.ready .any (ops.push o) listed:=by
    intro hm;refine hall ?_;obtain⟨_,_,x,hx,hx2⟩:=ready_mem.1 hm;rw[hlast] at hx;cases hx;have hD:∀n j,ops.size-j<=n->j<ops.size->listed[j]?=some true:=by
     intro n;induction n with
     | zero=>intro j h;omega
     | succ n ihn =>
      intro j hj hjm;obtain⟨i,x,hji,him,hx,hjx⟩:=tiedAll_spec htied hjm;by_cases e:i=ops.size
      .subst e;rw[hlast] at hx;cases hx;exact of_getD (hx2 j hjx)
      .exact of_getD (hcl i x hx (getD_some (ihn i (by omega) (by omega))) j hjx)
    exact fun i hi=>hD _ i (nr _) hi
   refine⟨fun h0=>?_,fun i hi=>?_⟩
   .exfalso
    refine hall ?_;have hC:∀n i,i<n->i<ops.size->listed[i]?=some true:=by
     intro n;induction n with
     | zero=>intro i hi;omega
     | succ n ihn =>
      intro i hi him;rcases hval i him with e|e
      .exact e
      .exfalso
       have:i∈Region.ready .any (ops.push o) listed:=ready_mem.2 ⟨by omega,getD_some e,ops[i],by rw[hat i him];simp[him],fun j hj=>by
        have hji:=downOk_spec hdown (by rw[hat i him];simp[him]) j hj;exact getD_some (ihn j (by omega) (by omega))⟩
       rw[h0] at this;cases this
    exact fun i hi=>hC (i+1) i (Nat.lt_succ_self _) hi
   .have him:i<ops.size:=by
     obtain⟨g1,_⟩:=ready_mem.1 hi;rcases Nat.lt_or_ge i ops.size with h|h
     .exact h
     .exfalso
      have:i=ops.size:=by omega
      subst this;exact hnm hi
    have h3:=wpOp_exits hq (h2 i ((hrd i him).1 hi));obtain⟨_,g2,x,g3,g4⟩:=ready_mem.1 hi;have hx:ops[i]?=some x:=(hat i him).symm.trans g3
    have hIH:∀a w,wpAny P .any ops Qm k (l'.setIfInBounds i true) a w->wpAny P .any (ops.push o) Q (k+1) (listed.setIfInBounds i true) a w:=by
     intro a w hh;refine ih _ _ (by simpa using hsz) (by simpa using hsz') ?_ ?_ ?_ a w hh
     .intro j hj;rw[Array.getElem?_setIfInBounds,Array.getElem?_setIfInBounds];by_cases e:i=j
      .rw[if_pos e,if_pos e,if_pos (by omega),if_pos (by omega)]
      .rw[if_neg e,if_neg e];exact hll j hj
     .rw[Array.getElem?_setIfInBounds,if_neg (by omega)];exact hls
     .intro i2 y hy hl2 j hj;have hset:∀q,(listed.setIfInBounds i true)[q]?=some true↔(q=i∨listed[q]?=some true):=by
       intro q;rw[Array.getElem?_setIfInBounds];by_cases e:i=q
       .rw[if_pos e,if_pos (by omega)];simp[e]
       .rw[if_neg e];constructor
        .exact .inr
        .rintro(h|h)
         .exact absurd h.symm e
         .exact h
      refine getD_some ((hset j).2 ?_);rcases (hset i2).1 (of_getD hl2) with e|e
      .subst e;rw[g3] at hy;cases hy;exact .inr (of_getD (g4 j hj))
      .exact .inr (of_getD (hcl i2 y hy (getD_some e) j hj))
    unfold wpOp at h3 ⊢;rw[hx] at h3;rw[g3];simp only at h3 ⊢;have hwan:Region.wanted x (yielded (ops.push o) a.tmps)=Region.wanted x (yielded ops a.tmps):=by
     unfold Region.wanted;cases hgx:x.guard with
     | none=>rfl
     | some jw =>
      obtain⟨j,want⟩:=jw;have hj:j<ops.size:=by
       unfold guardOk at hgo;have:=Array.all_eq_true'.1 hgo x (Array.mem_of_getElem? hx)
       rw[hgx] at this;simpa using this
      simp only[yielded,hat j hj]
    rw[hwan];split
    .rename_i hw;rw[if_pos hw] at h3;exact h3.imp (Oper.wp_mono hIH) id
    .rename_i hw;rw[if_neg hw] at h3;exact hIH _ _ h3
def splitOk(n:Nat)(ops:Array Oper)(o:Oper):Bool:=regionOk n ops true&&(regionOk n #[o] false&&(downOk (ops.push o)&&(tiedAll (ops.push o) ops.size&&(guardOk ops&&o.guard.isNone))))
open Go Go.ChangeShapes
open Go.Proofs.Tryz
variable {P:Program}
def Rd(w:World)(cs:List Value)(ds:List D):Prop:=cs.length=ds.length/\∀i (h1:i<cs.length) (h2:i<ds.length),RVd w.cell? (fun _=>True) ds[i] cs[i]
theorem Rd.append{w:World}{cs cs':List Value}{ds ds':List D}(h:Rd w cs ds)(k:Rd w cs' ds'):Rd w (cs++cs') (ds++ds'):=by
 refine⟨by simp[h.1,k.1],fun i h1 h2=>?_⟩;by_cases hi:i<cs.length
 .rw[List.getElem_append_left hi,List.getElem_append_left (by rw[<-h.1];exact hi)];exact h.2 i hi _
 .have hl:=h.1;rw[List.getElem_append_right (by omega),List.getElem_append_right (by omega)];have:=k.2 (i-cs.length) (by simp at h1;omega) (by have:=k.1;simp at h1;omega)
  simpa[hl] using this
theorem Rd.one{w:World}{c:Value}{d:D}(h:RVd w.cell? (fun _=>True) d c):Rd w [c] [d]:=⟨rfl,fun i h1 h2=>by
 have:i=0:=by simpa using h1
 subst this;exact h⟩
def Light{H:Type}(P:Program)(T:TypeId)(d:DataW H):Prop:=(d.weights P T).all (· <= reachBytes)=true
structure Rdr (P:Program) (T:TypeId) (α:Type) where
 enc:α->List D
 ok:α->Prop
 len:∀x,(enc x).length=P.cellsOf T
 sound:∀{H:Type} (e:TypeId × Value->H) (w:World) (base:Nat) (spare:Nat->Bool) (held:Bool) (fuel:Nat) (cs:List Value) (x:DataW H × List MemPlace),
  DataW.trod e P w base spare held fuel T cs=some x->∃y,Rd w cs (enc y)/\(Light P T x.1->ok y)
def Rdr.int{T:TypeId}{k:IntKind}(h:P.underlying T=some (.int k))(hc:P.cellsOf T=1):Rdr P T Int where
 enc n:=[.raw (.int k n)]
 ok n:=(Lit.int k n).wf=true
 len _:=by simp[hc]
 sound e w base spare held fuel cs x hx:=by
  cases fuel with
  | zero=>simp[DataW.trod] at hx
  | succ n =>
   unfold DataW.trod at hx;rw[h] at hx;split at hx<;>simp_all
   rename_i k' n' _;exact⟨n',Rd.one (.raw rfl),fun _=>hx.1.2⟩
theorem cells_spec{w:World}{base:Nat}{a:Addr}{n:Nat}{l:List Value}(h:w.cells? base a n=some l):l.length=n/\∀i (hi:i<l.length),w.cell? (a.add i)=some l[i]:=by
 unfold World.cells? at h;split at h
 .have h1:l.length=n:=by have:=mapM_some_length h;simpa using this
  refine⟨h1,fun i hi=>?_⟩;have hin:i<n:=by omega
  have:=mapM_some_get h i i (by simp[hin])
  rw[this];exact List.getElem?_eq_getElem hi
 .cases h
theorem light_slice{H:Type}{T E:TypeId}(h:P.underlying T=some (.slice E)){elems rest:List (DataW H)}(hl:Light P T (.slice elems rest)):elems.length*P.bytesOf E<=reachBytes/\∀d∈elems,Light P E d:=by
 unfold Light at hl ⊢;simp only[DataW.weights,h,List.all_cons,List.all_append,Bool.and_eq_true,decide_eq_true_eq] at hl;refine⟨Nat.le_trans (Nat.mul_le_mul_right _ (Nat.le_add_right _ _)) hl.1,?_⟩;have key:∀l:List (DataW H),(DataW.weightsAll P E l).all (· <= reachBytes)=true->∀d∈l,(d.weights P E).all (· <= reachBytes)=true:=by
  intro l;induction l with
  | nil=>intro _ d hd;simp at hd
  | cons x l ih =>
   intro hx d hd;simp only[DataW.weightsAll,List.all_append,Bool.and_eq_true] at hx;rcases List.mem_cons.1 hd with rfl|hd
   .exact hx.1
   .exact ih hx.2 d hd
 exact key elems hl.2.1
def Rdr.slice{T E:TypeId}{α:Type}(r:Rdr P E α)(h:P.underlying T=some (.slice E))(hc:P.cellsOf T=1):Rdr P T (List α) where
 enc l:=[.sl (P.cellsOf E) (l.map r.enc)]
 ok l:=(∀x∈l,r.ok x)/\l.length*P.bytesOf E<=reachBytes
 len _:=by simp[hc]
 sound e w base spare held fuel cs x hx:=by
  rcases DataW.trod_slice h hx with ⟨rfl,rfl⟩|⟨a,len,cap,elems,rest,n,rfl,rfl,rfl,hb,hl,hm,hel,hat,_⟩
  .exact⟨[],Rd.one (.sl (es:=[]) (fun _ _=>default) (nr _) (by decide) (by simp) (by simp) (by simp) (by simp)),fun _=>⟨by simp,by simp⟩⟩
  .have key:∀i (hi:i<elems.length),∃cs y,cs.length=P.cellsOf E/\(∀j (hj:j<cs.length),w.cell? (a.add (i*P.cellsOf E+j))=some cs[j])/\Rd w cs (r.enc y)/\(Light P E elems[i].1->r.ok y):=by
    intro i hi;have h1:=hat i (by omega);have h2:elems[i]?=some elems[i]:=List.getElem?_eq_getElem hi
    rw[h2,Option.bind_eq_some_iff] at h1;obtain⟨cs,hcs,htr⟩:=h1;obtain⟨hcl,hcc⟩:=cells_spec hcs;obtain⟨y,hy,hok⟩:=r.sound e w base spare held n cs _ htr;refine⟨cs,y,hcl,fun j hj=>?_,hy,hok⟩;rw[<-Addr.add_add];exact hcc j hj
   have pick:∀m,m<=elems.length->∃ys:List α,ys.length=m/\(∀i (hi:i<ys.length) (hi2:i<elems.length),∃cs,cs.length=P.cellsOf E/\(∀j (hj:j<cs.length),w.cell? (a.add (i*P.cellsOf E+j))=some cs[j])/\Rd w cs (r.enc ys[i])/\(Light P E elems[i].1->r.ok ys[i])):=by
    intro m;induction m with
    | zero=>intro _;exact⟨[],rfl,fun i hi=>by simp at hi⟩
    | succ m ih =>
     intro hm';obtain⟨ys,hys,hall⟩:=ih (by omega);obtain⟨cs,y,g1,g2,g3,g4⟩:=key m (by omega);refine⟨ys++[y],by simp[hys],fun i hi hi2=>?_⟩;by_cases him:i<ys.length
     .rw[List.getElem_append_left him];exact hall i him hi2
     .have:i=m:=by simp at hi;omega
      subst this;have e1:(ys++[y])[i]=y:=by
       rw[List.getElem_append_right (by omega)];simp
      rw[e1];exact⟨cs,g1,g2,g3,g4⟩
   obtain⟨ys,hys,hall⟩:=pick elems.length (nr _);refine⟨ys,Rd.one ?_,fun hli=>?_⟩
   .have hlen:len=ys.length:=by omega
    subst hlen;have hml:ys.length=(ys.map r.enc).length:=by simp
    rw[hml];refine .sl (fun i j=>(w.cell? (a.add (i*P.cellsOf E+j))).getD default) (by simpa using hl) hm (fun e he=>?_) (fun _=>⟨a,rfl⟩) (fun a' ha' i j hi hj=>?_) (fun i j hi hj=>?_)
    .obtain⟨y,_,rfl⟩:=List.mem_map.1 he;exact r.len y
    .cases ha'
     obtain⟨cs,g1,g2,_⟩:=hall i (by simpa using hi) (by simp at hi;omega);rw[g2 j (by omega)];exact⟨trivial,rfl⟩
    .obtain⟨cs,g1,g2,g3,_⟩:=hall i (by simpa using hi) (by simp at hi;omega);simp only[List.getElem_map] at hj ⊢;have hjc:j<cs.length:=by rw[g3.1];exact hj
     rw[g2 j hjc];exact g3.2 j hjc hj
   .obtain⟨w1,w2⟩:=light_slice h hli;refine⟨fun y hy=>?_,by simpa[hys] using w1⟩;obtain⟨i,hi,rfl⟩:=List.getElem_of_mem hy;obtain⟨_,_,_,_,h4⟩:=hall i hi (by omega);exact h4 (w2 _ (List.mem_map.2 ⟨_,List.getElem_mem _,rfl⟩))
def Rdr.sliceN{T E:TypeId}{α:Type}(r:Rdr P E α)(n:Nat)(h:P.underlying T=some (.slice E))(hc:P.cellsOf T=1)(hn:P.cellsOf E=n):Rdr P T (List α) where
 enc l:=[.sl n (l.map r.enc)]
 ok l:=(∀x∈l,r.ok x)/\l.length*P.bytesOf E<=reachBytes
 len _:=by simp[hc]
 sound:=by
  subst hn;exact(Rdr.slice r h hc).sound
theorem list3{α:Type}{l:List α}(h:l.length=3):l=[l[0]'(by omega),l[1]'(by omega),l[2]'(by omega)]:=by
 match l,h with
 | [p,q,r],_=>rfl
def G0:Gh:=⟨fun _=>none,fun _=>none,fun _=>.whole,0⟩
def m0:AMem:=⟨fun _=>none,0,fun _=>false,0⟩
theorem G0_ps(a:Addr):G0.ps a:=trivial
theorem relM_start(W:World)(hg:GlobOk G0 W:=by exact⟨fun g cs h=>by simp[globD] at h,fun g vs h=>by simp[globT] at h⟩):RelM G0 m0 W:=by
 constructor
 case glob=>exact hg
 case box=>intro k rows b sz h;cases h
 case nobox=>intro k _;rfl
 case inj=>intro k k' b sz sz' h;cases h
 case nb=>intro k _;rfl
 case nt=>rfl
 case toks=>intro t h;cases h
 case tokb=>intro t g h;cases h
 case tinj=>intro t t' g h;cases h
 case tnt=>intro t x h;cases h
 case fresh=>intro b _;rfl
theorem RVd.start{W:World}{d:D}{v:Value}(h:RVd W.cell? (fun _=>True) d v):RVd W.cell? G0.ps d v:=h.mono fun a u _ hc=>⟨G0_ps a,hc⟩
theorem Rdr.agg{T:TypeId}{α:Type}(r:Rdr P T α){W:World}{base base':Nat}{sp:Nat->Bool}{held:Bool}{H:Type}{enc:TypeId × Value->H}{v:Value}{d:DataW H}{p:List MemPlace}(hs:aggT P T=some true)(hv:Value.okWide P W .any base T v)(h:DataW.Trod enc P W base' sp held T v d p)(hli:Light P T d):∃y,r.ok y/\RV G0 W (.agg ((r.enc y).map .d)) v:=by
 have hcs:∃cs,v=.agg cs:=by
  unfold aggT at hs;unfold Value.okWide at hv;cases hu:P.underlying T with
  | none=>rw[hu] at hs;simp at hs
  | some u =>
   rw[hu] at hs hv;cases u<;>simp at hs hv<;>exact⟨_,hv.choose_spec.1⟩
 obtain⟨cs,rfl⟩:=hcs;obtain⟨fuel,h⟩:=h;obtain⟨y,⟨h1,h2⟩,hok⟩:=r.sound enc W base' sp held fuel _ _ h;refine⟨y,hok hli,?_⟩;simp only[Value.cells] at h1 h2;have:=RV.agg (G:=G0) (w:=W) (cs:=(r.enc y).map .d) (vs:=cs.toList) (by simp[h1]) (fun i g1 g2=>by
  simp only[List.getElem_map];exact .d (h2 i g2 (by simpa using g1)).start) (fun v hv=>by
  obtain⟨i,hi,rfl⟩:=List.getElem_of_mem hv;exact(h2 i hi (by omega)).one)
 simpa using this
theorem Rdr.cell{T:TypeId}{α:Type}(r:Rdr P T α){W:World}{base base':Nat}{sp:Nat->Bool}{held:Bool}{H:Type}{enc:TypeId × Value->H}{v:Value}{d:DataW H}{p:List MemPlace}(f:α->D)(hs:aggT P T=some false)(hf:∀y,r.enc y=[f y])(hv:Value.okWide P W .any base T v)(h:DataW.Trod enc P W base' sp held T v d p)(hli:Light P T d):∃y,r.ok y/\RV G0 W (.d (f y)) v:=by
 obtain⟨fuel,h⟩:=h;obtain⟨y,⟨h1,h2⟩,hok⟩:=r.sound enc W base' sp held fuel _ _ h;refine⟨y,hok hli,?_⟩;rw[hf] at h1;have hcs:v.cells.toList=[v]:=by
  cases v with
  | agg cs =>
   exfalso
   unfold aggT at hs;unfold Value.okWide Cell.okWide Cell.ok at hv;cases hu:P.underlying T with
   | none=>rw[hu] at hs;simp at hs
   | some u =>
    rw[hu] at hs hv;cases u<;>simp_all
  | _=>rfl
 have:=h2 0 (by rw[h1];simp) (by rw[hf];simp)
 simp only[hf,List.getElem_cons_zero] at this;have e:v.cells.toList[0]'(by rw[h1];simp)=v:=by simp[hcs]
 rw[e] at this;exact .d this.start
theorem light_arg{H:Type}{ts:List TypeId}{ds:List (DataW H)}(hz:(DataW.weightsEach P ts ds).all (· <= reachBytes)=true){j:Nat}{T:TypeId}{d:DataW H}(ht:ts[j]?=some T)(hd:ds[j]?=some d):Light P T d :=
 List.all_eq_true.2 fun x hx=>List.all_eq_true.1 hz x (DataW.weights_mem_each ht hd x hx)
theorem arg_agg{ps:Array TypeId}{args:Array Value}{W:World}{base base':Nat}{sp:Nat->Bool}{held:Bool}{H:Type}{enc:TypeId × Value->H}(hval:∀(j:Nat) t v,ps[j]?=some t->args[j]?=some v->Value.okWide P W .any base t v)(j:Nat)(T:TypeId)(v:Value)(hp:ps[j]?=some T)(ha:args[j]?=some v){α:Type}(r:Rdr P T α){d:DataW H}{p:List MemPlace}(hs:aggT P T=some true)(h:DataW.Trod enc P W base' sp held T v d p)(hli:Light P T d):
  ∃y,r.ok y/\RV G0 W (.agg ((r.enc y).map .d)) v:=r.agg hs (hval j T v hp ha) h hli
theorem arg_cell{ps:Array TypeId}{args:Array Value}{W:World}{base base':Nat}{sp:Nat->Bool}{held:Bool}{H:Type}{enc:TypeId × Value->H}(hval:∀(j:Nat) t v,ps[j]?=some t->args[j]?=some v->Value.okWide P W .any base t v)(j:Nat)(T:TypeId)(v:Value)(hp:ps[j]?=some T)(ha:args[j]?=some v){α:Type}(r:Rdr P T α)(f:α->D){d:DataW H}{p:List MemPlace}(hs:aggT P T=some false)(hf:∀y,r.enc y=[f y])(h:DataW.Trod enc P W base' sp held T v d p)(hli:Light P T d):
  ∃y,r.ok y/\RV G0 W (.d (f y)) v:=r.cell f hs hf (hval j T v hp ha) h hli
theorem le_old{W W':World}{G':Gh}(h:Le G0 W G' W')(b:Nat)(hb:b<W.heap.size):W'.heap[b]?=W.heap[b]?:=(h.whole b hb rfl).2
theorem le_kept{W W':World}{G':Gh}(h:Le G0 W G' W')(may:MemPlace->Prop):W.keptBut W' may:=by
 refine⟨h.os,h.output,fun i hi=>?_⟩;rw[le_old h i hi];split
 .rename_i c t fr c' t' fr' e1 e2;rw[e1] at e2;cases e2;exact⟨rfl,rfl,rfl,fun _ _=>rfl⟩
 .rename_i e1 e2;rw[e1] at e2;cases e2;exact .inr ⟨rfl,rfl⟩
 .rfl
theorem le_same{W W':World}{G':Gh}(h:Le G0 W G' W'){p:MemPlace}(hp:p.block<W.heap.size):W.sameAt W' p:=by
 cases p with
 | cell b off=>exact World.cell?_of_block (w:=W) (a:=⟨b,off,none⟩) (le_old h b hp)
 | map b=>exact le_old h b hp
theorem trodAll_stays{H:Type}{enc:TypeId × Value->H}{W W':World}{T:TypeId->Prop}{sp':Nat->Bool}(K:Kids P T)(hsz:∀{t e:TypeId},T t->P.underlying t=some (.slice e)->0<P.cellsOf e):
  ∀{ts:List TypeId} {vs:List Value} {ds:List (DataW H)} {ps:List MemPlace},(∀t∈ts,T t)->DataW.TrodAll enc P W 0 (fun _=>true) true ts vs ds ps->(∀p∈ps,W.sameAt W' p)->(∀p∈ps,sp' p.block=true) ->
  DataW.TrodAll enc P W' 0 sp' true ts vs ds ps
 | [],[],[],_,_,h,_,_=>h
 | t::ts,v::vs,d::ds,_,hT,⟨p,q,⟨n,hn⟩,h2,e⟩,h3,h4=>by
  subst e;exact⟨p,q,⟨n,DataW.trod_stays K hsz (fun h=>by cases h) (hT t (by simp)) hn (fun x hx=>h3 x (by simp[hx])) (fun x hx=>h4 x (by simp[hx]))⟩,
   trodAll_stays K hsz (fun t ht=>hT t (by simp[ht])) h2 (fun x hx=>h3 x (by simp[hx])) (fun x hx=>h4 x (by simp[hx])),rfl⟩
theorem law_of{f:FuncId}{fn:Func}{s:ChangeSpec}{H:Type}{enc:TypeId × Value->H}{W:World}{args:Array Value}{ds:List (DataW H)}{before:List MemPlace}{avs:List AV}{tok':Nat->Bool}{nt':Nat}(hl:laidOutB P=true)(hm:mapsRowed P=true)(hz:((List.range P.types.size).all fun t=>match P.underlying t with|some (.slice e)=>decide (0<P.cellsOf e)|_=>true)=true)(hpar:fn.params.all (· < P.types.size)=true){tb:TypeId}(hres:fn.resultTypes = #[tb])(hb:P.underlying tb=some .bool)(hvars:s.vars=[])(hfn:s.fn H ds={ results:=[.lit (.bool true)],args:=ds })(hW:DataW.Whole enc P fn.params.toList s.vars false W args.toList ds [] before)(hr:RVs G0 W avs args.toList)(hc:DCall P f avs (fun _=>false) 0 (B true) tok' nt')(hgl:GlobOk G0 W:=by exact⟨fun g cs h=>by simp[globD] at h,fun g vs h=>by simp[globT] at h⟩):
  Calls P f args W fun e W'=>∃v,e=.returned v/\s.post enc P fn false true false false W args v W':=by
 have hcall:=(hc (fun _=>none) 0).2 G0 W args.toList (relM_start W hgl) hr;simp only[Array.toArray_toList] at hcall;refine hcall.mono ?_;rintro e W' ⟨v,av,m',G',rfl,⟨rfl,rfl⟩,_,_,hv,hle,_⟩;cases hv with
 | d hv =>
  cases hv with
  | raw =>
   refine⟨_,rfl,?_⟩;have hlt:=hW.lt;have hWW:=hW;obtain⟨p,q,hA,hV,rfl,hfz,hnd⟩:=hW;rw[hvars] at hV;obtain⟨_,rfl⟩:=trodVars_none hV;simp only[List.append_nil] at hlt hfz hWW ⊢;have hT:∀t∈fn.params.toList,t<P.types.size:=fun t ht=>by
    have:=Array.all_eq_true_iff_forall_mem.1 hpar t (by simpa using ht)
    simpa using this
   have hsz:∀{t e:TypeId},t<P.types.size->P.underlying t=some (.slice e)->0<P.cellsOf e:=by
    intro t e ht hu;have:=List.all_eq_true.1 hz t (List.mem_range.2 ht)
    rw[hu] at this;simpa using this
   have hargs:∀sp:Nat->Bool,(∀x∈p,sp x.block=true)->DataW.TrodAll enc P W' 0 sp true fn.params.toList args.toList ds p:=fun sp hsp =>
    trodAll_stays (kids_rows hl hm) hsz hT hA (fun x hx=>le_same hle (hlt x hx)) hsp
   have hnat:(Value.bool true).resultList fn.resultTypes.size=[.bool true]:=by rw[hres];rfl
   have hresb:∀(b:Nat) (sp:Nat->Bool) (hd:Bool),DataW.TrodAll enc P W' b sp hd fn.resultTypes.toList ((Value.bool true).resultList fn.resultTypes.size) [.lit (.bool true)] []:=fun b sp hd=>by
    rw[hnat,hres];exact trodAll_mk1 ⟨1,by simp[DataW.trod,hb,Value.cells]⟩
   have hfn':s.fn H (ds++[])={ results:=[.lit (.bool true)],args:=ds }:=by rw[List.append_nil];exact hfn
   refine⟨ds,[],p,[],p,[],hWW,?_,?_,?_,World.keptBut_mono (fun _ f=>f.elim) (le_kept hle fun _=>False),fun h=>by cases h⟩
   .rw[hfn'];exact hresb _ _ _
   .rw[hfn'];exact hargs _ fun x hx=>by simpa using hlt x hx
   .rw[hfn',hvars];exact rfl
theorem own0:ownKnob prog.godebug=none:=by kernel_rfl
theorem laidOut0:laidOutB prog=true:=by kernel_rfl
theorem mapsRowed0:mapsRowed prog=true:=by kernel_rfl
theorem slices0:((List.range prog.types.size).all fun t=>match prog.underlying t with|some (.slice e)=>decide (0<prog.cellsOf e)|_=>true)=true:=by kernel_rfl
def rdInt:Rdr prog 3 Int:=Rdr.int (k:=.i64) underlying3 (by kernel_rfl)
structure RdF (P:Program) (T:TypeId) {α:Type} (en:α->List D) (ok:α->Prop) (n:Nat):Prop where
 sound:∀{H:Type} (e:TypeId × Value->H) (w:World) (base:Nat) (spare:Nat->Bool) (held:Bool) (cs:List Value) (x:DataW H × List MemPlace),
  DataW.trod e P w base spare held n T cs=some x->∃y,Rd w cs (en y)/\(Light P T x.1->ok y)
theorem Rdr.f{P:Program}{T:TypeId}{α:Type}(r:Rdr P T α)(n:Nat):RdF P T r.enc r.ok n:=⟨fun e w base spare held cs x hx=>r.sound e w base spare held n cs x hx⟩
theorem RdF.zero{P:Program}{T:TypeId}{α:Type}{en:α->List D}{ok:α->Prop}:RdF P T en ok 0:=⟨fun e w base spare held cs x hx=>by simp[DataW.trod] at hx⟩
def Rdr.ofF{P:Program}{T:TypeId}{α:Type}(en:α->List D)(ok:α->Prop)(len:∀x,(en x).length=P.cellsOf T)(h:∀n,RdF P T en ok n):Rdr P T α:=⟨en,ok,len,fun e w base spare held n cs x hx=>(h n).sound e w base spare held cs x hx⟩
theorem RdF.slice{P:Program}{T E:TypeId}{α:Type}{en:α->List D}{ok:α->Prop}{n:Nat}(r:RdF P E en ok n)(k:Nat)(hk:P.cellsOf E=k)(hlen:∀x,(en x).length=k)(h:P.underlying T=some (.slice E)):
  RdF P T (fun l:List α=>[.sl k (l.map en)]) (fun l=>(∀x∈l,ok x)/\l.length*P.bytesOf E<=reachBytes) (n+1):=by
 subst hk;constructor
 intro H e w base spare held cs x hx;rcases DataW.trod_slice h hx with ⟨rfl,rfl⟩|⟨a,len,cap,elems,rest,n',hn',rfl,rfl,hb,hl,hm,hel,hat,_⟩
 .exact⟨[],Rd.one (.sl (es:=[]) (fun _ _=>default) (nr _) (by decide) (by simp) (by simp) (by simp) (by simp)),fun _=>⟨by simp,by simp⟩⟩
 .obtain rfl:n'=n:=by omega
  have key:∀i (hi:i<elems.length),∃cs y,cs.length=P.cellsOf E/\(∀j (hj:j<cs.length),w.cell? (a.add (i*P.cellsOf E+j))=some cs[j])/\Rd w cs (en y)/\(Light P E elems[i].1->ok y):=by
   intro i hi;have h1:=hat i (by omega);have h2:elems[i]?=some elems[i]:=List.getElem?_eq_getElem hi
   rw[h2,Option.bind_eq_some_iff] at h1;obtain⟨cs,hcs,htr⟩:=h1;obtain⟨hcl,hcc⟩:=cells_spec hcs;obtain⟨y,hy,hok⟩:=r.sound e w base spare held cs _ htr;refine⟨cs,y,hcl,fun j hj=>?_,hy,hok⟩;rw[<-Addr.add_add];exact hcc j hj
  have pick:∀m,m<=elems.length->∃ys:List α,ys.length=m/\(∀i (hi:i<ys.length) (hi2:i<elems.length),∃cs,cs.length=P.cellsOf E/\(∀j (hj:j<cs.length),w.cell? (a.add (i*P.cellsOf E+j))=some cs[j])/\Rd w cs (en ys[i])/\(Light P E elems[i].1->ok ys[i])):=by
   intro m;induction m with
   | zero=>intro _;exact⟨[],rfl,fun i hi=>by simp at hi⟩
   | succ m ih =>
    intro hm';obtain⟨ys,hys,hall⟩:=ih (by omega);obtain⟨cs,y,g1,g2,g3,g4⟩:=key m (by omega);refine⟨ys++[y],by simp[hys],fun i hi hi2=>?_⟩;by_cases him:i<ys.length
    .rw[List.getElem_append_left him];exact hall i him hi2
    .have:i=m:=by simp at hi;omega
     subst this;have e1:(ys++[y])[i]=y:=by
      rw[List.getElem_append_right (by omega)];simp
     rw[e1];exact⟨cs,g1,g2,g3,g4⟩
  obtain⟨ys,hys,hall⟩:=pick elems.length (nr _);refine⟨ys,Rd.one ?_,fun hli=>?_⟩
  .have hlen':len=ys.length:=by omega
   subst hlen';have hml:ys.length=(ys.map en).length:=by simp
   rw[hml];refine .sl (fun i j=>(w.cell? (a.add (i*P.cellsOf E+j))).getD default) (by simpa using hl) hm (fun e he=>?_) (fun _=>⟨a,rfl⟩) (fun a' ha' i j hi hj=>?_) (fun i j hi hj=>?_)
   .obtain⟨y,_,rfl⟩:=List.mem_map.1 he;exact hlen y
   .cases ha'
    obtain⟨cs,g1,g2,_⟩:=hall i (by simpa using hi) (by simp at hi;omega);rw[g2 j (by omega)];exact⟨trivial,rfl⟩
   .obtain⟨cs,g1,g2,g3,_⟩:=hall i (by simpa using hi) (by simp at hi;omega);simp only[List.getElem_map] at hj ⊢;have hjc:j<cs.length:=by rw[g3.1];exact hj
    rw[g2 j hjc];exact g3.2 j hjc hj
  .obtain⟨w1,w2⟩:=light_slice h hli;refine⟨fun y hy=>?_,by simpa[hys] using w1⟩;obtain⟨i,hi,rfl⟩:=List.getElem_of_mem hy;obtain⟨_,_,_,_,h4⟩:=hall i hi (by omega);exact h4 (w2 _ (List.mem_map.2 ⟨_,List.getElem_mem _,rfl⟩))
structure Xt where
 m:Mo
 g:Gr
structure Co where
 name:ByteArray
 kind:Int
 g:Gr
 exts:List Xt
abbrev Xt.cells(x:Xt):List D:=[ints x.m.nodes,ints x.m.edges,ints x.g.nodes,AM.edges x.g.edges]
abbrev xts(l:List Xt):D:=.sl 4 (l.map Xt.cells)
abbrev Xt.av(x:Xt):AV:=.agg [.d (ints x.m.nodes),.d (ints x.m.edges),.d (ints x.g.nodes),.d (AM.edges x.g.edges)]
abbrev Co.row(c:Co):List AV:=[Sb c.name,I c.kind,.d (ints c.g.nodes),.d (AM.edges c.g.edges),.d (xts c.exts)]
abbrev Co.av(c:Co):AV:=.agg c.row
structure Xt.Fit (x:Xt):Prop where
 m:x.m.Fit
 g:x.g.Fit
structure Co.Fit (c:Co):Prop where
 name:c.name.size<=200000000000000
 g:c.g.Fit
 n:c.exts.length<=1000000
 exts:∀x∈c.exts,x.Fit
def lrgB(g:Gr):Bool:=if 6<g.nodes.length then true else decide (8<g.edges.length)
def xtE(p:Gr)(x:Xt):Int:=if validM p x.g x.m≠0 then validM p x.g x.m else if lrgB x.g=true then 3 else if injM p x.g x.m=true then 0 else 1
def xtAt(c:Co)(i:Nat):Int:=match c.exts[i]? with|some x=>xtE c.g x|none=>0
theorem xtAt_at{c:Co}{i:Nat}(h:i<c.exts.length):xtAt c i=xtE c.g c.exts[i]:=by simp[xtAt,h]
def kdE(c:Co):Int :=
 if c.kind=1 then if c.exts=[] then 0 else 1 else if c.kind=2 then if c.exts=[] then 7 else if 6<c.exts.length then 3 else 0 else 1
def shpE(c:Co):Int :=
 if nameB c.name=false then 2 else if kdE c≠0 then kdE c else if vG c.g≠0 then vG c.g else if lrgB c.g=true then 3 else firstE (xtAt c) c.exts.length
def lvX(t:Ty)(c:Co):Bool:=if lvsB t c.g=true then allP (fun x:Xt=>lvsB t x.g) c.exts else false
def cnE(t:Ty)(c:Co):Int:=if tyE t≠0 then tyE t else if shpE c≠0 then shpE c else if lvX t c=true then 0 else 13
theorem shpE_zero{c:Co}(h:shpE c=0):nameB c.name=true/\kdE c=0/\vG c.g=0/\lrgB c.g=false/\∀x∈c.exts,validM c.g x.g x.m=0/\lrgB x.g=false/\injM c.g x.g x.m=true:=by
 unfold shpE at h;split at h
 .cases h
 rename_i h1;split at h
 .rename_i h2;exact absurd h h2
 rename_i h2;split at h
 .rename_i h3;exact absurd h h3
 rename_i h3;split at h
 .cases h
 rename_i h4;refine⟨by simpa using h1,by simpa using h2,by simpa using h3,by simpa using h4,fun x hx=>?_⟩;obtain⟨i,hi,rfl⟩:=List.getElem_of_mem hx;have h5:=firstE_allZ _ h i hi;rw[xtAt_at hi] at h5;unfold xtE at h5;split at h5
 .rename_i h6;exact absurd h5 h6
 rename_i h6;split at h5
 .cases h5
 rename_i h7;split at h5
 .rename_i h8;exact⟨by simpa using h6,by simpa using h7,h8⟩
 .cases h5
inductive Fo where
 | mk (kind:Int) (name:ByteArray) (kids:List Fo)
 deriving Inhabited
def Fo.kind:Fo->Int|.mk k _ _=>k
def Fo.name:Fo->ByteArray|.mk _ s _=>s
def Fo.kids:Fo->List Fo|.mk _ _ c=>c
mutual
def Fo.cells:Fo->List D
 | .mk k s c=>[.raw (.int .i64 k),.raw (.string s),.sl 3 (Fo.rows c)]
def Fo.rows:List Fo->List (List D)
 | []=>[]
 | x::r=>Fo.cells x::Fo.rows r
end
theorem Fo.rows_map:∀l:List Fo,Fo.rows l=l.map Fo.cells
 | []=>by simp[Fo.rows]
 | x::r=>by simp[Fo.rows,Fo.rows_map r]
abbrev fos(l:List Fo):D:=.sl 3 (l.map Fo.cells)
theorem Fo.cells_eq(c:Fo):c.cells=[.raw (.int .i64 c.kind),.raw (.string c.name),fos c.kids]:=by
 cases c;simp[Fo.cells,Fo.rows_map,Fo.kind,Fo.name,Fo.kids]
abbrev Fo.row(c:Fo):List AV:=[I c.kind,Sb c.name,.d (fos c.kids)]
abbrev Fo.av(c:Fo):AV:=.agg c.row
mutual
def Fo.size:Fo->Nat
 | .mk _ _ c=>1+Fo.sizeL c
def Fo.sizeL:List Fo->Nat
 | []=>0
 | x::r=>Fo.size x+Fo.sizeL r
end
mutual
def Fo.depth:Fo->Nat
 | .mk _ _ c=>1+Fo.depthL c
def Fo.depthL:List Fo->Nat
 | []=>0
 | x::r=>max (Fo.depth x) (Fo.depthL r)
end
theorem Fo.size_eq(c:Fo):c.size=1+Fo.sizeL c.kids:=by cases c;simp[Fo.size,Fo.kids]
theorem Fo.depth_eq(c:Fo):c.depth=1+Fo.depthL c.kids:=by cases c;simp[Fo.depth,Fo.kids]
theorem Fo.size_pos(c:Fo):1<=c.size:=by rw[c.size_eq];omega
theorem Fo.sizeL_app:∀a b:List Fo,Fo.sizeL (a++b)=Fo.sizeL a+Fo.sizeL b
 | [],b=>by simp[Fo.sizeL]
 | x::r,b=>by simp[Fo.sizeL,Fo.sizeL_app r b];omega
theorem Fo.depthL_app:∀a b:List Fo,Fo.depthL (a++b)=max (Fo.depthL a) (Fo.depthL b)
 | [],b=>by simp[Fo.depthL]
 | x::r,b=>by simp[Fo.depthL,Fo.depthL_app r b]
theorem Fo.sizeL_mem:∀{l:List Fo} {x:Fo},x∈l->x.size<=Fo.sizeL l
 | y::r,x,h=>by
  simp only[Fo.sizeL];rcases List.mem_cons.1 h with rfl|h
  .omega
  .have:=Fo.sizeL_mem h;omega
theorem Fo.len_le:∀l:List Fo,l.length<=Fo.sizeL l
 | []=>by simp[Fo.sizeL]
 | x::r=>by have:=Fo.len_le r;have:=x.size_pos;simp[Fo.sizeL];omega
theorem Fo.depth_le_size:∀(n:Nat) (c:Fo),c.size<n->c.depth<=c.size
 | 0,c,h=>absurd h (Nat.not_lt_zero _)
 | n+1,c,h=>by
  have hk:∀l:List Fo,Fo.sizeL l<n->Fo.depthL l<=Fo.sizeL l:=by
   intro l;induction l with
   | nil=>intro _;simp[Fo.depthL]
   | cons x r ih =>
    intro hl;simp only[Fo.sizeL] at hl;have h1:=Fo.depth_le_size n x (by omega);have h2:=ih (by omega);simp only[Fo.sizeL,Fo.depthL];omega
  rw[c.size_eq] at h ⊢;rw[c.depth_eq];have:=hk c.kids (by omega)
  omega
theorem Fo.kid_size{c x:Fo}(h:x∈c.kids):x.size<c.size:=by
 have:=Fo.sizeL_mem h
 rw[c.size_eq];omega
theorem Fo.sizeL_take{l:List Fo}{i:Nat}(h:i<l.length):Fo.sizeL (l.take (i+1))=Fo.sizeL (l.take i)+l[i].size:=by
 rw[List.take_succ_eq_append_getElem h,Fo.sizeL_app];simp[Fo.sizeL]
theorem Fo.depthL_take{l:List Fo}{i:Nat}(h:i<l.length):Fo.depthL (l.take (i+1))=max (Fo.depthL (l.take i)) l[i].depth:=by
 rw[List.take_succ_eq_append_getElem h,Fo.depthL_app];simp[Fo.depthL]
theorem Fo.sizeL_take_le(l:List Fo)(i:Nat):Fo.sizeL (l.take i)<=Fo.sizeL l:=by
 conv=>rhs;rw[<-List.take_append_drop i l]
 rw[Fo.sizeL_app];omega
theorem Fo.depthL_take_le(l:List Fo)(i:Nat):Fo.depthL (l.take i)<=Fo.depthL l:=by
 conv=>rhs;rw[<-List.take_append_drop i l]
 rw[Fo.depthL_app];omega
theorem Fo.kids_len(c:Fo):c.kids.length<c.size:=by have:=Fo.len_le c.kids;rw[c.size_eq];omega
def stTm(c:Fo)(nb:Nat)(box:Bxs)(tok:Tks)(nt:Nat)(i:Nat):AS :=
 ⟨tl [(11,.d (fos c.kids)),(12,I c.kids.length),(13,I i),(4,I (1+Fo.sizeL (c.kids.take i):Nat)),(5,I (Fo.depthL (c.kids.take i))),(1,.ptr (nb+1) 0 0)],lb nb box [(1,[c.row])],tok,nt⟩
theorem measureT_c:∀(n:Nat) (c:Fo),c.size<n->c.size<=1000000->∀(tok:Tks) (nt:Nat),DCall prog 150 [c.av] tok nt (.tup [I c.size,I c.depth]) tok nt
 | 0,c,hn,_,tok,nt=>absurd hn (Nat.not_lt_zero _)
 | n+1,c,hn,hb,tok,nt=>by
  intro box nb;have ih:=fun x (hx:x∈c.kids)=>measureT_c n x (by have:=Fo.kid_size hx;omega) (by have:=Fo.kid_size hx;omega)
  have hkl:=c.kids_len;have hs:=c.size_eq;have hd:=c.depth_eq;have hds:=c.depth_le_size _ (Nat.lt_succ_self _);refine sI func150 ntmps150 fun Hb Ht=>?_
  repeat first|simp|refine sR ?_
  refine sN ?_;refine sL (stTm c nb box tok nt) (fun i=>i<=c.kids.length) (fun i=>c.kids.length-i) 0 (Nat.zero_le _) (wM (nr _) rfl (by simp[ToL,lk,Fo.sizeL,Fo.depthL]) (by simp[BoxL,lk])) ?_;rintro i S hi hS;simp only[stTm] at hS;subst hS;have hw:=sW (i:=i) (by omega);repeat first|simp|refine sR ?_|refine sC ?_
  refine⟨fun hlt=>?_,fun hge=>?_⟩
  .have h1:=Fo.sizeL_take hlt;have h2:=Fo.depthL_take hlt;have h3:=Fo.sizeL_take_le c.kids (i+1);have h4:=Fo.depthL_take_le c.kids (i+1);have ihx:=ih _ (List.getElem_mem hlt);have hw2:IntKind.i64.wrap (1+(Fo.sizeL (c.kids.take i):Int)+(c.kids[i].size:Int))=((1+Fo.sizeL (c.kids.take (i+1)):Nat):Int):=by rw[wrap_in (by omega) (by omega)];omega
   have hm:max (Fo.depthL (c.kids.take i):Int) (c.kids[i].depth:Int)=((Fo.depthL (c.kids.take (i+1)):Nat):Int):=by omega
   repeat first|simp[hlt,Fo.cells_eq]|refine sR ?_
   generalize c.kids[i]=x at *;repeat first|simp|refine sR ?_
   refine sD (ihx _ _) ?_;simp;repeat first|simp[hw2,hm]|refine sR ?_
   repeat first|simp[hw]|refine sR ?_
   refine sE ?_;exact⟨i+1,hlt,by omega,wkA⟩
  .refine sX ?_;simp only[AU,↓reduceIte];have:i=c.kids.length:=by omega
   subst this;rw[List.take_length];have hw3:IntKind.i64.wrap ((Fo.depthL c.kids:Int)+1)=((c.depth:Nat):Int):=by rw[wrap_in (by omega) (by omega)];omega
   have hs2:(1+(Fo.sizeL c.kids:Int))=((c.size:Nat):Int):=by omega
   repeat first|simp[hw3]|refine sR ?_
   refine sT (sH Hb Ht ?_);simp[hs2,hd]
theorem AL.cut_aux{P:Program}{cx:Cx}{nt0:Nat}{K K':Exit->AS->Prop}{R:List CI}(hn:∀S,K' .normal S->AL P cx nt0 K R S)(he:∀e S,e≠.normal->K' e S->AU P cx nt0 K R e S):
  ∀l:List CI,(∀S,AL P cx nt0 K' l S->AL P cx nt0 K (l++R) S)/\∀e S,e≠.normal->AU P cx nt0 K' l e S->AU P cx nt0 K (l++R) e S
 | []=>⟨fun S h=>hn S (by simpa only[AL] using h),fun e S h1 h=>he e S h1 (by simpa only[AU] using h)⟩
 | .c c::l=>by
  obtain⟨i1,i2⟩:=AL.cut_aux hn he l;refine⟨fun S h=>?_,fun e S h1 h=>?_⟩
  .simp only[AL,List.cons_append] at h ⊢;refine h.mono fun e S' h=>?_
   cases e with
   | normal=>exact i1 S' h
   | _=>exact i2 _ _ (by simp) h
  .simp only[AU,List.cons_append] at h ⊢;exact i2 e S h1 h
 | .blk id::l=>by
  obtain⟨i1,i2⟩:=AL.cut_aux hn he l;refine⟨fun S h=>?_,fun e S h1 h=>?_⟩
  .simp only[AL,List.cons_append] at h ⊢;exact i1 S h
  .cases e with
   | normal=>exact absurd rfl h1
   | exit j =>
    simp only[AU,List.cons_append] at h ⊢;split
    .rename_i hj;rw[if_pos hj] at h;exact i1 S h
    .rename_i hj;rw[if_neg hj] at h;exact i2 _ S h1 h
   | _ =>
    simp only[AU,List.cons_append] at h ⊢;exact i2 _ S h1 h
theorem AL.cut{P:Program}{cx:Cx}{nt0:Nat}{K:Exit->AS->Prop}{l r:List CI}{S:AS}{y:Code}{α:Type}(T:α->AS)(inv:α->Prop)(h1:AL P cx nt0 (fun e S'=>match e with
   | .normal=>∃a,inv a/\Weaks cx nt0 S' (T a)
   | e=>AU P cx nt0 K (.c y::r) e S') l S)(h2:∀a,inv a->AL P cx nt0 K (.c y::r) (T a)):AL P cx nt0 K (l++.c y::r) S:=by
 refine(AL.cut_aux ?_ ?_ l).1 S h1
 .rintro S ⟨a,ha,hw⟩;exact AL.weak hw (h2 a ha)
 .intro e S hne h;cases e with
  | normal=>exact absurd rfl hne
  | _=>exact h
theorem AL.cutP{P:Program}{cx:Cx}{nt0:Nat}{K:Exit->AS->Prop}{l r:List CI}{S:AS}{y:Code}(T:AS)(p:Prop)(h1:AL P cx nt0 (fun e S'=>match e with
   | .normal=>p/\Weaks cx nt0 S' T
   | e=>AU P cx nt0 K (.c y::r) e S') l S)(h2:p->AL P cx nt0 K (.c y::r) T):AL P cx nt0 K (l++.c y::r) S:=by
 refine(AL.cut_aux ?_ ?_ l).1 S h1
 .rintro S ⟨ha,hw⟩;exact AL.weak hw (h2 ha)
 .intro e S hne h;cases e with
  | normal=>exact absurd rfl hne
  | _=>exact h
theorem nm_nil{s:ByteArray}:s.toList=[]↔s=⟨#[]⟩:=by
 have h:=seq_iff (a:=s) (b:=⟨#[]⟩);simpa using h
def wordsL:List ByteArray:=[⟨#[110,111,116]⟩,⟨#[69,88]⟩,⟨#[69,70]⟩,⟨#[69,71]⟩,⟨#[65,88]⟩,⟨#[65,70]⟩,⟨#[65,71]⟩,⟨#[69]⟩,⟨#[65]⟩,⟨#[85]⟩]
@[simp] theorem globA_words:globA 1=.cptr [strs wordsL] 0:=rfl
def kOk(k:Int):Bool:=decide (1<=k/\k<=12)
def kLo(k:Int):Int:=if k=1 then 0 else if k=3∨k=4∨k=8∨k=12 then 2 else if 1<=k/\k<=12 then 1 else 0
def kHi(k:Int):Int:=if k=1 then 0 else if k=3∨k=4 then 1073741824 else if k=8∨k=12 then 2 else if 1<=k/\k<=12 then 1 else 0
def arB(k:Int)(n:Nat):Bool:=if k=1 then decide (n=0) else if k=3∨k=4 then decide (2<=n) else if k=8∨k=12 then decide (n=2) else decide (1<=k/\k<=12/\n=1)
theorem kinds(k:Int):k=1∨k=2∨k=3∨k=4∨k=5∨k=6∨k=7∨k=8∨k=9∨k=10∨k=11∨k=12∨(k≠1/\k≠2/\k≠3/\k≠4/\k≠5/\k≠6/\k≠7/\k≠8/\k≠9/\k≠10/\k≠11/\k≠12):=by omega
theorem arB_iff(k:Int)(n:Nat)(hn:n<=1000000):arB k n=(kOk k&&decide (kLo k<=(n:Int))&&decide ((n:Int)<=kHi k)):=by
 rcases kinds k with h|h|h|h|h|h|h|h|h|h|h|h|h
 any_goals (subst h;rw[Bool.eq_iff_iff];simp[arB,kOk,kLo,kHi];try omega)
 obtain⟨h1,h2,h3,h4,h5,h6,h7,h8,h9,h10,h11,h12⟩:=h;have h0:¬(1<=k/\k<=12):=by omega
 rw[Bool.eq_iff_iff];simp[arB,kOk,kLo,kHi,h1,h3,h4,h8,h12,h0];omega
set_option maxRecDepth 100000 in
theorem kidsT_c(k:Int):DC 226 [I k] (.tup [I (kLo k),I (kHi k),B (kOk k)]):=by
 intro tok nt box nb;rcases kinds k with h|h|h|h|h|h|h|h|h|h|h|h|h
 any_goals subst h
 any_goals
  refine sI func226 ntmps226 fun Hb Ht=>?_
  try (simp)
  repeat (first|(refine sR ?_;simp)|(refine sC ?_;simp)|(refine sX ?_;simp only[AU,↓reduceIte]))
  refine sT (sH Hb Ht ?_);simp[kLo,kHi,kOk]
 obtain⟨h1,h2,h3,h4,h5,h6,h7,h8,h9,h10,h11,h12⟩:=h;have h0:¬(1<=k/\k<=12):=by omega
 have b1:(k==1)=false:=by simpa using h1
 have b2:(k==2)=false:=by simpa using h2
 have b3:(k==3)=false:=by simpa using h3
 have b4:(k==4)=false:=by simpa using h4
 have b5:(k==5)=false:=by simpa using h5
 have b6:(k==6)=false:=by simpa using h6
 have b7:(k==7)=false:=by simpa using h7
 have b8:(k==8)=false:=by simpa using h8
 have b9:(k==9)=false:=by simpa using h9
 have b10:(k==10)=false:=by simpa using h10
 have b11:(k==11)=false:=by simpa using h11
 have b12:(k==12)=false:=by simpa using h12
 refine sI func226 ntmps226 fun Hb Ht=>?_
 try (simp[h1,h2,h3,h4,h5,h6,h7,h8,h9,h10,h11,h12,b1,b2,b3,b4,b5,b6,b7,b8,b9,b10,b11,b12])
 repeat (first|(refine sR ?_;simp[h1,h2,h3,h4,h5,h6,h7,h8,h9,h10,h11,h12,b1,b2,b3,b4,b5,b6,b7,b8,b9,b10,b11,b12])|(refine sC ?_;simp[h1,h2,h3,h4,h5,h6,h7,h8,h9,h10,h11,h12,b1,b2,b3,b4,b5,b6,b7,b8,b9,b10,b11,b12])|(refine sX ?_;simp only[AU,↓reduceIte]))
 refine sT (sH Hb Ht ?_);simp[kLo,kHi,kOk,h1,h2,h3,h4,h5,h6,h7,h8,h9,h10,h11,h12,h0]
def fatB(s:ByteArray):Bool:=nameB s&&!memS wordsL s
def badF(k:Int)(s:ByteArray)(n:Nat):Bool:=!arB k n||(decide (s≠⟨#[]⟩)&&decide (k≠1))
mutual
def Fo.formE:Fo->Int
 | .mk k s c=>if badF k s c.length=true then 1 else if k=1/\fatB s=false then 2 else Fo.formL c
def Fo.formL:List Fo->Int
 | []=>0
 | x::r=>if Fo.formE x≠0 then Fo.formE x else Fo.formL r
end
theorem Fo.formE_eq(f:Fo):f.formE=if badF f.kind f.name f.kids.length=true then 1 else if f.kind=1/\fatB f.name=false then 2 else Fo.formL f.kids:=by
 cases f;rw[Fo.formE];rfl
theorem Fo.formL_take:∀{l:List Fo} {i:Nat} (h:i<l.length),(∀j,j<i->∀hj:j<l.length,l[j].formE=0)->Fo.formL l=if l[i].formE≠0 then l[i].formE else Fo.formL (l.drop (i+1))
 | x::r,0,h,_=>by rw[Fo.formL];rfl
 | x::r,i+1,h,h0=>by
  have h1:=h0 0 (by omega) (by simp);simp only[List.getElem_cons_zero] at h1;rw[Fo.formL,if_neg (by simp[h1]),Fo.formL_take (i:=i) (by simpa using h) (fun j hj hl=>h0 (j+1) (by omega) (Nat.succ_lt_succ hl))];rfl
theorem Fo.formL_none:∀{l:List Fo},(∀j (hj:j<l.length),l[j].formE=0)->Fo.formL l=0
 | [],_=>rfl
 | x::r,h=>by
  have h1:=h 0 (by simp);simp only[List.getElem_cons_zero] at h1;rw[Fo.formL,if_neg (by simp[h1])];exact Fo.formL_none fun j hj=>h (j+1) (Nat.succ_lt_succ hj)
inductive Fo.Sm:Fo->Prop
 | mk {f:Fo} (hn:f.name.size<=200000000000000) (hk:f.kids.length<=200000000000000) (h:∀x∈f.kids,Fo.Sm x):Fo.Sm f
theorem Fo.Sm.name{f:Fo}(h:f.Sm):f.name.size<=200000000000000:=by cases h;assumption
theorem Fo.Sm.len{f:Fo}(h:f.Sm):f.kids.length<=200000000000000:=by cases h;assumption
theorem Fo.Sm.kid{f:Fo}(h:f.Sm):∀x∈f.kids,Fo.Sm x:=by cases h;assumption
def stFoA(f:Fo)(nb:Nat)(box:Bxs)(tok:Tks)(nt:Nat):AS :=
 ⟨tl [(1,.ptr (nb+1) 0 0)],lb nb box [(1,[f.row])],tok,nt⟩
def stFoT(f:Fo)(nb:Nat)(box:Bxs)(tok:Tks)(nt:Nat)(i:Nat):AS :=
 ⟨tl [(58,.d (fos f.kids)),(59,I f.kids.length),(60,I i),(1,.ptr (nb+1) 0 0)],lb nb box [(1,[f.row])],tok,nt⟩
set_option maxRecDepth 100000 in
theorem formT_c:∀(n:Nat) (f:Fo),f.size<n->f.size<=1000000->f.Sm->∀(tok:Tks) (nt:Nat),DCall prog 149 [f.av] tok nt (I f.formE) tok nt
 | 0,f,hn,_,_,tok,nt=>absurd hn (Nat.not_lt_zero _)
 | n+1,f,hn,hb,hs,tok,nt=>by
  intro box nb;have ih:=fun x (hx:x∈f.kids)=>formT_c n x (by have:=Fo.kid_size hx;omega) (by have:=Fo.kid_size hx;omega) (hs.kid x hx)
  have hkl:=f.kids_len;have hnm:=hs.name;have har:=arB_iff f.kind f.kids.length (by omega);obtain⟨R,hR⟩:∃R,f.formE=R:=⟨_,rfl⟩
  rw[hR];rw[f.formE_eq] at hR;refine sI func149 ntmps149 fun Hb Ht=>?_
  repeat first|simp|refine sR ?_
  refine sD (kidsT_c f.kind _ _) ?_;simp;refine sN ?_;refine AL.cutP (l:=[_,_]) (stFoA f nb box tok nt) (badF f.kind f.name f.kids.length=false) ?_ fun hbad=>?_
  .by_cases c1:kOk f.kind=true
   .by_cases c2:(f.kids.length:Int)<kLo f.kind
    .have e:arB f.kind f.kids.length=false:=by rw[har];simp;omega
     simp only[badF,e,Bool.not_false,Bool.true_or,↓reduceIte] at hR;subst hR;try (simp[c1,c2])
     repeat (first|(refine sR ?_;simp[c1,c2])|(refine sC ?_;simp[c1,c2])|(refine sX ?_;simp only[AU,↓reduceIte]))
     refine sT (sH Hb Ht ?_);simp
    .by_cases c3:kHi f.kind<(f.kids.length:Int)
     .have e:arB f.kind f.kids.length=false:=by rw[har];simp;omega
      simp only[badF,e,Bool.not_false,Bool.true_or,↓reduceIte] at hR;subst hR;try (simp[c1,c2,c3])
      repeat (first|(refine sR ?_;simp[c1,c2,c3])|(refine sC ?_;simp[c1,c2,c3])|(refine sX ?_;simp only[AU,↓reduceIte]))
      refine sT (sH Hb Ht ?_);simp
     .have e:arB f.kind f.kids.length=true:=by rw[har];simp[c1];omega
      by_cases c4:f.name=⟨#[]⟩
      .have hs':=nm_nil.2 c4
       have hb:badF f.kind f.name f.kids.length=false:=by unfold badF;rw[e];simp[c4]
       try (simp[c1,c2,c3,hs'])
       repeat (first|(refine sR ?_;simp[c1,c2,c3,hs'])|(refine sC ?_;simp[c1,c2,c3,hs'])|(refine sX ?_;simp only[AU,↓reduceIte]))
       refine sE ?_;exact⟨hb,wkA⟩
      .have hs':f.name.toList.isEmpty=false:=by simpa using fun h=>c4 (nm_nil.1 h)
       have hs2:¬f.name.toList=[]:=fun h=>c4 (nm_nil.1 h)
       by_cases c5:f.kind=1
       .have hb:badF f.kind f.name f.kids.length=false:=by unfold badF;rw[e];simp[c5]
        have b5:(f.kind != 1)=false:=by simp[c5]
        try (simp[c1,c2,c3,hs',hs2,b5])
        repeat (first|(refine sR ?_;simp[c1,c2,c3,hs',hs2,b5])|(refine sC ?_;simp[c1,c2,c3,hs',hs2,b5])|(refine sX ?_;simp only[AU,↓reduceIte]))
        refine sE ?_;exact⟨hb,wkA⟩
       .have b5:(f.kind != 1)=true:=by simpa using c5
        have hb:badF f.kind f.name f.kids.length=true:=by unfold badF;rw[e];simp[c4,c5]
        simp only[hb,↓reduceIte] at hR;subst hR;try (simp[c1,c2,c3,hs',hs2,b5])
        repeat (first|(refine sR ?_;simp[c1,c2,c3,hs',hs2,b5])|(refine sC ?_;simp[c1,c2,c3,hs',hs2,b5])|(refine sX ?_;simp only[AU,↓reduceIte]))
        refine sT (sH Hb Ht ?_);simp
   .have e:arB f.kind f.kids.length=false:=by rw[har];simp[c1]
    have c1':kOk f.kind=false:=by simpa using c1
    simp only[badF,e,Bool.not_false,Bool.true_or,↓reduceIte] at hR;subst hR;try (simp[c1'])
    repeat (first|(refine sR ?_;simp[c1'])|(refine sC ?_;simp[c1'])|(refine sX ?_;simp only[AU,↓reduceIte]))
    refine sT (sH Hb Ht ?_);simp
  .simp only[hbad,Bool.false_eq_true,↓reduceIte] at hR;simp only[stFoA];refine sN ?_;refine AL.cutP (l:=[_,_]) (stFoA f nb box tok nt) (¬(f.kind=1/\fatB f.name=false)) ?_ fun hat=>?_
   .by_cases c5:f.kind=1
    .have b5:(f.kind==1)=true:=by simpa using c5
     cases hn:nameB f.name
     .have ha:fatB f.name=false:=by simp[fatB,hn]
      rw[if_pos ⟨c5,ha⟩] at hR;subst hR;try (simp[b5])
      repeat (first|(refine sR ?_;simp[b5])|(refine sC ?_;simp[b5])|(refine sX ?_;simp only[AU,↓reduceIte]))
      refine sD (isName_c f.name hnm _ _) ?_;simp;try (simp[b5,hn])
      repeat (first|(refine sR ?_;simp[b5,hn])|(refine sC ?_;simp[b5,hn])|(refine sX ?_;simp only[AU,↓reduceIte]))
      refine sT (sH Hb Ht ?_);simp
     .cases hm:memS wordsL f.name
      .have ha:fatB f.name=true:=by simp[fatB,hn,hm]
       try (simp[b5])
       repeat (first|(refine sR ?_;simp[b5])|(refine sC ?_;simp[b5])|(refine sX ?_;simp only[AU,↓reduceIte]))
       refine sD (isName_c f.name hnm _ _) ?_;simp;try (simp[b5,hn])
       repeat (first|(refine sR ?_;simp[b5,hn])|(refine sC ?_;simp[b5,hn])|(refine sX ?_;simp only[AU,↓reduceIte]))
       refine sD (containsS_c wordsL f.name (by decide) _ _) ?_;simp;try (simp[b5,hn,hm])
       repeat (first|(refine sR ?_;simp[b5,hn,hm])|(refine sC ?_;simp[b5,hn,hm])|(refine sX ?_;simp only[AU,↓reduceIte]))
       refine sE ?_;exact⟨fun _=>ha,wkA⟩
      .have ha:fatB f.name=false:=by simp[fatB,hn,hm]
       rw[if_pos ⟨c5,ha⟩] at hR;subst hR;try (simp[b5])
       repeat (first|(refine sR ?_;simp[b5])|(refine sC ?_;simp[b5])|(refine sX ?_;simp only[AU,↓reduceIte]))
       refine sD (isName_c f.name hnm _ _) ?_;simp;try (simp[b5,hn])
       repeat (first|(refine sR ?_;simp[b5,hn])|(refine sC ?_;simp[b5,hn])|(refine sX ?_;simp only[AU,↓reduceIte]))
       refine sD (containsS_c wordsL f.name (by decide) _ _) ?_;simp;try (simp[b5,hn,hm])
       repeat (first|(refine sR ?_;simp[b5,hn,hm])|(refine sC ?_;simp[b5,hn,hm])|(refine sX ?_;simp only[AU,↓reduceIte]))
       refine sT (sH Hb Ht ?_);simp
    .have b5:(f.kind==1)=false:=by simpa using c5
     try (simp[b5])
     repeat (first|(refine sR ?_;simp[b5])|(refine sC ?_;simp[b5])|(refine sX ?_;simp only[AU,↓reduceIte]))
     refine sE ?_;exact⟨fun h=>absurd h c5,wkA⟩
   .rw[if_neg hat] at hR;simp only[stFoA];repeat first|simp|refine sR ?_
    refine sN ?_;refine sL (stFoT f nb box tok nt) (fun i=>i<=f.kids.length/\∀j,j<i->∀hj:j<f.kids.length,f.kids[j].formE=0) (fun i=>f.kids.length-i) 0 ⟨Nat.zero_le _,fun j hj=>absurd hj (Nat.not_lt_zero _)⟩ wkA ?_;rintro i S ⟨hi,h0⟩ hS;simp only[stFoT] at hS;subst hS;have hw:=sW (i:=i) (by omega);repeat first|simp|refine sR ?_|refine sC ?_
    refine⟨fun hlt=>?_,fun hge=>?_⟩
    .have ihx:=ih _ (List.getElem_mem hlt);have htake:=Fo.formL_take hlt h0;repeat first|simp[hlt,Fo.cells_eq]|refine sR ?_
     generalize hx:f.kids[i]=x at *;repeat first|simp|refine sR ?_
     refine sD (ihx _ _) ?_;simp;by_cases he:x.formE=0
     .try (simp[he,hw])
      repeat (first|(refine sR ?_;simp[he,hw])|(refine sC ?_;simp[he,hw])|(refine sX ?_;simp only[AU,↓reduceIte]))
      refine sE ?_;refine⟨i+1,⟨hlt,fun j hj hj2=>?_⟩,by omega,wkA⟩;rcases Nat.lt_or_ge j i with h|h
      .exact h0 j h hj2
      .have:j=i:=by omega
       subst this;rw[hx];exact he
     .have he':(x.formE != 0)=true:=by simpa using he
      rw[if_pos he] at htake;rw[htake] at hR;subst hR;try (simp[he,he'])
      repeat (first|(refine sR ?_;simp[he,he'])|(refine sC ?_;simp[he,he'])|(refine sX ?_;simp only[AU,↓reduceIte]))
      refine sT (sH Hb Ht ?_);simp
    .refine sX ?_;simp only[AU,↓reduceIte];have hz:Fo.formL f.kids=0:=Fo.formL_none fun j hj=>h0 j (by omega) hj
     rw[hz] at hR;subst hR;repeat first|simp|refine sR ?_
     refine sT (sH Hb Ht ?_);simp
def stWd(L:List ByteArray)(s:ByteArray)(nb:Nat)(box:Bxs)(tok:Tks)(nt:Nat)(i:Nat):AS :=
 ⟨tl [(4,I i),(3,.d (strs L)),(0,Sb s)],lb nb box [],tok,nt⟩
set_option maxRecDepth 100000 in
theorem word50_c(s:ByteArray):DC 228 [Sb s] (B (memS wordsL s)):=by
 intro tok nt box nb;refine sI func228 ntmps228 fun Hb Ht=>?_
 repeat first|simp|refine sR ?_
 refine⟨rfl,?_⟩;obtain⟨L,hL⟩:∃L,wordsL=L:=⟨_,rfl⟩
 have hlen:L.length=10:=by rw[<-hL];rfl
 rw[hL];repeat first|simp|refine sR ?_
 refine sN ?_;refine sL (stWd L s nb box tok nt) (fun i=>i<=L.length/\∀x∈L.take i,decide (s=x)=false) (fun i=>L.length-i) 0 ⟨Nat.zero_le _,by simp⟩ (wM (nr _) rfl (by rw[<-hL];simp[ToL,lk];exact .data) trivial) ?_;rintro i S ⟨hi,htk⟩ hS;simp only[stWd] at hS;subst hS;have hw:=sW (i:=i) (by omega);by_cases hlt:i<L.length
 .have hpx:decide (s=L[i])=true->memS L s=true:=fun he=>memS_iff.2 (by rw[of_decide_eq_true he];exact List.getElem_mem hlt)
  have hmore:decide (s=L[i])=false->∀x∈L.take (i+1),decide (s=x)=false:=fun he x hx=>by
   rw[List.take_succ_eq_append_getElem hlt] at hx;rcases List.mem_append.1 hx with hx|hx
   .exact htk x hx
   .simp at hx;rw[hx];exact he
  have hsq:(L[i].toList==s.toList)=decide (s=L[i]):=by rw[seq_dec,Bool.eq_iff_iff,decide_eq_true_eq,decide_eq_true_eq];exact eq_comm
  cases e:decide (s=L[i])
  .rw[e] at hsq;try (simp[hlt,hsq,hw])
   repeat (first|(refine sR ?_;simp[hlt,hsq,hw])|(refine sC ?_;simp[hlt,hsq,hw])|(refine sX ?_;simp only[AU,↓reduceIte]))
   refine sE ?_;exact⟨i+1,⟨hlt,by simpa using hmore e⟩,by omega,wM (nr _) rfl (by simp[ToL,lk]) trivial⟩
  .rw[e] at hsq;have h1:=hpx e;try (simp[hlt,hsq,hw])
   repeat (first|(refine sR ?_;simp[hlt,hsq,hw])|(refine sC ?_;simp[hlt,hsq,hw])|(refine sX ?_;simp only[AU,↓reduceIte]))
   refine sT (sH Hb Ht ?_);simp[h1]
 .have hn:memS L s=false:=by
   rw[List.take_of_length_le (by omega)] at htk;simpa[memS] using htk
  repeat first|simp[hlt]|refine sR ?_|refine sC ?_
  refine sX ?_;simp only[AU,↓reduceIte];repeat first|simp|refine sR ?_
  refine sT (sH Hb Ht ?_);simp[hn]
def kidB(k:Int)(n:Nat):Bool:=if k=1 then ((n:Int)==0) else if k=3∨k=4 then decide (2<=(n:Int)) else if k=8∨k=12 then ((n:Int)==2) else ((n:Int)==1)
theorem arB_kid(k:Int)(n:Nat):arB k n=(kOk k&&kidB k n):=by
 rcases kinds k with h|h|h|h|h|h|h|h|h|h|h|h|h
 any_goals (subst h;rw[Bool.eq_iff_iff];simp[arB,kOk,kidB];try omega)
 obtain⟨h1,h2,h3,h4,h5,h6,h7,h8,h9,h10,h11,h12⟩:=h;have h0:¬(1<=k/\k<=12):=by omega
 rw[Bool.eq_iff_iff];simp[arB,kOk,kidB,h1,h3,h4,h8,h12,h0];omega
set_option maxRecDepth 100000 in
theorem kids50_c(f:Fo)(hl:f.kids.length<=1000000):DC 227 [f.av] (B (kidB f.kind f.kids.length)):=by
 intro tok nt box nb;by_cases h1:f.kind=1
 .refine sI func227 ntmps227 fun Hb Ht=>?_
  try (simp[h1])
  repeat (first|(refine sR ?_;simp[h1])|(refine sC ?_;simp[h1])|(refine sX ?_;simp only[AU,↓reduceIte]))
  refine sT (sH Hb Ht ?_);simp[kidB,h1]
 .have b1:(f.kind==1)=false:=by simpa using h1
  by_cases h3:f.kind=3
  .refine sI func227 ntmps227 fun Hb Ht=>?_
   try (simp[h3])
   repeat (first|(refine sR ?_;simp[h3])|(refine sC ?_;simp[h3])|(refine sX ?_;simp only[AU,↓reduceIte]))
   refine sT (sH Hb Ht ?_);simp[kidB,h3]
  .have b3:(f.kind==3)=false:=by simpa using h3
   by_cases h4:f.kind=4
   .refine sI func227 ntmps227 fun Hb Ht=>?_
    try (simp[h4])
    repeat (first|(refine sR ?_;simp[h4])|(refine sC ?_;simp[h4])|(refine sX ?_;simp only[AU,↓reduceIte]))
    refine sT (sH Hb Ht ?_);simp[kidB,h4]
   .have b4:(f.kind==4)=false:=by simpa using h4
    by_cases h8:f.kind=8
    .refine sI func227 ntmps227 fun Hb Ht=>?_
     try (simp[h8])
     repeat (first|(refine sR ?_;simp[h8])|(refine sC ?_;simp[h8])|(refine sX ?_;simp only[AU,↓reduceIte]))
     refine sT (sH Hb Ht ?_);simp[kidB,h8]
    .have b8:(f.kind==8)=false:=by simpa using h8
     by_cases h12:f.kind=12
     .refine sI func227 ntmps227 fun Hb Ht=>?_
      try (simp[h12])
      repeat (first|(refine sR ?_;simp[h12])|(refine sC ?_;simp[h12])|(refine sX ?_;simp only[AU,↓reduceIte]))
      refine sT (sH Hb Ht ?_);simp[kidB,h12]
     .have b12:(f.kind==12)=false:=by simpa using h12
      refine sI func227 ntmps227 fun Hb Ht=>?_
      try (simp[b1,b3,b4,b8,b12,h1,h3,h4,h8,h12])
      repeat (first|(refine sR ?_;simp[b1,b3,b4,b8,b12,h1,h3,h4,h8,h12])|(refine sC ?_;simp[b1,b3,b4,b8,b12,h1,h3,h4,h8,h12])|(refine sX ?_;simp only[AU,↓reduceIte]))
      refine sT (sH Hb Ht ?_);simp[kidB,h1,h3,h4,h8,h12]
theorem leafK1_c(x:NT)(y:Int)(box:Bxs)(nb k:Nat)(tok:Tks)(nt:Nat)(h1:box k=some [[I y]]):
  ACalls prog 170 [x.av,.ptr k 0 0] ⟨box,nb,tok,nt⟩ fun v m=>v=B (x.par==y)/\m=⟨box,nb,tok,nt⟩:=by
 refine sI func170 ntmps170 fun Hb Ht=>?_
 have k1n:=key_lt Hb h1;repeat first|simp[lO k1n,h1]|refine sR ?_
 refine sT (sH Hb Ht ?_);simp
theorem leafK_c(t:Ty)(ht:t.nodes.length<=1000000)(k:Int):DC 101 [t.av,I k] (B (leafB t k)):=by
 intro tok nt box nb;obtain⟨p,hpp⟩:∃p:NT->Bool,(fun n=>n.par==k)=p:=⟨_,rfl⟩
 have h2:=fun y box nb q hbk=>leafK1_c y k box nb q tok nt hbk
 have hpy:∀y:NT,(y.par==k)=p y:=fun y=>by rw[<-hpp]
 simp only[hpy] at h2;unfold leafB;rw[hpp];refine sI func101 ntmps101 fun Hb Ht=>?_
 repeat first|simp|refine sR ?_
 refine Stop.of_b (containsFuncN_c t.nodes 170 [.ptr (nb+3) 0 0] p ht _ _ _ _ (fun c hc=>by rw[List.mem_singleton.1 hc];simp[lb_at]) (fun y hy box' nb' he=>h2 y box' nb' _ (he _ _ (by simp[lb_at])))) ?_;repeat first|simp|refine sR ?_
 refine sT (sH Hb Ht ?_);simp
theorem leavesK1_c(t:Ty)(ht:t.Fit)(g:Gr)(e:E)(h0:0<=e.fr/\e.fr<g.nodes.length)(h2:0<=e.to/\e.to<g.nodes.length)(box:Bxs)(nb k1 k2:Nat)(tok:Tks)(nt:Nat)(h1:box k1=some [[.d (nts t.nodes),.d (ets t.edges)]])(h3:box k2=some [[.d (ints g.nodes),.d (AM.edges g.edges)]]):
  ACalls prog 136 [.agg [I e.ty,I e.fr,I e.to],.ptr k1 0 0,.ptr k2 0 0] ⟨box,nb,tok,nt⟩ fun v m=>v=B (!lvE t g e)/\m=⟨box,nb,tok,nt⟩:=by
 obtain⟨ty,fr,to'⟩:=e;simp only at h0 h2;obtain⟨a,rfl⟩:=Int.eq_ofNat_of_zero_le h0.1;obtain⟨b,rfl⟩:=Int.eq_ofNat_of_zero_le h2.1;have ha:a<g.nodes.length:=by omega
 have hb:b<g.nodes.length:=by omega
 have hc:=fits_c4 t ht ty g.nodes[a] g.nodes[b];have hL:lvE t g ⟨ty,a,b⟩=fitB t ty g.nodes[a] g.nodes[b]:=by simp[lvE,ha,hb]
 rw[hL];generalize fitB t ty g.nodes[a] g.nodes[b]=R at *;refine sI func136 ntmps136 fun Hb Ht=>?_
 have k1n:=key_lt Hb h1;have k2n:=key_lt Hb h3;repeat first|simp[lO k1n,lO k2n,h1,h3,ha,hb]|refine sR ?_
 refine sD (hc _ _) ?_;repeat first|simp|refine sR ?_
 refine sT (sH Hb Ht ?_);simp
def stKv(t:Ty)(g:Gr)(nb:Nat)(box:Bxs)(tok:Tks)(nt:Nat)(i:Nat):AS :=
 ⟨tl [(10,I i),(9,I g.nodes.length),(8,.d (ints g.nodes)),(3,.ptr (nb+3) 0 0),(2,.ptr (nb+2) 0 0)],lb nb box [(3,[[.d (ints g.nodes),.d (AM.edges g.edges)]]),(2,[[.d (nts t.nodes),.d (ets t.edges)]])],tok,nt⟩
theorem leavesK_c(t:Ty)(ht:t.Fit)(g:Gr)(hg:g.Fit)(hv:∀e∈g.edges,0<=e.fr/\e.fr<g.nodes.length/\0<=e.to/\e.to<g.nodes.length):DC 67 [t.av,g.av] (B (lvsB t g)):=by
 intro tok nt box nb;have hgn:=hg.n;have hge:=hg.e;have htn:=ht.n;obtain⟨N,hN⟩:∃N,lvsB t g=N:=⟨_,rfl⟩
 rw[hN];unfold lvsB at hN;refine sI func67 ntmps67 fun Hb Ht=>?_
 repeat first|simp|refine sR ?_
 refine sN ?_;refine sL (stKv t g nb box tok nt) (fun i=>i<=g.nodes.length/\allP (lvN t) (g.nodes.take i)=true) (fun i=>g.nodes.length-i) 0 ⟨Nat.zero_le _,by simp[allP]⟩ wkA ?_;rintro i S' ⟨hi,hok⟩ hS;simp only[stKv] at hS;subst hS;have hw:=sW (i:=i) (by omega);repeat first|simp|refine sR ?_|refine sC ?_
 refine⟨fun hlt=>?_,fun hge=>?_⟩
 .have hno:=fun h=>all_no (p:=lvN t) hlt h
  have hyes:=fun h=>all_more (p:=lvN t) hlt hok h
  have hl:lvN t g.nodes[i]=if (t.nodes.length:Int)<=g.nodes[i] then false else leafB t g.nodes[i]:=rfl
  have hc:=leafK_c t (by omega) g.nodes[i];by_cases e1:(t.nodes.length:Int)<=g.nodes[i]
  .rw[if_pos e1] at hl;rw[hno hl,if_neg (by simp)] at hN;repeat first|simp[hlt,e1]|refine sR ?_
   refine sC ?_;simp[e1];repeat first|simp|refine sR ?_
   refine sT (sH Hb Ht ?_);simp[<-hN]
  .rw[if_neg e1] at hl;repeat first|simp[hlt,e1]|refine sR ?_
   refine sD (hc _ _) ?_;simp;cases e2:leafB t g.nodes[i]
   .rw[e2] at hl;rw[hno hl,if_neg (by simp)] at hN;repeat first|simp|refine sR ?_
    refine sC ?_;repeat first|simp|refine sR ?_
    refine sT (sH Hb Ht ?_);simp[<-hN]
   .rw[e2] at hl;repeat first|simp[hw]|refine sR ?_|refine sC ?_
    refine sE ?_;exact⟨i+1,⟨hlt,hyes hl⟩,by omega,wkA⟩
 .refine sX ?_;simp only[AU,↓reduceIte];have:i=g.nodes.length:=by omega
  subst this;rw[List.take_length] at hok;rw[if_pos hok] at hN;obtain⟨p,hpp⟩:∃p:E->Bool,(fun e=>!lvE t g e)=p:=⟨_,rfl⟩
  have h2:=fun y (hy:y∈g.edges) box nb k1 k2 hk1 hk2=>leavesK1_c t ht g y ⟨(hv y hy).1,(hv y hy).2.1⟩ ⟨(hv y hy).2.2.1,(hv y hy).2.2.2⟩ box nb k1 k2 tok nt hk1 hk2
  have hpy:∀y:E,(!lvE t g y)=p y:=fun y=>by rw[<-hpp]
  simp only[hpy] at h2;have hN2:(!anyB p g.edges)=N:=by
   rw[<-hN,<-hpp,allP,anyB,List.any_eq_not_all_not,Bool.not_not];simp
  repeat first|simp|refine sR ?_
  have hcap:∀c∈[AV.ptr (nb+2) 0 0,AV.ptr (nb+3) 0 0],OkIn (fun k=>(lb nb box [(3,[[.d (ints g.nodes),.d (AM.edges g.edges)]]),(2,[[.d (nts t.nodes),.d (ets t.edges)]])]) k≠none) (fun _=>True) c:=by
   intro c hc;simp only[List.mem_cons,List.not_mem_nil,or_false] at hc;rcases hc with h|h
   .rw[h];simp[lb_at]
   .rw[h];simp[lb_at]
  refine Stop.of_b (containsFuncE_c g.edges 136 [.ptr (nb+2) 0 0,.ptr (nb+3) 0 0] p hg.e _ _ _ _ hcap (fun y hy box' nb' he=>h2 y hy box' nb' _ _ (he _ _ (by simp[lb_at])) (he _ _ (by simp[lb_at])))) ?_;repeat first|simp|refine sR ?_
  refine sT (sH Hb Ht ?_);simp[<-hN2]
def stIX(xs:List Xt)(f:FuncId)(caps:List AV)(nb:Nat)(box:Bxs)(tok:Tks)(nt:Nat)(i:Nat):AS:=⟨tl [(0,.d (xts xs)),(1,.fn (.func f) caps),(7,I xs.length),(8,I i)],lb nb box [],tok,nt⟩
theorem indexFuncX_c(xs:List Xt)(f:FuncId)(caps:List AV)(p:Xt->Bool)(hx:xs.length<=1000000)(box:Bxs)(nb:Nat)(tok:Tks)(nt:Nat)(hc:∀c∈caps,OkIn (fun k=>box k≠none) (fun _=>True) c)(hf:∀x∈xs,∀box' nb',Ext box box'->ACalls prog f (x.av::caps) ⟨box',nb',tok,nt⟩ fun v m=>v=B (p x)/\m=⟨box',nb',tok,nt⟩):
  ACalls prog 138 [.d (xts xs),.fn (.func f) caps] ⟨box,nb,tok,nt⟩ fun v m=>v=I (if anyB p xs=true then (xs.findIdx p:Nat) else -1)/\m=⟨box,nb,tok,nt⟩:=by
 refine sI func138 ntmps138 fun Hb Ht=>?_
 repeat first|simp|refine sR ?_
 refine sN ?_;refine sL (stIX xs f caps nb box tok nt) (fun i=>i<=xs.length/\∀x∈xs.take i,p x=false) (fun i=>xs.length-i) 0 ⟨Nat.zero_le _,by simp⟩ (wM (nr _) rfl (by simp[ToL];exact .same (okFn hc Hb [] (by simp) rfl _)) trivial) ?_;rintro i S' ⟨hi,htk⟩ hS;simp only[stIX] at hS;subst hS;have hw:=sW (i:=i) (by omega);repeat first|simp|refine sR ?_|refine sC ?_
 refine⟨fun hlt=>?_,fun hge=>?_⟩
 .have hfx:=hf xs[i] (List.getElem_mem _);have hpx:p xs[i]=true->anyB p xs=true/\(xs.findIdx p=i):=fun he=>any_takeG hlt htk he
  have hmore:p xs[i]=false->∀x∈xs.take (i+1),p x=false:=fun he x hx=>by
   rw[List.take_succ_eq_append_getElem hlt] at hx;rcases List.mem_append.1 hx with hx|hx
   .exact htk x hx
   .simp at hx;rw[hx];exact he
  repeat first|simp[hlt]|refine sR ?_
  generalize xs[i]=x at *;refine Stop.of_b (hfx _ _ ((Ext.refl box).lb Hb [])) ?_;simp;cases he:p x
  .refine sC ?_;simp;repeat first|simp[hw]|refine sR ?_
   refine sE ?_;refine⟨i+1,⟨hlt,?_⟩,by omega,wM (nr _) rfl (by simp[ToL];exact .same (okFn hc Hb [] (by simp) rfl _)) trivial⟩;exact hmore he
  .obtain⟨h1,h2⟩:=hpx he;refine sC ?_;repeat first|simp|refine sR ?_
   refine sT (sH Hb Ht ?_);simp[h1,h2]
 .have hn:anyB p xs=false:=by
   rw[List.take_of_length_le hge] at htk;simpa[anyB] using htk
  refine sX ?_;simp only[AU,↓reduceIte];repeat first|simp|refine sR ?_
  refine sT (sH Hb Ht ?_);simp[hn]
theorem containsFuncX_c(xs:List Xt)(f:FuncId)(caps:List AV)(p:Xt->Bool)(hx:xs.length<=1000000)(box:Bxs)(nb:Nat)(tok:Tks)(nt:Nat)(hc:∀c∈caps,OkIn (fun k=>box k≠none) (fun _=>True) c)(hf:∀x∈xs,∀box' nb',Ext box box'->ACalls prog f (x.av::caps) ⟨box',nb',tok,nt⟩ fun v m=>v=B (p x)/\m=⟨box',nb',tok,nt⟩):
  ACalls prog 68 [.d (xts xs),.fn (.func f) caps] ⟨box,nb,tok,nt⟩ fun v m=>v=B (anyB p xs)/\m=⟨box,nb,tok,nt⟩:=by
 obtain⟨A,hany⟩:∃A,anyB p xs=A:=⟨_,rfl⟩
 have hi:=fun b nb' h1 h2=>indexFuncX_c xs f caps p hx b nb' tok nt h1 h2
 rw[hany];simp only[hany] at hi;refine sI func68 ntmps68 fun Hb Ht=>?_
 repeat first|simp|refine sR ?_
 refine Stop.of_b (hi (lb nb box []) _ (fun c h=>(hc c h).mono (fun k hk=>by rw[Hb];exact hk) fun _ h=>h) (fun x hx' box' nb' he=>hf x hx' box' nb' (by rw[Hb] at he;exact he))) ?_;simp;cases A
 .repeat first|simp|refine sR ?_
  refine sT (sH Hb Ht ?_);simp
 .have h0:(0:Int)<=(xs.findIdx p:Nat):=by omega
  repeat first|simp|refine sR ?_
  refine sT (sH Hb Ht ?_);simp[h0]
end Go.AM
