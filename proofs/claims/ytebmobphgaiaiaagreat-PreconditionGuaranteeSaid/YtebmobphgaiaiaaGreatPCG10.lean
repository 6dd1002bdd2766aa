/-
 Parts of the proof, as merged from many texts: a machine over data, what the functions compute, plain laws.
-/
import Derived.Test.YtebmobphgaiaiaaGreatPCG9
set_option linter.unusedSimpArgs false
set_option linter.unusedVariables false
namespace Go.AM
open Go Go.Proofs
open Go.Proofs.Tryz
def anyN(l:List NT)(s:ByteArray):Bool:=anyB (fun y=>decide (y.name=s)) l
theorem anyN_iff{l:List NT}{s:ByteArray}:anyN l s=true↔∃x∈l,x.name=s:=by simp[anyN,anyB]
theorem anyN_more{l:List NT}{i:Nat}{s:ByteArray}(hi:i<l.length)(h:anyN (l.take i) s=false)(hne:l[i].name≠s):anyN (l.take (i+1)) s=false:=by
 rw[<-Bool.not_eq_true,anyN_iff] at h ⊢;rintro⟨x,hx,he⟩;rw[List.take_succ_eq_append_getElem hi,List.mem_append,List.mem_singleton] at hx;rcases hx with hx|hx
 .exact h ⟨x,hx,he⟩
 .exact hne (by rw[<-hx];exact he)
theorem anyN_hit{l:List NT}{k i:Nat}{s:ByteArray}(hk:k<l.length)(hki:k<i)(he:l[k].name=s):anyN (l.take i) s=true :=
 anyN_iff.2 ⟨l[k],by rw[List.mem_take_iff_getElem];exact⟨k,by omega,rfl⟩,he⟩
def anyAt(l:List At)(s:ByteArray):Bool:=anyB (fun y=>decide (y.name=s)) l
theorem anyAt_iff{l:List At}{s:ByteArray}:anyAt l s=true↔∃x∈l,x.name=s:=by simp[anyAt,anyB]
theorem anyAt_more{l:List At}{i:Nat}{s:ByteArray}(hi:i<l.length)(h:anyAt (l.take i) s=false)(hne:l[i].name≠s):anyAt (l.take (i+1)) s=false:=by
 rw[<-Bool.not_eq_true,anyAt_iff] at h ⊢;rintro⟨x,hx,he⟩;rw[List.take_succ_eq_append_getElem hi,List.mem_append,List.mem_singleton] at hx;rcases hx with hx|hx
 .exact h ⟨x,hx,he⟩
 .exact hne (by rw[<-hx];exact he)
theorem anyAt_hit{l:List At}{k i:Nat}{s:ByteArray}(hk:k<l.length)(hki:k<i)(he:l[k].name=s):anyAt (l.take i) s=true :=
 anyAt_iff.2 ⟨l[k],by rw[List.mem_take_iff_getElem];exact⟨k,by omega,rfl⟩,he⟩
theorem attE_attS(x:At)(b:List At):attE x b=if nameB x.name=false then 2 else if anyAt b x.name=true then 5 else attS x:=rfl
def stNr1(t:Ty)(i:Nat)(n:NT)(nb:Nat)(box:Bxs)(tok:Tks)(nt:Nat)(k:Nat):AS:=⟨tl [(6,I k),(5,.ptr (nb+5) 0 0),(2,.ptr (nb+2) 0 0),(1,I i)],lb nb box [(5,[n.row]),(2,[[.d (nts t.nodes),.d (ets t.edges)]])],tok,nt⟩
def stNr2(L:List At)(nb:Nat)(box:Bxs)(tok:Tks)(nt:Nat)(k:Nat):AS:=⟨tl [(8,I k),(7,.d (atts L))],lb nb box [],tok,nt⟩
def stNr3(L:List At)(k:Nat)(nb:Nat)(box:Bxs)(tok:Tks)(nt:Nat)(j:Nat):AS:=⟨tl [(9,I j),(8,I k),(7,.d (atts L))],lb nb box [],tok,nt⟩
theorem node04_c(t:Ty)(ht:t.Fit)(hM:∀i,(t.nd i).own.length<=1000)(i:Nat)(hi:i<t.nodes.length)(hp:∀j,j<i->(t.nd j).par<j):DC 176 [t.av,I i] (I (nodE t i)):=by
 intro tok nt box nb;have hnd:=nd_at hi;have hmem:=List.getElem_mem hi;have htn:=ht.n;have h1:=isName01_c (t.nd i).name (by rw[hnd];exact Nat.le_trans (ht.nn _ hmem) (by decide));obtain⟨N,hN⟩:∃N,nodE t i=N:=⟨_,rfl⟩
 rw[hN];unfold nodE at hN
 change (if nameB (t.nd i).name=false then (2:Int) else if anyN (t.nodes.take i) (t.nd i).name=true then 5 else _)=N at hN
 rw[hnd] at h1 hN;have hin:=in04_c t.nodes[i].par (-1) ((i:Int)-1);have hwi:IntKind.i64.wrap ((i:Int)-1)=(i:Int)-1:=by rw[wrap_in (by omega) (by omega)]
 cases e1:nameB t.nodes[i].name
 .rw[e1] at h1 hN;rw[if_pos rfl] at hN;refine sI func176 ntmps176 fun Hb Ht=>?_
  repeat first|simp[hi]|refine sR ?_
  refine sD (h1 _ _) ?_;repeat first|simp|refine sR ?_
  refine sC ?_;repeat first|simp|refine sR ?_
  refine sT (sH Hb Ht ?_);simp[<-hN]
 .rw[e1] at h1 hN;rw[if_neg (by simp)] at hN;refine sI func176 ntmps176 fun Hb Ht=>?_
  repeat first|simp[hi]|refine sR ?_
  refine sD (h1 _ _) ?_;repeat first|simp|refine sR ?_
  refine sC ?_;repeat first|simp|refine sR ?_
  refine sN ?_;refine sL (stNr1 t i t.nodes[i] nb box tok nt) (fun k=>k<=i/\anyN (t.nodes.take k) t.nodes[i].name=false) (fun k=>i-k) 0 ⟨Nat.zero_le _,rfl⟩ wkA ?_;rintro k S' ⟨hk,hm⟩ hS;simp only[stNr1] at hS;subst hS;have hwk:=sW (i:=k) (by omega);repeat first|simp|refine sR ?_|refine sC ?_
  refine⟨fun hlk=>?_,fun hge=>?_⟩
  .have hkl:k<t.nodes.length:=by omega
   by_cases e2:t.nodes[k].name=t.nodes[i].name
   .have b2:(t.nodes[k].name.toList==t.nodes[i].name.toList)=true:=by rw[seq_dec];simp[e2]
    rw[if_pos (anyN_hit hkl hlk e2)] at hN;repeat first|simp[hi,hkl,b2]|refine sR ?_
    refine sC ?_;simp[b2];repeat first|simp|refine sR ?_
    refine sT (sH Hb Ht ?_);simp[<-hN]
   .have b2:(t.nodes[k].name.toList==t.nodes[i].name.toList)=false:=by rw[seq_dec];simp[e2]
    repeat first|simp[hi,hkl,b2]|refine sR ?_
    refine sC ?_;simp[b2];repeat first|simp[hwk]|refine sR ?_
    refine sE ?_;exact⟨k+1,⟨hlk,anyN_more hkl hm e2⟩,by omega,wkA⟩
  .refine sX ?_;simp only[AU,↓reduceIte];have:k=i:=by omega
   subst this;rw[hm,if_neg (by simp)] at hN;by_cases e3:t.nodes[k].par < -1∨(k:Int)<=t.nodes[k].par
   .rw[if_pos e3] at hN;have b3:inZ t.nodes[k].par (-1) ((k:Int)-1)=false:=by simp only[inZ,decide_eq_false_iff_not];omega
    rw[b3] at hin;repeat first|simp[hi,hwi]|refine sR ?_
    refine sD (hin _ _) ?_;repeat first|simp|refine sR ?_
    refine sC ?_;repeat first|simp|refine sR ?_
    refine sT (sH Hb Ht ?_);simp[<-hN]
   .rw[if_neg e3] at hN;have b3:inZ t.nodes[k].par (-1) ((k:Int)-1)=true:=by simp only[inZ,decide_eq_true_eq];omega
    rw[b3] at hin;obtain⟨tok1,nt1,o1,hk,hc⟩:=attrs04_c t ht hM (k+1) k (Nat.lt_succ_self _) hi (fun j hj=>by
     by_cases e:j=k
     .subst e;rw[hnd];omega
     .exact hp j (by omega)) tok nt
    have hal:=atsL_len hM (k+1) k (Nat.lt_succ_self _);have haf:=atsL_fit ht (k+1) k (Nat.lt_succ_self _);have hml:=atsL_own (t:=t) (i:=k);rw[hnd] at hml;have hal2:(atsL t k).length<=1000000:=Nat.le_trans hal (by have:(k+1)*1000<=1000*1000:=Nat.mul_le_mul_right _ (by omega);omega)
    clear hal;generalize atsL t k=L at *;have hw0:IntKind.i64.wrap ((L.length:Int)-(t.nodes[k].own.length:Nat))=((L.length-t.nodes[k].own.length:Nat):Int):=by rw[wrap_in (by omega) (by omega)];omega
    have hz:=ownAt_zero L t.nodes[k].own.length (L.length-t.nodes[k].own.length) (by omega);unfold ownE at hN;obtain⟨f,hf⟩:∃f,ownAt L t.nodes[k].own.length=f:=⟨_,rfl⟩
    have hfk:∀j,(hk:j<L.length)->L.length-t.nodes[k].own.length<=j->f j=attE L[j] (L.take j):=fun j hk hge=>by
     rw[<-hf,ownAt,if_neg (by omega),at_getD hk]
    rw[hf] at hN hz;repeat first|simp[hi,hwi]|refine sR ?_
    refine sD (hin _ _) ?_;repeat first|simp[hi]|refine sR ?_|refine sC ?_
    refine sD (hc) ?_;simp;have hkk:=hk Ht;by_cases e5:4<t.nodes[k].own.length
    .have e5':(4:Int)<t.nodes[k].own.length:=by omega
     rw[if_pos e5] at hN;repeat first|simp[hi,e5,e5']|refine sR ?_
     refine sC ?_;simp[e5,e5'];repeat first|simp|refine sR ?_
     refine sT (sG Hb Ht hkk.old hkk.le ?_);simp[<-hN]
    .have e5':¬(4:Int)<t.nodes[k].own.length:=by omega
     rw[if_neg e5] at hN;by_cases e6:8<L.length
     .have e6':(8:Int)<L.length:=by omega
      rw[if_pos e6] at hN;repeat first|simp[hi,e5,e5',e6,e6']|refine sR ?_
      refine sC ?_;simp[e6,e6'];repeat first|simp|refine sR ?_
      refine sT (sG Hb Ht hkk.old hkk.le ?_);simp[<-hN]
     .have e6':¬(8:Int)<L.length:=by omega
      rw[if_neg e6] at hN;repeat first|simp[hi,e5,e5',e6,e6']|refine sR ?_
      refine sC ?_;simp[e6,e6'];repeat first|simp[hi,hw0]|refine sR ?_
      have hal3:L.length-t.nodes[k].own.length<=L.length:=Nat.sub_le _ _
      generalize L.length-t.nodes[k].own.length=a at *;refine sN ?_;refine sL (stNr2 L nb box tok1 nt1) (fun k=>a<=k/\k<=L.length/\firstE f k=0) (fun k=>L.length-k) a ⟨nr _,by omega,hz⟩ (wM (by have:=hkk.le;omega) rfl (by simp[ToL,lk,To.data]) trivial) ?_;rintro k S' ⟨hak,hkl,hok⟩ hS;simp only[stNr2] at hS;subst hS;have hw:=sW (i:=k) (by omega);repeat first|simp|refine sR ?_|refine sC ?_
      refine⟨fun hlt=>?_,fun hge=>?_⟩
      .have hA:=hfk k hlt hak;have hR:f k≠0->firstE f L.length=f k:=fun h0=>firstE_stop hok h0 L.length hlt
       have hnx:f k=0->firstE f (k+1)=0:=fun h0=>by simp only[firstE,hok,h0,↓reduceIte]
       generalize f k=E at *;rw[attE_attS] at hA;have hfx:=haf _ (List.getElem_mem hlt);have hn:=isName01_c L[k].name (Nat.le_trans hfx.n (by decide));have hc2:=attribute04_c L[k] hfx;repeat first|simp[hlt,atts_at hlt]|refine sR ?_
       refine sD (hn _ _) ?_;simp;cases f1:nameB L[k].name
       .rw[f1,if_pos rfl] at hA;repeat first|simp|refine sR ?_
        refine sC ?_;repeat first|simp|refine sR ?_
        refine sT (sG Hb Ht hkk.old hkk.le ?_);simp[<-hN,hR (by omega),hA]
       .rw[f1,if_neg (by simp)] at hA;repeat first|simp|refine sR ?_
        refine sC ?_;repeat first|simp|refine sR ?_
        refine sN ?_;refine sL (stNr3 L k nb box tok1 nt1) (fun j=>j<=k/\anyAt (L.take j) L[k].name=false) (fun j=>k-j) 0 ⟨Nat.zero_le _,rfl⟩ (wM (by have:=hkk.le;omega) rfl (by simp[ToL,lk]) trivial) ?_;rintro j S' ⟨hj,hm2⟩ hS;simp only[stNr3] at hS;subst hS;have hwj:=sW (i:=j) (by omega);repeat first|simp|refine sR ?_|refine sC ?_
        refine⟨fun hlj=>?_,fun hgj=>?_⟩
        .have hjl:j<L.length:=by omega
         by_cases f2:L[j].name=L[k].name
         .have b2:(L[j].name.toList==L[k].name.toList)=true:=by rw[seq_dec];simp[f2]
          rw[if_pos (anyAt_hit hjl hlj f2)] at hA;repeat first|simp[hlt,hjl,b2]|refine sR ?_
          refine sC ?_;simp[b2];repeat first|simp|refine sR ?_
          refine sT (sG Hb Ht hkk.old hkk.le ?_);simp[<-hN,hR (by omega),hA]
         .have b2:(L[j].name.toList==L[k].name.toList)=false:=by rw[seq_dec];simp[f2]
          repeat first|simp[hlt,hjl,b2]|refine sR ?_
          refine sC ?_;simp[b2];repeat first|simp[hwj]|refine sR ?_
          refine sE ?_;exact⟨j+1,⟨hlj,anyAt_more hjl hm2 f2⟩,by omega,wM (by have:=hkk.le;omega) rfl (by simp[ToL,lk]) trivial⟩
        .refine sX ?_;simp only[AU,↓reduceIte];have:j=k:=by omega
         subst this;rw[hm2,if_neg (by simp)] at hA;rw[<-hA] at hc2;repeat first|simp[hlt,atts_at hlt]|refine sR ?_
         refine sD (hc2 _ _) ?_;repeat first|simp|refine sR ?_
         by_cases e7:E=0
         .refine sC ?_;simp[e7];repeat first|simp[hw]|refine sR ?_
          refine sE ?_;exact⟨j+1,⟨by omega,hlt,hnx e7⟩,by omega,wM (by have:=hkk.le;omega) rfl (by simp[ToL,lk]) trivial⟩
         .have b7:(E !=0)=true:=by simp[e7]
          refine sC ?_;simp[e7,b7];repeat first|simp|refine sR ?_
          refine sT (sG Hb Ht hkk.old hkk.le ?_);simp[<-hN,hR e7]
      .refine sX ?_;simp only[AU,↓reduceIte];repeat first|simp|refine sR ?_
       have:k=L.length:=by omega
       subst this;refine sT (sG Hb Ht hkk.old hkk.le ?_);simp[<-hN,hok]
instance:Inhabited ET:=⟨⟨eB,0,0,0,0,0,0⟩⟩
def Ty.ed(t:Ty)(i:Nat):ET:=t.edges.getD i default
theorem ed_at{t:Ty}{i:Nat}(h:i<t.edges.length):t.ed i=t.edges[i]:=by simp[Ty.ed,h]
def anyE(l:List ET)(s:ByteArray):Bool:=anyB (fun y=>decide (y.name=s)) l
theorem anyE_iff{l:List ET}{s:ByteArray}:anyE l s=true↔∃x∈l,x.name=s:=by simp[anyE,anyB]
theorem anyE_more{l:List ET}{i:Nat}{s:ByteArray}(hi:i<l.length)(h:anyE (l.take i) s=false)(hne:l[i].name≠s):anyE (l.take (i+1)) s=false:=by
 rw[<-Bool.not_eq_true,anyE_iff] at h ⊢;rintro⟨x,hx,he⟩;rw[List.take_succ_eq_append_getElem hi,List.mem_append,List.mem_singleton] at hx;rcases hx with hx|hx
 .exact h ⟨x,hx,he⟩
 .exact hne (by rw[<-hx];exact he)
theorem anyE_hit{l:List ET}{k i:Nat}{s:ByteArray}(hk:k<l.length)(hki:k<i)(he:l[k].name=s):anyE (l.take i) s=true :=
 anyE_iff.2 ⟨l[k],by rw[List.mem_take_iff_getElem];exact⟨k,by omega,rfl⟩,he⟩
def edR(t:Ty)(x:ET):Int:=if insB t x.fr=false then 6 else if insB t x.to=false then 6 else if bndB x.ol x.oh=false then 6 else if bndB x.il x.ih=false then 6 else 0
def edgE(t:Ty)(i:Nat):Int :=
 if nameB (t.ed i).name=false then 2 else if anyE (t.edges.take i) (t.ed i).name=true then 5 else edR t (t.ed i)
set_option maxRecDepth 100000 in
theorem edge_c(t:Ty)(ht:t.Fit)(i:Nat)(hi:i<t.edges.length):DC 162 [t.av,I i] (I (edgE t i)):=by
 intro tok nt box nb;have hnd:=ed_at hi;have hmem:=List.getElem_mem hi;have hte:=ht.e;have h1:=isName_c (t.ed i).name (by rw[hnd];exact Nat.le_trans (ht.en _ hmem) (by decide));obtain⟨N,hN⟩:∃N,edgE t i=N:=⟨_,rfl⟩
 rw[hN];unfold edgE at hN;rw[hnd] at h1 hN;cases e1:nameB t.edges[i].name
 .rw[e1] at h1 hN;rw[if_pos rfl] at hN;refine sI func162 ntmps162 fun Hb Ht=>?_
  repeat first|simp[hi]|refine sR ?_
  refine sD (h1 _ _) ?_;repeat first|simp|refine sR ?_
  refine sC ?_;repeat first|simp|refine sR ?_
  refine sT (sH Hb Ht ?_);simp[<-hN]
 .rw[e1] at h1 hN;rw[if_neg (by simp)] at hN;unfold anyE at hN;obtain⟨p,hpp⟩:∃p:ET->Bool,(fun y=>decide (y.name=t.edges[i].name))=p:=⟨_,rfl⟩
  have h2:=fun y box nb k (hbk:box k=some [(t.edges[i]'hi).row])=>edge2_c (t.edges[i]'hi) y box nb k tok nt hbk
  have hpy:∀y:ET,decide (y.name=t.edges[i].name)=p y:=fun y=>by rw[<-hpp]
  simp only[hpy] at h2;rw[hpp] at hN;refine sI func162 ntmps162 fun Hb Ht=>?_
  repeat first|simp[hi]|refine sR ?_
  refine sD (h1 _ _) ?_;repeat first|simp[hi]|refine sR ?_|refine sC ?_
  try refine⟨by omega,?_⟩
  have hcf:=fun (b:Bxs) nb' h3 h4=>containsFuncE2_c (t.edges.take i) 227 [.ptr (nb+5) 0 0] p (by simp;have:=ht.e;omega) b nb' tok nt h3 h4
  rw[show ets (t.edges.take i)=.sl 7 (List.take i (t.edges.map ET.cells)) by rw[ets,List.map_take]] at hcf;refine Stop.of_b (hcf _ _ (fun c hc=>by rw[List.mem_singleton.1 hc];simp[lb_at]) (fun y hy box' nb' he=>h2 y box' nb' _ (he _ _ (by simp[lb_at])))) ?_;simp;cases e2:anyB p (t.edges.take i)
  .rw[e2,if_neg (by simp)] at hN;unfold edR at hN;have b1:=bounded_c t.edges[i].ol t.edges[i].oh;have b2:=bounded_c t.edges[i].il t.edges[i].ih;refine sC ?_;repeat first|simp|refine sR ?_
   refine Stop.of_b (edge1_c t t.edges[i].fr _ _ (nb+2) _ _ (by simp[lb_at])) ?_;simp;cases g1:insB t t.edges[i].fr
   .rw[g1,if_pos rfl] at hN;repeat first|simp|refine sR ?_
    refine sC ?_;repeat first|simp|refine sR ?_
    refine sC ?_;repeat first|simp|refine sR ?_
    refine sT (sH Hb Ht ?_);simp[<-hN]
   .rw[g1,if_neg (by simp)] at hN;repeat first|simp|refine sR ?_
    refine Stop.of_b (edge1_c t t.edges[i].to _ _ (nb+2) _ _ (by simp[lb_at])) ?_;simp;cases g2:insB t t.edges[i].to
    .rw[g2,if_pos rfl] at hN;repeat first|simp|refine sR ?_
     refine sC ?_;repeat first|simp|refine sR ?_
     refine sC ?_;repeat first|simp|refine sR ?_
     refine sT (sH Hb Ht ?_);simp[<-hN]
    .rw[g2,if_neg (by simp)] at hN;repeat first|simp|refine sR ?_
     refine sC ?_;repeat first|simp|refine sR ?_
     refine sD (b1 _ _) ?_;simp;cases g3:bndB t.edges[i].ol t.edges[i].oh
     .rw[g3,if_pos rfl] at hN;repeat first|simp|refine sR ?_
      refine sC ?_;repeat first|simp|refine sR ?_
      refine sT (sH Hb Ht ?_);simp[<-hN]
     .rw[g3,if_neg (by simp)] at hN;repeat first|simp|refine sR ?_
      refine sD (b2 _ _) ?_;simp;cases g4:bndB t.edges[i].il t.edges[i].ih
      .rw[g4,if_pos rfl] at hN;repeat first|simp|refine sR ?_
       refine sC ?_;repeat first|simp|refine sR ?_
       refine sT (sH Hb Ht ?_);simp[<-hN]
      .rw[g4,if_neg (by simp)] at hN;repeat first|simp|refine sR ?_
       refine sC ?_;repeat first|simp|refine sR ?_
       refine sT (sH Hb Ht ?_);simp[<-hN]
  .rw[e2,if_pos rfl] at hN;refine sC ?_;repeat first|simp|refine sR ?_
   refine sT (sH Hb Ht ?_);simp[<-hN]
def stEr(t:Ty)(i:Nat)(x:ET)(nb:Nat)(box:Bxs)(tok:Tks)(nt:Nat)(k:Nat):AS:=⟨tl [(6,I k),(5,.ptr (nb+5) 0 0),(2,.ptr (nb+2) 0 0),(1,I i)],lb nb box [(5,[x.row]),(2,[[.d (nts t.nodes),.d (ets t.edges)]])],tok,nt⟩
theorem edge04_c(t:Ty)(ht:t.Fit)(i:Nat)(hi:i<t.edges.length):DC 177 [t.av,I i] (I (edgE t i)):=by
 intro tok nt box nb;have hnd:=ed_at hi;have hmem:=List.getElem_mem hi;have hte:=ht.e;have htn:=ht.n;have h1:=isName01_c (t.ed i).name (by rw[hnd];exact Nat.le_trans (ht.en _ hmem) (by decide));obtain⟨N,hN⟩:∃N,edgE t i=N:=⟨_,rfl⟩
 rw[hN];unfold edgE at hN;rw[hnd] at h1 hN;have i1:=in04_c t.edges[i].fr 0 ((t.nodes.length:Int)-1);have i2:=in04_c t.edges[i].to 0 ((t.nodes.length:Int)-1);have b1:=bound04_c t.edges[i].ol t.edges[i].oh;have b2:=bound04_c t.edges[i].il t.edges[i].ih;have hins:∀n:Int,inZ n 0 ((t.nodes.length:Int)-1)=insB t n:=fun n=>by simp only[inZ,insB];congr 1;simp only[eq_iff_iff];omega
 rw[hins] at i1 i2;have hw0:IntKind.i64.wrap ((t.nodes.length:Int)-1)=(t.nodes.length:Int)-1:=by rw[wrap_in (by omega) (by omega)]
 cases e1:nameB t.edges[i].name
 .rw[e1] at h1 hN;rw[if_pos rfl] at hN;refine sI func177 ntmps177 fun Hb Ht=>?_
  repeat first|simp[hi]|refine sR ?_
  refine sD (h1 _ _) ?_;repeat first|simp|refine sR ?_
  refine sC ?_;repeat first|simp|refine sR ?_
  refine sT (sH Hb Ht ?_);simp[<-hN]
 .rw[e1] at h1 hN;rw[if_neg (by simp)] at hN;refine sI func177 ntmps177 fun Hb Ht=>?_
  repeat first|simp[hi]|refine sR ?_
  refine sD (h1 _ _) ?_;repeat first|simp|refine sR ?_
  refine sC ?_;repeat first|simp|refine sR ?_
  refine sN ?_;refine sL (stEr t i t.edges[i] nb box tok nt) (fun k=>k<=i/\anyE (t.edges.take k) t.edges[i].name=false) (fun k=>i-k) 0 ⟨Nat.zero_le _,rfl⟩ wkA ?_;rintro k S' ⟨hk,hm⟩ hS;simp only[stEr] at hS;subst hS;have hwk:=sW (i:=k) (by omega);repeat first|simp|refine sR ?_|refine sC ?_
  refine⟨fun hlk=>?_,fun hge=>?_⟩
  .have hkl:k<t.edges.length:=by omega
   by_cases e2:t.edges[k].name=t.edges[i].name
   .have b2:(t.edges[k].name.toList==t.edges[i].name.toList)=true:=by rw[seq_dec];simp[e2]
    rw[if_pos (anyE_hit hkl hlk e2)] at hN;repeat first|simp[hi,hkl,b2]|refine sR ?_
    refine sC ?_;simp[b2];repeat first|simp|refine sR ?_
    refine sT (sH Hb Ht ?_);simp[<-hN]
   .have b2:(t.edges[k].name.toList==t.edges[i].name.toList)=false:=by rw[seq_dec];simp[e2]
    repeat first|simp[hi,hkl,b2]|refine sR ?_
    refine sC ?_;simp[b2];repeat first|simp[hwk]|refine sR ?_
    refine sE ?_;exact⟨k+1,⟨hlk,anyE_more hkl hm e2⟩,by omega,wkA⟩
  .refine sX ?_;simp only[AU,↓reduceIte];have:k=i:=by omega
   subst this;rw[hm,if_neg (by simp)] at hN;unfold edR at hN;repeat first|simp[hi,hw0]|refine sR ?_
   refine sD (i1 _ _) ?_;simp;cases g1:insB t t.edges[k].fr
   .rw[g1,if_pos rfl] at hN;repeat first|simp|refine sR ?_
    refine sC ?_;repeat first|simp|refine sR ?_
    refine sT (sH Hb Ht ?_);simp[<-hN]
   .rw[g1,if_neg (by simp)] at hN;repeat first|simp|refine sR ?_
    refine sD (i2 _ _) ?_;simp;cases g2:insB t t.edges[k].to
    .rw[g2,if_pos rfl] at hN;repeat first|simp|refine sR ?_
     refine sC ?_;repeat first|simp|refine sR ?_
     refine sT (sH Hb Ht ?_);simp[<-hN]
    .rw[g2,if_neg (by simp)] at hN;repeat first|simp|refine sR ?_
     refine sD (b1 _ _) ?_;simp;cases g3:bndB t.edges[k].ol t.edges[k].oh
     .rw[g3,if_pos rfl] at hN;repeat first|simp|refine sR ?_
      refine sC ?_;repeat first|simp|refine sR ?_
      refine sT (sH Hb Ht ?_);simp[<-hN]
     .rw[g3,if_neg (by simp)] at hN;repeat first|simp|refine sR ?_
      refine sD (b2 _ _) ?_;simp;cases g4:bndB t.edges[k].il t.edges[k].ih
      .rw[g4,if_pos rfl] at hN;repeat first|simp|refine sR ?_
       refine sC ?_;repeat first|simp|refine sR ?_
       refine sT (sH Hb Ht ?_);simp[<-hN]
      .rw[g4,if_neg (by simp)] at hN;repeat first|simp|refine sR ?_
       refine sC ?_;repeat first|simp|refine sR ?_
       refine sT (sH Hb Ht ?_);simp[<-hN]
def firstN(f:Nat->Int)(g:Nat->ByteArray):Nat->ByteArray
 | 0=>eB
 | n+1=>if firstE f n=0 then (if f n=0 then eB else g n) else firstN f g n
theorem firstN_stop{f:Nat->Int}{g:Nat->ByteArray}{i:Nat}(h0:firstE f i=0)(h:f i≠0):∀n,i<n->firstN f g n=g i
 | 0,hi=>absurd hi (Nat.not_lt_zero _)
 | n+1,hi=>by
  simp only[firstN];by_cases e:i=n
  .subst e;rw[if_pos h0,if_neg h]
  .have:=firstE_stop h0 h n (by omega)
   rw[if_neg (by rw[this];exact h),firstN_stop h0 h n (by omega)]
theorem firstN_none{f:Nat->Int}{g:Nat->ByteArray}:∀n,firstE f n=0->firstN f g n=eB
 | 0,_=>rfl
 | n+1,h=>by
  simp only[firstE] at h;split at h
  .rename_i h1;rw[firstN,if_pos h1,if_pos h]
  .rename_i h1;exact absurd h h1
def tyE(t:Ty):Int :=
 if t.nodes.length=0 then 7 else if 12<t.nodes.length then 3 else if 20<t.edges.length then 3
 else if firstE (nodE t) t.nodes.length≠0 then firstE (nodE t) t.nodes.length else firstE (edgE t) t.edges.length
def tyN(t:Ty):ByteArray :=
 if t.nodes.length=0 then eB else if 12<t.nodes.length then eB else if 20<t.edges.length then eB
 else if firstE (nodE t) t.nodes.length≠0 then firstN (nodE t) (fun i=>(t.nd i).name) t.nodes.length else firstN (edgE t) (fun i=>(t.ed i).name) t.edges.length
theorem nodE_par{t:Ty}{i:Nat}(h:nodE t i=0):(t.nd i).par<i:=by
 unfold nodE at h;split at h
 .cases h
 .split at h
  .cases h
  .split at h
   .cases h
   .omega
theorem firstE_allZ{f:Nat->Int}:∀n,firstE f n=0->∀i,i<n->f i=0
 | 0,_,i,hi=>absurd hi (Nat.not_lt_zero _)
 | n+1,h,i,hi=>by
  simp only[firstE] at h;split at h
  .rename_i h1;by_cases e:i=n
   .subst e;exact h
   .exact firstE_allZ n h1 i (by omega)
  .rename_i h1;exact absurd h h1
def stV4n(t:Ty)(nb:Nat)(box:Bxs)(tok:Tks)(nt:Nat)(i:Nat):AS:=⟨tl [(4,I i),(1,.ptr (nb+1) 0 0)],lb nb box [(1,[[.d (nts t.nodes),.d (ets t.edges)]])],tok,nt⟩
def stV4e(t:Ty)(nb:Nat)(box:Bxs)(tok:Tks)(nt:Nat)(i:Nat):AS:=⟨tl [(6,I i),(1,.ptr (nb+1) 0 0)],lb nb box [(1,[[.d (nts t.nodes),.d (ets t.edges)]])],tok,nt⟩
theorem valid04_c(t:Ty)(ht:t.Fit)(hM:∀i,(t.nd i).own.length<=1000):DC 94 [t.av] (.tup [Sb (tyN t),I (tyE t)]):=by
 intro tok nt box nb;have htn:=ht.n;have hte:=ht.e;obtain⟨N,hN⟩:∃N,tyE t=N:=⟨_,rfl⟩
 obtain⟨Z,hZ⟩:∃Z,tyN t=Z:=⟨_,rfl⟩
 rw[hN,hZ];unfold tyE at hN;unfold tyN at hZ;by_cases e1:t.nodes.length=0
 .have e1':t.nodes=[]:=List.length_eq_zero_iff.1 e1
  rw[if_pos e1] at hN hZ;refine sI func94 ntmps94 fun Hb Ht=>?_
  repeat first|simp[e1']|refine sR ?_|refine sC ?_
  refine sT (sH Hb Ht ?_);simp[<-hN,<-hZ]
 .have e1':¬t.nodes=[]:=fun h=>e1 (by rw[h];rfl)
  rw[if_neg e1] at hN hZ;by_cases e2:12<t.nodes.length
  .have e2':(12:Int)<t.nodes.length:=by omega
   rw[if_pos e2] at hN hZ;refine sI func94 ntmps94 fun Hb Ht=>?_
   repeat first|simp[e1',e2,e2']|refine sR ?_
   refine sC ?_;simp[e1',e2,e2'];repeat first|simp[e2,e2']|refine sR ?_|refine sC ?_
   refine sT (sH Hb Ht ?_);simp[<-hN,<-hZ]
  .have e2':¬(12:Int)<t.nodes.length:=by omega
   rw[if_neg e2] at hN hZ;by_cases e3:20<t.edges.length
   .have e3':(20:Int)<t.edges.length:=by omega
    rw[if_pos e3] at hN hZ;refine sI func94 ntmps94 fun Hb Ht=>?_
    repeat first|simp[e1',e2,e2',e3,e3']|refine sR ?_
    refine sC ?_;simp[e1',e2,e2'];repeat first|simp[e2,e2',e3,e3']|refine sR ?_|refine sC ?_
    refine sT (sH Hb Ht ?_);simp[<-hN,<-hZ]
   .have e3':¬(20:Int)<t.edges.length:=by omega
    rw[if_neg e3] at hN hZ;refine sI func94 ntmps94 fun Hb Ht=>?_
    repeat first|simp[e1',e2,e2',e3,e3']|refine sR ?_
    refine sC ?_;simp[e1',e2,e2'];repeat first|simp[e2,e2',e3,e3']|refine sR ?_|refine sC ?_
    refine sN ?_;refine sL (stV4n t nb box tok nt) (fun i=>i<=t.nodes.length/\firstE (nodE t) i=0) (fun i=>t.nodes.length-i) 0 ⟨Nat.zero_le _,rfl⟩ wkA ?_;rintro i S' ⟨hi,hok⟩ hS;simp only[stV4n] at hS;subst hS;have hw:=sW (i:=i) (by omega);repeat first|simp|refine sR ?_|refine sC ?_
    refine⟨fun hlt=>?_,fun hge=>?_⟩
    .have hc:=node04_c t ht hM i hlt (fun j hj=>nodE_par (firstE_allZ i hok j hj));have hR:nodE t i≠0->firstE (nodE t) t.nodes.length=nodE t i:=fun h0=>firstE_stop hok h0 _ hlt
     have hR2:nodE t i≠0->firstN (nodE t) (fun i=>(t.nd i).name) t.nodes.length=t.nodes[i].name:=fun h0=>by rw[firstN_stop hok h0 _ hlt,nd_at hlt]
     have hnx:nodE t i=0->firstE (nodE t) (i+1)=0:=fun h0=>by simp only[firstE,hok,h0,↓reduceIte]
     generalize nodE t i=E at *;repeat first|simp[hlt]|refine sR ?_
     refine sD (hc _ _) ?_;repeat first|simp|refine sR ?_
     by_cases e7:E=0
     .refine sC ?_;simp[e7];repeat first|simp[hw]|refine sR ?_
      refine sE ?_;exact⟨i+1,⟨hlt,hnx e7⟩,by omega,wkA⟩
     .have b7:(E !=0)=true:=by simp[e7]
      rw[hR e7,if_pos e7] at hN hZ;rw[hR2 e7] at hZ;refine sC ?_;simp[e7,b7];repeat first|simp[hlt]|refine sR ?_
      refine sT (sH Hb Ht ?_);simp[<-hN,<-hZ]
    .refine sX ?_;simp only[AU,↓reduceIte];have:i=t.nodes.length:=by omega
     subst this;rw[if_neg (by rw[hok];simp)] at hN hZ;repeat first|simp|refine sR ?_
     refine sN ?_;refine sL (stV4e t nb box tok nt) (fun i=>i<=t.edges.length/\firstE (edgE t) i=0) (fun i=>t.edges.length-i) 0 ⟨Nat.zero_le _,rfl⟩ wkA ?_;rintro i S' ⟨hi,hok2⟩ hS;simp only[stV4e] at hS;subst hS;have hw:=sW (i:=i) (by omega);repeat first|simp|refine sR ?_|refine sC ?_
     refine⟨fun hlt=>?_,fun hge=>?_⟩
     .have hc:=edge04_c t ht i hlt;have hR:edgE t i≠0->firstE (edgE t) t.edges.length=edgE t i:=fun h0=>firstE_stop hok2 h0 _ hlt
      have hR2:edgE t i≠0->firstN (edgE t) (fun i=>(t.ed i).name) t.edges.length=t.edges[i].name:=fun h0=>by rw[firstN_stop hok2 h0 _ hlt,ed_at hlt]
      have hnx:edgE t i=0->firstE (edgE t) (i+1)=0:=fun h0=>by simp only[firstE,hok2,h0,↓reduceIte]
      generalize edgE t i=E at *;repeat first|simp[hlt]|refine sR ?_
      refine sD (hc _ _) ?_;repeat first|simp|refine sR ?_
      by_cases e7:E=0
      .refine sC ?_;simp[e7];repeat first|simp[hw]|refine sR ?_
       refine sE ?_;exact⟨i+1,⟨hlt,hnx e7⟩,by omega,wkA⟩
      .have b7:(E !=0)=true:=by simp[e7]
       rw[hR e7] at hN;rw[hR2 e7] at hZ;refine sC ?_;simp[e7,b7];repeat first|simp[hlt]|refine sR ?_
       refine sT (sH Hb Ht ?_);simp[<-hN,<-hZ]
     .refine sX ?_;simp only[AU,↓reduceIte];have:i=t.edges.length:=by omega
      subst this;rw[hok2] at hN;rw[firstN_none _ hok2] at hZ;repeat first|simp|refine sR ?_
      refine sT (sH Hb Ht ?_);simp[<-hN,<-hZ]
def stVn(t:Ty)(nb:Nat)(box:Bxs)(tok:Tks)(nt:Nat)(i:Nat):AS:=⟨tl [(29,I i),(28,I t.nodes.length),(27,.d (nts t.nodes)),(1,.ptr (nb+1) 0 0)],lb nb box [(1,[[.d (nts t.nodes),.d (ets t.edges)]])],tok,nt⟩
def stVe(t:Ty)(nb:Nat)(box:Bxs)(tok:Tks)(nt:Nat)(i:Nat):AS:=⟨tl [(46,I i),(45,I t.edges.length),(44,.d (ets t.edges)),(1,.ptr (nb+1) 0 0)],lb nb box [(1,[[.d (nts t.nodes),.d (ets t.edges)]])],tok,nt⟩
theorem valid_c4(t:Ty)(ht:t.Fit)(hM:∀i,(t.nd i).own.length<=1000):DC 88 [t.av] (.tup [Sb (tyN t),I (tyE t)]):=by
 intro tok nt box nb;have htn:=ht.n;have hte:=ht.e;obtain⟨N,hN⟩:∃N,tyE t=N:=⟨_,rfl⟩
 obtain⟨Z,hZ⟩:∃Z,tyN t=Z:=⟨_,rfl⟩
 rw[hN,hZ];unfold tyE at hN;unfold tyN at hZ;by_cases e1:t.nodes.length=0
 .have e1':t.nodes=[]:=List.length_eq_zero_iff.1 e1
  rw[if_pos e1] at hN hZ;refine sI func88 ntmps88 fun Hb Ht=>?_
  repeat first|simp[e1']|refine sR ?_|refine sC ?_
  refine sT (sH Hb Ht ?_);simp[<-hN,<-hZ]
 .have e1':¬t.nodes=[]:=fun h=>e1 (by rw[h];rfl)
  rw[if_neg e1] at hN hZ;by_cases e2:12<t.nodes.length
  .have e2':(12:Int)<t.nodes.length:=by omega
   rw[if_pos e2] at hN hZ;refine sI func88 ntmps88 fun Hb Ht=>?_
   repeat first|simp[e1',e2,e2']|refine sR ?_
   refine sC ?_;simp[e1',e2,e2'];repeat first|simp[e2,e2']|refine sR ?_|refine sC ?_
   refine sT (sH Hb Ht ?_);simp[<-hN,<-hZ]
  .have e2':¬(12:Int)<t.nodes.length:=by omega
   rw[if_neg e2] at hN hZ;by_cases e3:20<t.edges.length
   .have e3':(20:Int)<t.edges.length:=by omega
    rw[if_pos e3] at hN hZ;refine sI func88 ntmps88 fun Hb Ht=>?_
    repeat first|simp[e1',e2,e2',e3,e3']|refine sR ?_
    refine sC ?_;simp[e1',e2,e2'];repeat first|simp[e2,e2',e3,e3']|refine sR ?_|refine sC ?_
    refine sT (sH Hb Ht ?_);simp[<-hN,<-hZ]
   .have e3':¬(20:Int)<t.edges.length:=by omega
    rw[if_neg e3] at hN hZ;refine sI func88 ntmps88 fun Hb Ht=>?_
    repeat first|simp[e1',e2,e2',e3,e3']|refine sR ?_
    refine sC ?_;simp[e1',e2,e2'];repeat first|simp[e2,e2',e3,e3']|refine sR ?_|refine sC ?_
    refine sN ?_;refine sL (stVn t nb box tok nt) (fun i=>i<=t.nodes.length/\firstE (nodE t) i=0) (fun i=>t.nodes.length-i) 0 ⟨Nat.zero_le _,rfl⟩ wkA ?_;rintro i S' ⟨hi,hok⟩ hS;simp only[stVn] at hS;subst hS;have hw:=sW (i:=i) (by omega);repeat first|simp|refine sR ?_|refine sC ?_
    refine⟨fun hlt=>?_,fun hge=>?_⟩
    .have hc:=node_c t ht hM i hlt (fun j hj=>nodE_par (firstE_allZ i hok j hj));have hR:nodE t i≠0->firstE (nodE t) t.nodes.length=nodE t i:=fun h0=>firstE_stop hok h0 _ hlt
     have hR2:nodE t i≠0->firstN (nodE t) (fun i=>(t.nd i).name) t.nodes.length=t.nodes[i].name:=fun h0=>by rw[firstN_stop hok h0 _ hlt,nd_at hlt]
     have hnx:nodE t i=0->firstE (nodE t) (i+1)=0:=fun h0=>by simp only[firstE,hok,h0,↓reduceIte]
     generalize nodE t i=E at *;repeat first|simp[hlt]|refine sR ?_
     refine sD (hc _ _) ?_;repeat first|simp|refine sR ?_
     by_cases e7:E=0
     .refine sC ?_;simp[e7];repeat first|simp[hw]|refine sR ?_
      refine sE ?_;exact⟨i+1,⟨hlt,hnx e7⟩,by omega,wkA⟩
     .have b7:(E !=0)=true:=by simp[e7]
      rw[hR e7,if_pos e7] at hN hZ;rw[hR2 e7] at hZ;refine sC ?_;simp[e7,b7];repeat first|simp[hlt]|refine sR ?_
      refine sT (sH Hb Ht ?_);simp[<-hN,<-hZ]
    .refine sX ?_;simp only[AU,↓reduceIte];have:i=t.nodes.length:=by omega
     subst this;rw[if_neg (by rw[hok];simp)] at hN hZ;repeat first|simp|refine sR ?_
     refine sN ?_;refine sL (stVe t nb box tok nt) (fun i=>i<=t.edges.length/\firstE (edgE t) i=0) (fun i=>t.edges.length-i) 0 ⟨Nat.zero_le _,rfl⟩ wkA ?_;rintro i S' ⟨hi,hok2⟩ hS;simp only[stVe] at hS;subst hS;have hw:=sW (i:=i) (by omega);repeat first|simp|refine sR ?_|refine sC ?_
     refine⟨fun hlt=>?_,fun hge=>?_⟩
     .have hc:=edge_c t ht i hlt;have hR:edgE t i≠0->firstE (edgE t) t.edges.length=edgE t i:=fun h0=>firstE_stop hok2 h0 _ hlt
      have hR2:edgE t i≠0->firstN (edgE t) (fun i=>(t.ed i).name) t.edges.length=t.edges[i].name:=fun h0=>by rw[firstN_stop hok2 h0 _ hlt,ed_at hlt]
      have hnx:edgE t i=0->firstE (edgE t) (i+1)=0:=fun h0=>by simp only[firstE,hok2,h0,↓reduceIte]
      generalize edgE t i=E at *;repeat first|simp[hlt]|refine sR ?_
      refine sD (hc _ _) ?_;repeat first|simp|refine sR ?_
      by_cases e7:E=0
      .refine sC ?_;simp[e7];repeat first|simp[hw]|refine sR ?_
       refine sE ?_;exact⟨i+1,⟨hlt,hnx e7⟩,by omega,wkA⟩
      .have b7:(E !=0)=true:=by simp[e7]
       rw[hR e7] at hN;rw[hR2 e7] at hZ;refine sC ?_;simp[e7,b7];repeat first|simp[hlt]|refine sR ?_
       refine sT (sH Hb Ht ?_);simp[<-hN,<-hZ]
     .refine sX ?_;simp only[AU,↓reduceIte];have:i=t.edges.length:=by omega
      subst this;rw[hok2] at hN;rw[firstN_none _ hok2] at hZ;repeat first|simp|refine sR ?_
      refine sT (sH Hb Ht ?_);simp[<-hN,<-hZ]
structure Ru where
 name:ByteArray
 lg:Gr
 lsl:List Sl
 lv:Int
 lte:List Te
 rg:Gr
 rsl:List Sl
 rv:Int
 rte:List Te
 k:Mo
 i:Mo
 inj:Bool
 c:Cd
abbrev Ru.row(r:Ru):List AV:=[.d (.raw (.string r.name)),.d (ints r.lg.nodes),.d (AM.edges r.lg.edges),.d (slots r.lsl),I r.lv,.d (tests r.lte),.d (ints r.rg.nodes),.d (AM.edges r.rg.edges),.d (slots r.rsl),I r.rv,.d (tests r.rte),
 .d (ints r.k.nodes),.d (ints r.k.edges),.d (ints r.i.nodes),.d (ints r.i.edges),B r.inj,I r.c.kind,.d (conds r.c.kids),.d (ints r.c.m.nodes),.d (ints r.c.m.edges),.d (ints r.c.g.nodes),.d (AM.edges r.c.g.edges),.d (slots r.c.sl),I r.c.vars,.d (tests r.c.te)]
abbrev Ru.av(r:Ru):AV:=.agg r.row
structure Ru.Fit (r:Ru):Prop where
 lg:r.lg.Fit
 rg:r.rg.Fit
 k:r.k.Fit
 i:r.i.Fit
 ls:r.lsl.length<=bigN
 lt:r.lte.length<=bigN
 rs:r.rsl.length<=bigN
 rt:r.rte.length<=bigN
abbrev spAv(s:Sp):AV:=.agg [.d (ints s.l.nodes),.d (AM.edges s.l.edges),.d (ints s.r.nodes),.d (AM.edges s.r.edges),.d (ints s.k.nodes),.d (ints s.k.edges),.d (ints s.i.nodes),.d (ints s.i.edges)]
def Ru.sp(r:Ru):Sp:=⟨r.lg,r.rg,r.k,r.i⟩
def Ru.plainL(r:Ru):Prop:=r.lsl.length+r.lte.length=0/\r.lv=0
def Ru.plainR(r:Ru):Prop:=r.rsl.length+r.rte.length=0/\r.rv=0
instance (r:Ru):Decidable r.plainL:=inferInstanceAs (Decidable (_/\_))
instance (r:Ru):Decidable r.plainR:=inferInstanceAs (Decidable (_/\_))
def strR(r:Ru):Int :=
 if vG r.lg≠0 then vG r.lg else if vG r.rg≠0 then vG r.rg else if validP r.lg r.k≠0 then validP r.lg r.k
 else if validM (exG r.lg r.k) r.rg r.i≠0 then validM (exG r.lg r.k) r.rg r.i else if injM (exG r.lg r.k) r.rg r.i=false then 11
 else if r.plainL/\r.plainR/\r.inj=true then 0 else 8
theorem strR_zero{r:Ru}(h:strR r=0):SpOk r.sp/\vG r.lg=0/\vG r.rg=0:=by
 unfold strR at h;split at h
 .contradiction
 .split at h
  .contradiction
  .split at h
   .contradiction
   .split at h
    .contradiction
    .split at h
     .cases h
     .rename_i h1 h2 h3 h4 h5;exact⟨⟨VP.of (Decidable.not_not.1 h3),Emb.of (show injM (exG r.lg r.k) r.rg r.i=true by simpa using h5)⟩,Decidable.not_not.1 h1,Decidable.not_not.1 h2⟩
theorem mem_indexI{l m:List Int}(h:∀x∈l,x∈m):∀i (hi:i<l.length),0<=indexI m l[i]/\indexI m l[i]<m.length:=fun i hi=>by
 have:=indexI_in (h _ (List.getElem_mem hi))
 exact⟨this.1,this.2.1⟩
def mapK(f:Int->Int)(l:List Int)(i:Nat):List Int:=(l.take i).map f
theorem mapK_zero(f:Int->Int)(l:List Int):mapK f l 0=[]:=rfl
theorem mapK_succ(f:Int->Int)(l:List Int){i:Nat}(h:i<l.length):mapK f l (i+1)=mapK f l i++[f l[i]]:=by
 unfold mapK;rw[<-List.take_append_getElem h,List.map_append];rfl
theorem mapK_all(f:Int->Int)(l:List Int):mapK f l l.length=l.map f:=by simp[mapK]
theorem mapK_len(f:Int->Int)(l:List Int)(i:Nat):(mapK f l i).length<=i:=by simp[mapK];omega
def goneK(images keep:List Int)(i:Nat):List Int:=((List.range i).filter fun (i:Nat)=>decide ((i:Int)∉keep)).map fun (i:Nat)=>images.getD i 0
theorem goneK_zero(images keep:List Int):goneK images keep 0=[]:=rfl
theorem goneK_succ(images keep:List Int)(i:Nat):goneK images keep (i+1)=if (i:Int)∈keep then goneK images keep i else goneK images keep i++[images.getD i 0]:=by
 unfold goneK;rw[List.range_succ,List.filter_append,List.map_append];by_cases h:(i:Int)∈keep
 .simp[h]
 .simp[h]
theorem goneK_len(images keep:List Int)(i:Nat):(goneK images keep i).length<=i:=by
 unfold goneK;rw[List.length_map];have:=List.length_filter_le (fun (i:Nat)=>decide ((i:Int)∉keep)) (List.range i)
 simpa using this
def stGo12(images keep:List Int)(nb:Nat)(box:Bxs)(x:Acc):AS:=⟨tl [(0,.d (ints images)),(1,.d (ints keep)),(5,.osl 1 (rI (goneK images keep x.i)) x.own),(6,I x.i)],lb nb box [],x.tok,x.nt⟩
theorem gone12_c(images keep:List Int)(h1:images.length<=1000000)(h2:keep.length<=1000000):DC 136 [.d (ints images),.d (ints keep)] (.d (ints (goneI images keep))):=by
 intro tok nt box nb;have hh:=fun v=>has12_c keep v h2
 refine sI func136 ntmps136 fun Hb Ht=>?_
 repeat first|simp|refine sR ?_
 refine sN ?_;refine sL (stGo12 images keep nb box) (fun x=>x.i<=images.length/\TK tok nt x.tok x.nt [x.own]) (fun x=>images.length-x.i) ⟨0,.full,tok,nt⟩ ⟨Nat.zero_le _,(TK.start Ht).full⟩ (wM (nr _) rfl (by simp[ToL,lk,goneK_zero]) trivial) ?_;rintro⟨i,own,tok',nt'⟩ S ⟨hi,htk⟩ hS;simp only[stGo12] at hS hi htk;subst hS;have hw:=sW (i:=i) (by omega);have hsc:=goneK_succ images keep i;have hlen:=goneK_len images keep i;repeat first|simp|refine sR ?_|refine sC ?_
 refine⟨fun hlt=>?_,fun hge=>?_⟩
 .have hg:images.getD i 0=images[i]:=by simp[hlt]
  rw[hg] at hsc;repeat first|simp|refine sR ?_
  refine sD (hh _ _ _) ?_;simp;by_cases hm:(i:Int)∈keep
  .rw[if_pos hm] at hsc;simp only[hm];repeat first|simp[hw]|refine sR ?_|refine sC ?_
   refine sE ?_;exact⟨⟨i+1,own,tok',nt'⟩,⟨hlt,htk⟩,by simp only;omega,wM htk.le rfl (by simp[ToL,lk,hsc]) trivial⟩
  .rw[if_neg hm] at hsc;simp only[hm];repeat first|simp[hlt]|refine sR ?_|refine sC ?_
   refine⟨⟨by omega,htk.live⟩,?_⟩;repeat first|simp[hw]|refine sR ?_
   refine sE ?_;exact⟨⟨i+1,_,_,_⟩,⟨hlt,htk.app⟩,by simp only;omega,wM htk.app.le rfl (by simp[ToL,lk,hsc]) trivial⟩
 .refine sX ?_;simp only[AU,↓reduceIte];have:i=images.length:=by omega
  subst this;repeat first|simp|refine sR ?_
  have e:goneI images keep=goneK images keep images.length:=rfl
  refine sT (sG Hb Ht htk.old htk.le ?_);simp[e]
def restX(n:Nat)(l:List Int):List Int:=((List.range n).filter fun (k:Nat)=>decide ((k:Int)∉l)).map fun (k:Nat)=>(k:Int)
theorem restX_succ(l:List Int)(i:Nat):restX (i+1) l=if (i:Int)∈l then restX i l else restX i l++[(i:Int)]:=by
 unfold restX;rw[List.range_succ,List.filter_append,List.map_append];by_cases h:(i:Int)∈l
 .simp[h]
 .simp[h]
theorem restX_len(n:Nat)(l:List Int):(restX n l).length<=n:=by
 unfold restX;rw[List.length_map];have:=List.length_filter_le (fun (k:Nat)=>decide ((k:Int)∉l)) (List.range n)
 simpa using this
theorem restX_zero(l:List Int):restX 0 l=[]:=rfl
def stRe12(n:Nat)(l:List Int)(nb:Nat)(box:Bxs)(x:Acc):AS:=⟨tl [(0,I n),(1,.d (ints l)),(5,.osl 1 (rI (restX x.i l)) x.own),(6,I x.i)],lb nb box [],x.tok,x.nt⟩
theorem rest12_c(n:Nat)(l:List Int)(h1:n<=1000000)(h2:l.length<=1000000):DC 135 [I n,.d (ints l)] (.d (ints (restX n l))):=by
 intro tok nt box nb;have hh:=fun v=>has12_c l v h2
 refine sI func135 ntmps135 fun Hb Ht=>?_
 repeat first|simp|refine sR ?_
 refine sN ?_;refine sL (stRe12 n l nb box) (fun x=>x.i<=n/\TK tok nt x.tok x.nt [x.own]) (fun x=>n-x.i) ⟨0,.full,tok,nt⟩ ⟨Nat.zero_le _,(TK.start Ht).full⟩ (wM (nr _) rfl (by simp[ToL,lk,restX_zero]) trivial) ?_;rintro⟨i,own,tok',nt'⟩ S ⟨hi,htk⟩ hS;simp only[stRe12] at hS hi htk;subst hS;have hw:=sW (i:=i) (by omega);have hsc:=restX_succ l i;have hlen:=restX_len i l;repeat first|simp|refine sR ?_|refine sC ?_
 refine⟨fun hlt=>?_,fun hge=>?_⟩
 .repeat first|simp|refine sR ?_
  refine sD (hh _ _ _) ?_;simp;by_cases hm:(i:Int)∈l
  .rw[if_pos hm] at hsc;simp only[hm];repeat first|simp[hw]|refine sR ?_|refine sC ?_
   refine sE ?_;exact⟨⟨i+1,own,tok',nt'⟩,⟨hlt,htk⟩,by simp only;omega,wM htk.le rfl (by simp[ToL,lk,hsc]) trivial⟩
  .rw[if_neg hm] at hsc;simp only[hm];repeat first|simp|refine sR ?_
   refine sC ?_;repeat first|simp|refine sR ?_
   refine⟨⟨by omega,htk.live⟩,?_⟩;repeat first|simp[hw]|refine sR ?_
   refine sE ?_;exact⟨⟨i+1,_,_,_⟩,⟨hlt,htk.app⟩,by simp only;omega,wM htk.app.le rfl (by simp[ToL,lk,hsc]) trivial⟩
 .refine sX ?_;simp only[AU,↓reduceIte];have:i=n:=by omega
  subst this;repeat first|simp|refine sR ?_
  refine sT (sG Hb Ht htk.old htk.le ?_);simp
def dangP(g:Gr)(keep m:Mo)(i:Nat):Bool:=decide ((i:Int)∉m.edges/\((g.edges.getD i default).fr∈goneI m.nodes keep.nodes∨(g.edges.getD i default).to∈goneI m.nodes keep.nodes))
def dangI(g:Gr)(keep m:Mo)(n:Nat):List Int:=((List.range n).filter (dangP g keep m)).map fun (k:Nat)=>(k:Int)
theorem dangI_succ(g:Gr)(keep m:Mo)(i:Nat):dangI g keep m (i+1)=if dangP g keep m i=true then dangI g keep m i++[(i:Int)] else dangI g keep m i:=by
 unfold dangI;rw[List.range_succ,List.filter_append,List.map_append];by_cases h:dangP g keep m i=true
 .simp[h]
 .simp[h]
theorem dangI_len(g:Gr)(keep m:Mo)(n:Nat):(dangI g keep m n).length<=n:=by
 unfold dangI;rw[List.length_map];have:=List.length_filter_le (dangP g keep m) (List.range n)
 simpa using this
theorem dangI_any(g:Gr)(keep m:Mo):decide (0<(dangI g keep m g.edges.length).length)=dangL g keep m:=by
 rw[Bool.eq_iff_iff,decide_eq_true_eq,dangL,List.any_eq_true,dangI,List.length_map,List.length_pos_iff_exists_mem];constructor
 .rintro⟨k,hk⟩;have:=List.mem_filter.1 hk;exact⟨k,this.1,this.2⟩
 .rintro⟨k,h1,h2⟩;exact⟨k,List.mem_filter.2 ⟨h1,h2⟩⟩
theorem dangI_zero(g:Gr)(keep m:Mo):dangI g keep m 0=[]:=rfl
def stDa12(g:Gr)(keep m:Mo)(nb:Nat)(box:Bxs)(x:Acc):AS :=
 ⟨tl [(11,I x.i),(10,.d (ints (goneI m.nodes keep.nodes))),(9,.osl 1 (rI (dangI g keep m x.i)) x.own),(7,.ptr (nb+7) 0 0),(5,.ptr (nb+5) 0 0)],lb nb box [(7,[[.d (ints m.nodes),.d (ints m.edges)]]),(5,[[.d (ints g.nodes),.d (AM.edges g.edges)]])],x.tok,x.nt⟩
theorem dangling12_c(l g:Gr)(keep m:Mo)(hg:g.Fit)(hm:m.Fit)(hk:keep.Fit):DC 134 [l.av,g.av,keep.av,m.av] (.d (ints (dangI g keep m g.edges.length))):=by
 intro tok nt box nb;have hh:=fun v=>has12_c m.edges v hm.e
 have hgo:=gone12_c m.nodes keep.nodes hm.n hk.n;have hh2:=fun v=>has12_c (goneI m.nodes keep.nodes) v (by have:=goneK_len m.nodes keep.nodes m.nodes.length;have:=hm.n;unfold goneI;unfold goneK at *;omega)
 refine sI func134 ntmps134 fun Hb Ht=>?_
 repeat first|simp|refine sR ?_
 refine sD (hgo _ _) ?_;repeat first|simp|refine sR ?_
 refine sN ?_;have hge:=hg.e;refine sL (stDa12 g keep m nb box) (fun x=>x.i<=g.edges.length/\TK tok nt x.tok x.nt [x.own]) (fun x=>g.edges.length-x.i) ⟨0,.full,tok,nt⟩ ⟨Nat.zero_le _,(TK.start Ht).full⟩ (wM (nr _) rfl (by simp[ToL,lk,dangI_zero]) (by simp[BoxL,lk])) ?_;rintro⟨i,own,tok',nt'⟩ S ⟨hi,htk⟩ hS;simp only[stDa12] at hS hi htk;subst hS;have hw:=sW (i:=i) (by omega);have hsc:=dangI_succ g keep m i;have hlen:=dangI_len g keep m i;repeat first|simp|refine sR ?_|refine sC ?_
 refine⟨fun hlt=>?_,fun hge=>?_⟩
 .have hg1:g.edges.getD i default=g.edges[i]:=by simp[hlt]
  have hP:dangP g keep m i=(decide ((i:Int)∉m.edges)&&(decide (g.edges[i].fr∈goneI m.nodes keep.nodes)||decide (g.edges[i].to∈goneI m.nodes keep.nodes))):=by unfold dangP;rw[hg1];simp
  have no:dangP g keep m i=false->dangI g keep m (i+1)=dangI g keep m i:=fun h=>by rw[hsc,if_neg (by simp[h])]
  have yes:dangP g keep m i=true->dangI g keep m (i+1)=dangI g keep m i++[(i:Int)]:=fun h=>by rw[hsc,if_pos h]
  repeat first|simp|refine sR ?_
  refine sD (hh _ _ _) ?_;simp;by_cases hm:(i:Int)∈m.edges
  .have no:=no (by rw[hP];simp[hm]);simp only[hm];repeat first|simp[hw]|refine sR ?_|refine sC ?_
   refine sE ?_;exact⟨⟨i+1,own,tok',nt'⟩,⟨hlt,htk⟩,by simp only;omega,wM htk.le rfl (by simp[ToL,lk,no]) (by simp[BoxL,lk])⟩
  .simp only[hm];repeat first|simp[hlt]|refine sR ?_
   refine sD (hh2 _ _ _) ?_;simp;by_cases h1:g.edges[i].fr∈goneI m.nodes keep.nodes
   .have yes:=yes (by rw[hP];simp[hm,h1]);simp only[h1];repeat first|simp|refine sR ?_
    refine sC ?_;repeat first|simp|refine sR ?_
    refine⟨⟨by omega,htk.live⟩,?_⟩;repeat first|simp[hw]|refine sR ?_
    refine sE ?_;exact⟨⟨i+1,_,_,_⟩,⟨hlt,htk.app⟩,by simp only;omega,wM htk.app.le rfl (by simp[ToL,lk,yes]) (by simp[BoxL,lk])⟩
   .simp only[h1];repeat first|simp[hlt]|refine sR ?_
    refine sD (hh2 _ _ _) ?_;simp;by_cases h2:g.edges[i].to∈goneI m.nodes keep.nodes
    .have yes:=yes (by rw[hP];simp[hm,h2]);simp only[h2];repeat first|simp|refine sR ?_
     refine sC ?_;repeat first|simp|refine sR ?_
     refine⟨⟨by omega,htk.live⟩,?_⟩;repeat first|simp[hw]|refine sR ?_
     refine sE ?_;exact⟨⟨i+1,_,_,_⟩,⟨hlt,htk.app⟩,by simp only;omega,wM htk.app.le rfl (by simp[ToL,lk,yes]) (by simp[BoxL,lk])⟩
    .have no:=no (by rw[hP];simp[hm,h1,h2]);simp only[h2];repeat first|simp[hw]|refine sR ?_|refine sC ?_
     refine sE ?_;exact⟨⟨i+1,own,tok',nt'⟩,⟨hlt,htk⟩,by simp only;omega,wM htk.le rfl (by simp[ToL,lk,no]) (by simp[BoxL,lk])⟩
 .refine sX ?_;simp only[AU,↓reduceIte];have:i=g.edges.length:=by omega
  subst this;repeat first|simp|refine sR ?_
  refine sT (sG Hb Ht htk.old htk.le ?_);simp
def stId12(images keep:List Int)(nb:Nat)(box:Bxs)(tok:Tks)(nt:Nat)(i:Nat):AS:=⟨tl [(0,.d (ints images)),(1,.d (ints keep)),(5,.osl 0 [] .full),(6,I i)],lb nb box [],tok,nt⟩
def stId12b(images keep:List Int)(i:Nat)(nb:Nat)(box:Bxs)(tok:Tks)(nt:Nat)(k:Nat):AS:=⟨tl [(0,.d (ints images)),(1,.d (ints keep)),(5,.osl 0 [] .full),(6,I i),(7,I k)],lb nb box [],tok,nt⟩
theorem identified12_c(images keep:List Int)(h1:images.length<=1000000)(h2:keep.length<=1000000)(hn:images.Nodup):DC 133 [.d (ints images),.d (ints keep)] (.d (.sl 2 [])):=by
 intro tok nt box nb;refine sI func133 ntmps133 fun Hb Ht=>?_
 repeat first|simp|refine sR ?_
 refine sN ?_;refine sL (stId12 images keep nb box tok nt) (fun i=>i<=images.length) (fun i=>images.length-i) 0 (Nat.zero_le _) (wM (nr _) rfl (by simp[ToL,lk]) trivial) ?_;rintro i S hi hS;simp only[stId12] at hS;subst hS;have hw:=sW (i:=i) (by omega);repeat first|simp|refine sR ?_|refine sC ?_
 refine⟨fun hlt=>?_,fun hge=>?_⟩
 .repeat first|simp[hw]|refine sR ?_
  refine sN ?_;refine sL (stId12b images keep i nb box tok nt) (fun k=>i<k/\k<=images.length) (fun k=>images.length-k) (i+1) ⟨Nat.lt_succ_self _,hlt⟩ (wM (nr _) rfl (by simp[ToL,lk]) trivial) ?_;rintro k S ⟨hik,hk⟩ hS;simp only[stId12b] at hS;subst hS;have hwk:=sW (i:=k) (by omega);repeat first|simp|refine sR ?_|refine sC ?_
  refine⟨fun hlk=>?_,fun hge=>?_⟩
  .have hne:(images[i]==images[k])=false:=by
    have:=List.pairwise_iff_getElem.1 hn i k hlt hlk hik
    simpa using this
   repeat first|simp[hlt,hlk,hne]|refine sR ?_
   refine sC ?_;simp;repeat first|simp[hwk]|refine sR ?_
   refine sE ?_;exact⟨k+1,⟨by omega,hlk⟩,by omega,wM (nr _) rfl (by simp[ToL,lk]) trivial⟩
  .refine sX ?_;simp only[AU,↓reduceIte];repeat first|simp[hw]|refine sR ?_
   refine sE ?_;exact⟨i+1,hlt,by omega,wM (nr _) rfl (by simp[ToL,lk]) trivial⟩
 .refine sX ?_;simp only[AU,↓reduceIte];repeat first|simp|refine sR ?_
  refine sT (sH Hb Ht ?_);simp
theorem given12_c(l g:Gr)(keep m:Mo)(hl:l.Fit)(hg:g.Fit)(hm:m.Fit)(hk:keep.Fit):DC 132 [l.av,g.av,keep.av,m.av] (I (if validM l g m≠0 then validM l g m else validP l keep)):=by
 intro tok nt box nb;have h1:=valid53_c l g m hl hg;have h2:=valid07_c l keep hl hk;refine sI func132 ntmps132 fun Hb Ht=>?_
 repeat first|simp|refine sR ?_
 refine sD (h1 _ _) ?_;repeat first|simp|refine sR ?_
 by_cases e1:validM l g m=0
 .simp only[e1];refine sC ?_;repeat first|simp|refine sR ?_
  refine sD (h2 _ _) ?_;repeat first|simp|refine sR ?_
  refine sT (sH Hb Ht ?_);simp[e1]
 .have b1:(validM l g m !=0)=true:=by simp[e1]
  simp only[b1];refine sC ?_;repeat first|simp|refine sR ?_
  refine sT (sH Hb Ht ?_);simp[e1]
def cmpR(l g:Gr)(keep m:Mo):Mo × Int:=if dangL g keep m=true then (⟨[],[]⟩,14) else (cmpl g keep m,0)
theorem restX_rest(n:Nat)(images keep:List Int):restX n (goneI images keep)=restI n images keep:=rfl
theorem goneI_len(images keep:List Int):(goneI images keep).length<=images.length:=goneK_len images keep images.length
theorem of12_c(l g:Gr)(keep m:Mo)(hl:l.Fit)(hg:g.Fit)(hm:m.Fit)(hk:keep.Fit)(he:Emb l g m)(hp:VP l keep):DC 73 [l.av,g.av,keep.av,m.av] (.tup [(cmpR l g keep m).1.av,I (cmpR l g keep m).2]):=by
 intro tok nt box nb;have h1:=given12_c l g keep m hl hg hm hk;rw[he.v,hp.v] at h1;have i1:=identified12_c m.nodes keep.nodes hm.n hk.n he.n;have i2:=identified12_c m.edges keep.edges hm.e hk.e he.e;have hd:=dangling12_c l g keep m hg hm hk;have hda:=dangI_any g keep m;have hmn:=hm.n;have hme:=hm.e;have hgn:=hg.n;have hge:=hg.e;have g1:=gone12_c m.nodes keep.nodes hm.n hk.n;have g2:=gone12_c m.edges keep.edges hm.e hk.e;have l1:=goneI_len m.nodes keep.nodes;have l2:=goneI_len m.edges keep.edges;have r1:=rest12_c g.nodes.length (goneI m.nodes keep.nodes) (by omega) (by omega);have r2:=rest12_c g.edges.length (goneI m.edges keep.edges) (by omega) (by omega);rw[restX_rest] at r1 r2;refine sI func73 ntmps73 fun Hb Ht=>?_
 repeat first|simp|refine sR ?_
 refine sD (h1 _ _) ?_;repeat first|simp|refine sR ?_
 refine sC ?_;repeat first|simp|refine sR ?_
 refine sD (i1 _ _) ?_;repeat first|simp|refine sR ?_
 have w0:IntKind.i64.wrap 0=0:=rfl
 refine sD (i2 _ _) ?_;simp[w0];repeat first|simp[w0]|refine sR ?_
 refine sC ?_;repeat first|simp|refine sR ?_
 refine sD (hd _ _) ?_;repeat first|simp|refine sR ?_
 have hcd:cmpl g keep m=⟨restI g.nodes.length m.nodes keep.nodes,restI g.edges.length m.edges keep.edges⟩:=rfl
 rw[hda];cases hx:dangL g keep m
 .refine sC ?_;repeat first|simp|refine sR ?_
  refine sD (g1 _ _) ?_;repeat first|simp|refine sR ?_
  refine sD (r1 _ _) ?_;repeat first|simp|refine sR ?_
  refine sD (g2 _ _) ?_;repeat first|simp|refine sR ?_
  refine sD (r2 _ _) ?_;repeat first|simp|refine sR ?_
  refine sT (sH Hb Ht ?_);simp[cmpR,hx,hcd]
 .refine sC ?_;repeat first|simp|refine sR ?_
  refine sT (sH Hb Ht ?_);simp[cmpR,hx,ints]
abbrev glAv(l g:Gr)(keep m:Mo):AV:=.agg [.d (ints l.nodes),.d (AM.edges l.edges),.d (ints g.nodes),.d (AM.edges g.edges),.d (ints keep.nodes),.d (ints keep.edges),.d (ints m.nodes),.d (ints m.edges)]
theorem cgiven_c(l g:Gr)(keep m:Mo)(hl:l.Fit)(hg:g.Fit)(hm:m.Fit)(hk:keep.Fit):DC 293 [glAv l g keep m] (I (if validM l g m≠0 then validM l g m else validP l keep)):=by
 intro tok nt box nb;have h1:=valid51_c l g m hl hg;have h2:=validP_c l keep hl hk;refine sI func293 ntmps293 fun Hb Ht=>?_
 repeat first|simp|refine sR ?_
 refine sD (h1 _ _) ?_;repeat first|simp|refine sR ?_
 by_cases e1:validM l g m=0
 .simp only[e1];refine sC ?_;repeat first|simp|refine sR ?_
  refine sD (h2 _ _) ?_;repeat first|simp|refine sR ?_
  refine sT (sH Hb Ht ?_);simp[e1]
 .have b1:(validM l g m !=0)=true:=by simp[e1]
  simp only[b1];refine sC ?_;repeat first|simp|refine sR ?_
  refine sT (sH Hb Ht ?_);simp[e1]
def stDe(l g:Gr)(keep m:Mo)(nb:Nat)(box:Bxs)(x:Acc):AS :=
 ⟨tl [(10,I x.i),(9,I m.nodes.length),(8,.d (ints m.nodes)),(3,.osl 1 (rI (goneK m.nodes keep.nodes x.i)) x.own),(1,.ptr (nb+1) 0 0)],lb nb box [(1,[[.d (ints l.nodes),.d (AM.edges l.edges),.d (ints g.nodes),.d (AM.edges g.edges),.d (ints keep.nodes),.d (ints keep.edges),.d (ints m.nodes),.d (ints m.edges)]])],x.tok,x.nt⟩
theorem deleted_c(l g:Gr)(keep m:Mo)(hm:m.Fit)(hk:keep.Fit):DC 323 [glAv l g keep m] (.d (ints (goneI m.nodes keep.nodes))):=by
 intro tok nt box nb;have hh:=fun v=>contains_c keep.nodes v hk.n
 refine sI func323 ntmps323 fun Hb Ht=>?_
 repeat first|simp|refine sR ?_
 refine sN ?_;have hmn:=hm.n;refine sL (stDe l g keep m nb box) (fun x=>x.i<=m.nodes.length/\TK tok nt x.tok x.nt [x.own]) (fun x=>m.nodes.length-x.i) ⟨0,.full,tok,nt⟩ ⟨Nat.zero_le _,(TK.start Ht).full⟩ (wM (nr _) rfl (by simp[ToL,lk,goneK_zero]) (by simp[BoxL,lk])) ?_;rintro⟨i,own,tok',nt'⟩ S ⟨hi,htk⟩ hS;simp only[stDe] at hS hi htk;subst hS;have hw:=sW (i:=i) (by omega);have hsc:=goneK_succ m.nodes keep.nodes i;have hlen:=goneK_len m.nodes keep.nodes i;repeat first|simp|refine sR ?_|refine sC ?_
 refine⟨fun hlt=>?_,fun hge=>?_⟩
 .have hg:m.nodes.getD i 0=m.nodes[i]:=by simp[hlt]
  rw[hg] at hsc;repeat first|simp[hlt]|refine sR ?_
  refine sD (hh _ _ _) ?_;simp;by_cases hmm:(i:Int)∈keep.nodes
  .rw[if_pos hmm] at hsc;simp only[hmm];repeat first|simp[hw]|refine sR ?_|refine sC ?_
   refine sE ?_;exact⟨⟨i+1,own,tok',nt'⟩,⟨hlt,htk⟩,by simp only;omega,wM htk.le rfl (by simp[ToL,lk,hsc]) (by simp[BoxL,lk])⟩
  .rw[if_neg hmm] at hsc;simp only[hmm];repeat first|simp|refine sR ?_
   refine sC ?_;repeat first|simp|refine sR ?_
   refine⟨⟨by omega,htk.live⟩,?_⟩;repeat first|simp[hw]|refine sR ?_
   refine sE ?_;exact⟨⟨i+1,_,_,_⟩,⟨hlt,htk.app⟩,by simp only;omega,wM htk.app.le rfl (by simp[ToL,lk,hsc]) (by simp[BoxL,lk])⟩
 .refine sX ?_;simp only[AU,↓reduceIte];have:i=m.nodes.length:=by omega
  subst this;repeat first|simp|refine sR ?_
  have e:goneI m.nodes keep.nodes=goneK m.nodes keep.nodes m.nodes.length:=rfl
  refine sT (sG Hb Ht htk.old htk.le ?_);simp[e]
def stCp(images keep:List Int)(nb:Nat)(box:Bxs)(tok:Tks)(nt:Nat)(i:Nat):AS:=⟨tl [(10,I i),(9,I images.length),(8,.d (ints images)),(0,.d (ints images)),(1,.d (ints keep)),(5,.osl 0 [] .full)],lb nb box [],tok,nt⟩
def stCpb(images keep:List Int)(i:Nat)(nb:Nat)(box:Bxs)(tok:Tks)(nt:Nat)(k:Nat):AS:=⟨tl [(10,I i),(9,I images.length),(8,.d (ints images)),(0,.d (ints images)),(1,.d (ints keep)),(5,.osl 0 [] .full),(6,I i),(7,I k)],lb nb box [],tok,nt⟩
theorem cpairs_c(images keep:List Int)(h1:images.length<=1000000)(h2:keep.length<=1000000)(hn:images.Nodup):DC 322 [.d (ints images),.d (ints keep)] (.d (.sl 2 [])):=by
 intro tok nt box nb;refine sI func322 ntmps322 fun Hb Ht=>?_
 repeat first|simp|refine sR ?_
 refine sN ?_;refine sL (stCp images keep nb box tok nt) (fun i=>i<=images.length) (fun i=>images.length-i) 0 (Nat.zero_le _) (wM (nr _) rfl (by simp[ToL,lk]) trivial) ?_;rintro i S hi hS;simp only[stCp] at hS;subst hS;have hw:=sW (i:=i) (by omega);repeat first|simp|refine sR ?_|refine sC ?_
 refine⟨fun hlt=>?_,fun hge=>?_⟩
 .repeat first|simp[hw]|refine sR ?_
  refine sN ?_;refine sL (stCpb images keep i nb box tok nt) (fun k=>i<k/\k<=images.length) (fun k=>images.length-k) (i+1) ⟨Nat.lt_succ_self _,hlt⟩ (wM (nr _) rfl (by simp[ToL,lk]) trivial) ?_;rintro k S ⟨hik,hk⟩ hS;simp only[stCpb] at hS;subst hS;have hwk:=sW (i:=k) (by omega);repeat first|simp|refine sR ?_|refine sC ?_
  refine⟨fun hlk=>?_,fun hge=>?_⟩
  .have hne:(images[i]==images[k])=false:=by
    have:=List.pairwise_iff_getElem.1 hn i k hlt hlk hik
    simpa using this
   repeat first|simp[hlt,hlk,hne]|refine sR ?_
   refine sC ?_;simp;repeat first|simp[hwk]|refine sR ?_
   refine sE ?_;exact⟨k+1,⟨by omega,hlk⟩,by omega,wM (nr _) rfl (by simp[ToL,lk]) trivial⟩
  .refine sX ?_;simp only[AU,↓reduceIte];repeat first|simp[hw]|refine sR ?_
   refine sE ?_;exact⟨i+1,hlt,by omega,wM (nr _) rfl (by simp[ToL,lk]) trivial⟩
 .refine sX ?_;simp only[AU,↓reduceIte];repeat first|simp|refine sR ?_
  refine sT (sH Hb Ht ?_);simp
def stCd(l g:Gr)(keep m:Mo)(nb:Nat)(box:Bxs)(x:Acc):AS :=
 ⟨tl [(13,I x.i),(12,I g.edges.length),(11,.d (AM.edges g.edges)),(4,.osl 1 (rI (dangI g keep m x.i)) x.own),(3,.d (ints (goneI m.nodes keep.nodes))),(1,.ptr (nb+1) 0 0)],lb nb box [(1,[[.d (ints l.nodes),.d (AM.edges l.edges),.d (ints g.nodes),.d (AM.edges g.edges),.d (ints keep.nodes),.d (ints keep.edges),.d (ints m.nodes),.d (ints m.edges)]])],x.tok,x.nt⟩
theorem cdangling_c(l g:Gr)(keep m:Mo)(hg:g.Fit)(hm:m.Fit)(hk:keep.Fit):DC 295 [glAv l g keep m] (.d (ints (dangI g keep m g.edges.length))):=by
 intro tok nt box nb;have hh:=fun v=>contains_c m.edges v hm.e
 have hgo:=deleted_c l g keep m hm hk;have hh2:=fun v=>contains_c (goneI m.nodes keep.nodes) v (by have:=goneI_len m.nodes keep.nodes;have:=hm.n;omega)
 refine sI func295 ntmps295 fun Hb Ht=>?_
 repeat first|simp|refine sR ?_
 refine sD (hgo _ _) ?_;repeat first|simp|refine sR ?_
 refine sN ?_;have hge:=hg.e;refine sL (stCd l g keep m nb box) (fun x=>x.i<=g.edges.length/\TK tok nt x.tok x.nt [x.own]) (fun x=>g.edges.length-x.i) ⟨0,.full,tok,nt⟩ ⟨Nat.zero_le _,(TK.start Ht).full⟩ (wM (nr _) rfl (by simp[ToL,lk,dangI_zero]) (by simp[BoxL,lk])) ?_;rintro⟨i,own,tok',nt'⟩ S ⟨hi,htk⟩ hS;simp only[stCd] at hS hi htk;subst hS;have hw:=sW (i:=i) (by omega);have hsc:=dangI_succ g keep m i;have hlen:=dangI_len g keep m i;repeat first|simp|refine sR ?_|refine sC ?_
 refine⟨fun hlt=>?_,fun hge=>?_⟩
 .have hg1:g.edges.getD i default=g.edges[i]:=by simp[hlt]
  have hP:dangP g keep m i=(decide ((i:Int)∉m.edges)&&(decide (g.edges[i].fr∈goneI m.nodes keep.nodes)||decide (g.edges[i].to∈goneI m.nodes keep.nodes))):=by unfold dangP;rw[hg1];simp
  have no:dangP g keep m i=false->dangI g keep m (i+1)=dangI g keep m i:=fun h=>by rw[hsc,if_neg (by simp[h])]
  have yes:dangP g keep m i=true->dangI g keep m (i+1)=dangI g keep m i++[(i:Int)]:=fun h=>by rw[hsc,if_pos h]
  repeat first|simp[hlt]|refine sR ?_
  refine sD (hh _ _ _) ?_;simp;by_cases hmm:(i:Int)∈m.edges
  .have no:=no (by rw[hP];simp[hmm]);simp only[hmm];repeat first|simp[hw]|refine sR ?_|refine sC ?_
   refine sE ?_;exact⟨⟨i+1,own,tok',nt'⟩,⟨hlt,htk⟩,by simp only;omega,wM htk.le rfl (by simp[ToL,lk,no]) (by simp[BoxL,lk])⟩
  .simp only[hmm];repeat first|simp|refine sR ?_
   refine sD (hh2 _ _ _) ?_;simp;by_cases h1:g.edges[i].fr∈goneI m.nodes keep.nodes
   .have yes:=yes (by rw[hP];simp[hmm,h1]);simp only[h1];repeat first|simp|refine sR ?_
    refine sC ?_;repeat first|simp|refine sR ?_
    refine⟨⟨by omega,htk.live⟩,?_⟩;repeat first|simp[hw]|refine sR ?_
    refine sE ?_;exact⟨⟨i+1,_,_,_⟩,⟨hlt,htk.app⟩,by simp only;omega,wM htk.app.le rfl (by simp[ToL,lk,yes]) (by simp[BoxL,lk])⟩
   .simp only[h1];repeat first|simp|refine sR ?_
    refine sD (hh2 _ _ _) ?_;simp;by_cases h2:g.edges[i].to∈goneI m.nodes keep.nodes
    .have yes:=yes (by rw[hP];simp[hmm,h2]);simp only[h2];repeat first|simp|refine sR ?_
     refine sC ?_;repeat first|simp|refine sR ?_
     refine⟨⟨by omega,htk.live⟩,?_⟩;repeat first|simp[hw]|refine sR ?_
     refine sE ?_;exact⟨⟨i+1,_,_,_⟩,⟨hlt,htk.app⟩,by simp only;omega,wM htk.app.le rfl (by simp[ToL,lk,yes]) (by simp[BoxL,lk])⟩
    .have no:=no (by rw[hP];simp[hmm,h1,h2]);simp only[h2];repeat first|simp[hw]|refine sR ?_|refine sC ?_
     refine sE ?_;exact⟨⟨i+1,own,tok',nt'⟩,⟨hlt,htk⟩,by simp only;omega,wM htk.le rfl (by simp[ToL,lk,no]) (by simp[BoxL,lk])⟩
 .refine sX ?_;simp only[AU,↓reduceIte];have:i=g.edges.length:=by omega
  subst this;repeat first|simp|refine sR ?_
  refine sT (sG Hb Ht htk.old htk.le ?_);simp
def rowsB(bs:List Bool):List (List AV):=bs.map fun b=>[AV.d (.raw (.bool b))]
theorem rowsB_eq(bs:List Bool):rowsB bs=rowsD (bs.map fun b=>[D.raw (.bool b)]):=by simp[rowsB,rowsD]
@[simp] theorem set_rB(bs:List Bool)(i:Nat)(v:Bool):(rowsB bs).set i [AV.d (.raw (.bool v))]=rowsB (bs.set i v):=by simp[rowsB,List.map_set]
@[simp] theorem rowsB_length(bs:List Bool):(rowsB bs).length=bs.length:=by simp[rowsB]
@[simp high] theorem rowsB_get{bs:List Bool}{i:Nat}(h:i<bs.length):(rowsB bs)[i]?=some [AV.d (.raw (.bool bs[i]))]:=by simp[rowsB,h]
@[simp] theorem rowsTo_B{p q:Nat->Prop}{fz:Option (Nat × Nat × List (List D))}(bs:List Bool):RowsTo p q fz (rowsB bs) (rowsB bs):=by rw[rowsB_eq];simp
def goneB(n:Nat)(images keep:List Int):Nat->List Bool
 | 0=>List.replicate n false
 | i+1=>if (i:Int)∈keep then goneB n images keep i else (goneB n images keep i).set (images.getD i 0).toNat true
theorem goneB_len(n:Nat)(images keep:List Int):∀i,(goneB n images keep i).length=n
 | 0=>by simp[goneB]
 | i+1=>by
  unfold goneB;split
  .exact goneB_len n images keep i
  .rw[List.length_set];exact goneB_len n images keep i
theorem goneB_get(n:Nat)(images keep:List Int)(hr:∀x∈images,0<=x/\x<n):∀i,i<=images.length->∀k,k<n->(goneB n images keep i).getD k false=decide ((k:Int)∈goneK images keep i)
 | 0,_,k,hk=>by simp[goneB,goneK_zero,hk]
 | i+1,hi,k,hk=>by
  have ih:=goneB_get n images keep hr i (by omega) k hk;have rg:=hr _ (getD_mem (d:=0) (show i<images.length by omega));rw[goneK_succ];unfold goneB;by_cases hm:(i:Int)∈keep
  .rw[if_pos hm,if_pos hm];exact ih
  .rw[if_neg hm,if_neg hm];have hl:=goneB_len n images keep i;by_cases e:(images.getD i 0).toNat=k
   .rw[e,List.getD_eq_getElem?_getD,List.getElem?_set_self (by omega)];have:(k:Int)=images.getD i 0:=by omega
    simp[this]
   .rw[List.getD_eq_getElem?_getD,List.getElem?_set_ne e,<-List.getD_eq_getElem?_getD,ih];have:¬(k:Int)=images.getD i 0:=by omega
    rw[decide_eq_decide,List.mem_append,List.mem_singleton];simp only[this,or_false]
def stR1(n:Nat)(images keep:List Int)(nb:Nat)(box:Bxs)(tok:Tks)(nt:Nat)(i:Nat):AS :=
 ⟨tl [(17,I i),(16,I images.length),(15,.d (ints images)),(7,.msl (nb+14) 0 n 1),(6,.osl 0 [] .full),(0,I n),(2,.d (ints keep))],lb nb box [(14,rowsB (goneB n images keep i))],tok,nt⟩
def stR2(n:Nat)(images keep:List Int)(nb:Nat)(box:Bxs)(x:Acc):AS :=
 ⟨tl [(32,I x.i),(31,I n),(30,.msl (nb+14) 0 n 1),(10,.osl 1 (rI (restX x.i (goneI images keep))) x.own)],lb nb box [(14,rowsB (goneB n images keep images.length))],x.tok,x.nt⟩
theorem crest_c(n:Nat)(images keep:List Int)(hn:n<=1000000)(h1:images.length<=1000000)(h2:keep.length<=1000000)(hr:∀x∈images,0<=x/\x<n):DC 296 [I n,.d (ints images),.d (ints keep)] (.d (ints (restI n images keep))):=by
 intro tok nt box nb;have hh:=fun v=>contains_c keep v h2
 refine sI func296 ntmps296 fun Hb Ht=>?_
 repeat first|simp|refine sR ?_
 refine⟨by omega,?_⟩;repeat first|simp|refine sR ?_
 refine sN ?_;have hrep:List.replicate n [B false]=rowsB (goneB n images keep 0):=by simp[goneB,rowsB]
 refine sL (stR1 n images keep nb box tok nt) (fun i=>i<=images.length) (fun i=>images.length-i) 0 (Nat.zero_le _) (wM (nr _) rfl (by simp[ToL,lk]) (by simp[BoxL,lk,hrep])) ?_;rintro i S hi hS;simp only[stR1] at hS;subst hS;have hw:=sW (i:=i) (by omega);have hgl:=goneB_len n images keep i;repeat first|simp|refine sR ?_|refine sC ?_
 refine⟨fun hlt=>?_,fun hge=>?_⟩
 .obtain⟨r1,r2⟩:=hr _ (List.getElem_mem hlt);have r3:images[i].toNat<n:=by omega
  have hg:images.getD i 0=images[i]:=by simp[hlt]
  repeat first|simp[hlt]|refine sR ?_
  refine sD (hh _ _ _) ?_;simp;by_cases hm:(i:Int)∈keep
  .have hsc:goneB n images keep (i+1)=goneB n images keep i:=if_pos hm
   simp only[hm];repeat first|simp[hw]|refine sR ?_|refine sC ?_
   refine sE ?_;exact⟨i+1,hlt,by omega,wM (nr _) rfl (by simp[ToL,lk]) (by simp[BoxL,lk,hsc])⟩
  .have hsc:goneB n images keep (i+1)=(goneB n images keep i).set images[i].toNat true:=by rw[<-hg];exact if_neg hm
   simp only[hm];repeat first|simp[r1,r2,r3,hgl,hw]|refine sR ?_|refine sC ?_
   refine sE ?_;exact⟨i+1,hlt,by omega,wM (nr _) rfl (by simp[ToL,lk]) (by simp[BoxL,lk,hsc])⟩
 .refine sX ?_;simp only[AU,↓reduceIte];have:i=images.length:=by omega
  subst this;repeat first|simp|refine sR ?_
  refine sN ?_;refine sL (stR2 n images keep nb box) (fun x=>x.i<=n/\TK tok nt x.tok x.nt [x.own]) (fun x=>n-x.i) ⟨0,.full,tok,nt⟩ ⟨Nat.zero_le _,(TK.start Ht).full⟩ (wM (nr _) rfl (by simp[ToL,lk,restX_zero]) (by simp[BoxL,lk])) ?_;rintro⟨i,own,tok',nt'⟩ S ⟨hi,htk⟩ hS;simp only[stR2] at hS hi htk;subst hS;have hw:=sW (i:=i) (by omega);have hsc:=restX_succ (goneI images keep) i;have hlen:=restX_len i (goneI images keep);have hgt:=goneB_get n images keep hr images.length (nr _) i;repeat first|simp|refine sR ?_|refine sC ?_
  refine⟨fun hlt=>?_,fun hge=>?_⟩
  .have hgt:=hgt hlt;have hgl':=goneB_len n images keep images.length
   have hgt:(goneB n images keep images.length)[i]'(by omega)=decide ((i:Int)∈goneI images keep):=by
    have h:(goneB n images keep images.length)[i]?=some ((goneB n images keep images.length)[i]'(by omega)):=List.getElem?_eq_getElem (by omega)
    rw[List.getD_eq_getElem?_getD,h] at hgt;exact hgt
   repeat first|simp[hlt,hgl']|refine sR ?_
   rw[hgt];by_cases hm:(i:Int)∈goneI images keep
   .rw[if_pos hm] at hsc;simp only[hm];refine sC ?_;simp;repeat first|simp[hw]|refine sR ?_
    refine sE ?_;exact⟨⟨i+1,own,tok',nt'⟩,⟨hlt,htk⟩,by simp only;omega,wM htk.le rfl (by simp[ToL,lk,hsc]) (by simp[BoxL,lk])⟩
   .rw[if_neg hm] at hsc;simp only[hm];refine sC ?_;repeat first|simp|refine sR ?_
    refine⟨⟨by omega,htk.live⟩,?_⟩;repeat first|simp[hw]|refine sR ?_
    refine sE ?_;exact⟨⟨i+1,_,_,_⟩,⟨hlt,htk.app⟩,by simp only;omega,wM htk.app.le rfl (by simp[ToL,lk,hsc]) (by simp[BoxL,lk])⟩
  .refine sX ?_;simp only[AU,↓reduceIte];have:i=n:=by omega
   subst this;repeat first|simp|refine sR ?_
   refine sT (sG Hb Ht htk.old htk.le ?_);simp[restX_rest]
theorem cident_c(l g:Gr)(keep m:Mo)(hm:m.Fit)(hk:keep.Fit)(hn:m.nodes.Nodup)(he:m.edges.Nodup):DC 294 [glAv l g keep m] (.tup [.d (.sl 2 []),.d (.sl 2 [])]):=by
 intro tok nt box nb;have i1:=cpairs_c m.nodes keep.nodes hm.n hk.n hn;have i2:=cpairs_c m.edges keep.edges hm.e hk.e he;refine sI func294 ntmps294 fun Hb Ht=>?_
 repeat first|simp|refine sR ?_
 refine sD (i1 _ _) ?_;repeat first|simp|refine sR ?_
 refine sD (i2 _ _) ?_;repeat first|simp|refine sR ?_
 refine sT (sH Hb Ht ?_);simp
theorem ofP_c(l g:Gr)(keep m:Mo)(hl:l.Fit)(hg:g.Fit)(hm:m.Fit)(hk:keep.Fit)(he:Emb l g m)(hp:VP l keep):DC 264 [l.av,g.av,keep.av,m.av] (.tup [(cmpR l g keep m).1.av,I (cmpR l g keep m).2]):=by
 intro tok nt box nb;have h1:=cgiven_c l g keep m hl hg hm hk;rw[he.v,hp.v] at h1;have i1:=cident_c l g keep m hm hk he.n he.e;have hd:=cdangling_c l g keep m hg hm hk;have hda:=dangI_any g keep m;have hgn:=hg.n;have hge:=hg.e;have v:=he.vm;have r1:=crest_c g.nodes.length m.nodes keep.nodes (by omega) hm.n hk.n v.n;have r2:=crest_c g.edges.length m.edges keep.edges (by omega) hm.e hk.e v.e;have w0:IntKind.i64.wrap 0=0:=rfl
 refine sI func264 ntmps264 fun Hb Ht=>?_
 repeat first|simp|refine sR ?_
 refine sD (h1 _ _) ?_;repeat first|simp|refine sR ?_
 refine sC ?_;repeat first|simp|refine sR ?_
 refine sD (i1 _ _) ?_;simp;repeat first|simp[w0]|refine sR ?_
 have hcd:cmpl g keep m=⟨restI g.nodes.length m.nodes keep.nodes,restI g.edges.length m.edges keep.edges⟩:=rfl
 refine sC ?_;repeat first|simp|refine sR ?_
 refine sD (hd _ _) ?_;repeat first|simp|refine sR ?_
 rw[hda];cases hx:dangL g keep m
 .refine sC ?_;repeat first|simp|refine sR ?_
  refine sD (r1 _ _) ?_;repeat first|simp|refine sR ?_
  refine sD (r2 _ _) ?_;repeat first|simp|refine sR ?_
  refine sT (sH Hb Ht ?_);simp[cmpR,hx,hcd]
 .refine sC ?_;repeat first|simp|refine sR ?_
  refine sT (sH Hb Ht ?_);simp[cmpR,hx,ints]
def shE(n:Nat)(e:E):E:=⟨e.ty,e.fr+n,e.to+n⟩
def unG(b c:Gr):Gr:=⟨b.nodes++c.nodes,b.edges++c.edges.map (shE b.nodes.length)⟩
def iotaF(n k:Nat):List Int:=(List.range k).map fun (j:Nat)=>((n+j:Nat):Int)
theorem iotaF_len(n k:Nat):(iotaF n k).length=k:=by simp[iotaF]
theorem iotaF_get{n k j:Nat}(h:j<k):(iotaF n k).getD j 0=((n+j:Nat):Int):=by simp[iotaF,h]
def genX(n:Nat)(x:List Int):List Int:=iota n++(List.range x.length).map fun (j:Nat)=>if x.getD j 0<0 then ((n+j:Nat):Int) else x.getD j 0
theorem iota_len(n:Nat):(iota n).length=n:=by simp[iota]
theorem genX_len(n:Nat)(x:List Int):(genX n x).length=n+x.length:=by simp[genX,iota_len]
theorem genX_lo{n i:Nat}{x:List Int}(h:i<n):(genX n x).getD i 0=i:=by
 unfold genX;rw[getD_pre (by rw[iota_len];exact h)];exact iota_getD h
theorem genX_hi{n j:Nat}{x:List Int}(h:j<x.length):(genX n x).getD (n+j) 0=if x.getD j 0<0 then ((n+j:Nat):Int) else x.getD j 0:=by
 unfold genX;rw[List.getD_eq_getElem?_getD,List.getElem?_append_right (by rw[iota_len];omega),iota_len];simp[h,show n+j-n=j by omega]
def InX(n:Nat)(x:List Int):Prop:=∀j,j<x.length->x.getD j 0<n
theorem genX_part{n:Nat}{x:List Int}(hx:InX n x):PartL (genX n x):=by
 intro i hi;have e:(genX n x)[i]=(genX n x).getD i 0:=by simp[List.getD_eq_getElem?_getD,hi]
 rw[e];rw[genX_len] at hi;by_cases h:i<n
 .rw[genX_lo h];exact⟨by omega,by omega,by rw[Int.toNat_natCast,genX_lo h]⟩
 .obtain⟨j,rfl⟩:∃j,i=n+j:=⟨i-n,by omega⟩
  have hj:j<x.length:=by omega
  rw[genX_hi hj];split
  .rename_i h1;exact⟨by omega,by omega,by rw[Int.toNat_natCast,genX_hi hj,if_pos h1]⟩
  .rename_i h1;have:=hx j hj
   refine⟨by omega,by omega,?_⟩;rw[genX_lo (by omega)];omega
theorem num_lo(n:Nat)(x:List Int):∀i,i<=n->numN (genX n x) i=(iota i,(i:Int))
 | 0,_=>rfl
 | i+1,h=>by
  rw[numN,num_lo n x i (by omega),genX_lo (by omega),if_pos rfl];simp[iota,List.range_succ]
theorem rep_lo{α:Type}(f:Nat->α)(n:Nat)(x:List Int):∀i,i<=n->repG f (genX n x) i=(List.range i).map f
 | 0,_=>rfl
 | i+1,h=>by
  rw[repG,rep_lo f n x i (by omega),genX_lo (by omega),if_pos rfl];simp[List.range_succ]
theorem num_hi{α:Type}[Inhabited α](an bn:List α)(x:List Int)(hx:InX an.length x):∀j,j<=x.length->numN (genX an.length x) (an.length+j)=(iota an.length++(glueG an bn x j).2,((glueG an bn x j).1.length:Int))
 | 0,_=>by
  rw[Nat.add_zero,num_lo _ _ _ (nr _)];simp[glueG]
 | j+1,h=>by
  have ih:=num_hi an bn x hx j (by omega);have hj:j<x.length:=by omega
  rw[<-Nat.add_assoc,numN,ih,genX_hi hj,glueG];by_cases h1:x.getD j 0<0
  .rw[if_pos h1,if_pos h1,if_pos rfl];simp
  .have:=hx j hj
   rw[if_neg h1,if_neg h1,if_neg (by omega)];have e:(iota an.length++(glueG an bn x j).2).getD (x.getD j 0).toNat 0=x.getD j 0:=by
    rw[getD_pre (by rw[iota_len];omega),iota_getD (by omega)];omega
   simp only[e,List.append_assoc]
theorem rep_hi{α:Type}[Inhabited α](an bn:List α)(f:Nat->α)(x:List Int)(hx:InX an.length x)(h0:∀i,i<an.length->f i=an.getD i default)(h1:∀j,j<x.length->f (an.length+j)=bn.getD j default):
  ∀j,j<=x.length->repG f (genX an.length x) (an.length+j)=(glueG an bn x j).1
 | 0,_=>by
  rw[Nat.add_zero,rep_lo _ _ _ _ (nr _),glueG];refine List.ext_getElem (by simp) fun i g1 g2=>?_
  simp only[List.getElem_map,List.getElem_range];rw[h0 i g2];simp[List.getD_eq_getElem?_getD,g2]
 | j+1,h=>by
  have ih:=rep_hi an bn f x hx h0 h1 j (by omega);have hj:j<x.length:=by omega
  rw[<-Nat.add_assoc,repG,ih,genX_hi hj,glueG];by_cases h2:x.getD j 0<0
  .rw[if_pos h2,if_pos h2,if_pos rfl,h1 j hj]
  .have:=hx j hj
   rw[if_neg h2,if_neg h2,if_neg (by omega)]
theorem isM_in{ok:Nat->Nat->Bool}{na nb:Nat}{x:List Int}(h:isM ok na nb x):InX na x:=fun j hj=>by
 rcases h.2 j (by rw[<-h.1];exact hj) with e|⟨k,e,hk,_⟩
 .omega
 .omega
theorem quot_glue{b c:Gr}(hb:EOk b)(hc:EOk c){x es:List Int}(h:isPair b c (x,es)):
  quot (unG b c) (genX b.nodes.length x) (genX b.edges.length es)=⟨(glue b c x es).g,⟨iota b.nodes.length++(glue b c x es).r.nodes,iota b.edges.length++(glue b c x es).r.edges⟩⟩:=by
 obtain⟨h1,h2⟩:=h;simp only at h1 h2;have hx:=isM_in h1;have he:=isM_in h2;have xl:x.length=c.nodes.length:=h1.1
 have el:es.length=c.edges.length:=h2.1
 have n1:=num_hi b.nodes c.nodes x hx x.length (nr _);have gn:glueG b.nodes c.nodes x x.length=glueN b.nodes c.nodes x x.length:=(glueN_G _ _ _ _).symm
 rw[gn] at n1;have er:(glue b c x es).r.nodes=(glueN b.nodes c.nodes x x.length).2:=rfl
 have n2:=num_hi b.edges (c.edges.map (mapE (glue b c x es).r.nodes)) es he es.length (nr _);have ge:glueG b.edges (c.edges.map (mapE (glue b c x es).r.nodes)) es es.length=glueE b.edges c.edges (glue b c x es).r.nodes es es.length:=(glueE_G _ _ _ _ _ (by omega)).symm
 rw[ge] at n2;unfold quot;simp only[genX_len,n1,n2];have r1:repN (unG b c).nodes (genX b.nodes.length x) (b.nodes.length+x.length)=(glue b c x es).g.nodes:=by
  rw[repN_eq,rep_hi b.nodes c.nodes _ x hx (fun i hi=>?_) (fun j hj=>?_) _ (nr _),gn]
  .rfl
  .show (b.nodes++c.nodes).getD i 0=_
   rw[getD_pre hi];rfl
  .show (b.nodes++c.nodes).getD (b.nodes.length+j) 0=_
   rw[List.getD_eq_getElem?_getD,List.getElem?_append_right (by omega),show b.nodes.length+j-b.nodes.length=j by omega,List.getD_eq_getElem?_getD];rfl
 have hrl:(glue b c x es).r.nodes.length=c.nodes.length:=by rw[er,(glueN_len _ _ _ _).2,xl]
 have q1:∀v:Int,0<=v->v<b.nodes.length->(iota b.nodes.length++(glue b c x es).r.nodes).getD v.toNat 0=v:=fun v v0 v1=>by
  rw[getD_pre (by rw[iota_len];omega),iota_getD (by omega)];omega
 have q2:∀v:Int,0<=v->(iota b.nodes.length++(glue b c x es).r.nodes).getD (v+b.nodes.length).toNat 0=(glue b c x es).r.nodes.getD v.toNat 0:=fun v v0=>by
  rw[List.getD_eq_getElem?_getD,List.getElem?_append_right (by rw[iota_len];omega),iota_len,show (v+b.nodes.length).toNat-b.nodes.length=v.toNat by omega,List.getD_eq_getElem?_getD]
 have r2:repE (unG b c).edges (iota b.nodes.length++(glue b c x es).r.nodes) (genX b.edges.length es) (b.edges.length+es.length)=(glue b c x es).g.edges:=by
  rw[repE_eq,rep_hi b.edges (c.edges.map (mapE (glue b c x es).r.nodes)) _ es he (fun i hi=>?_) (fun j hj=>?_) _ (nr _),ge]
  .rfl
  .have e1:(unG b c).edges.getD i default=b.edges.getD i default:=getD_pre hi
   obtain⟨y1,y2,y3,y4⟩:=hb _ (getD_mem (d:=default) hi);rw[edgeAt,e1,q1 _ y1 y2,q1 _ y3 y4]
  .have hjc:j<c.edges.length:=by omega
   have e1:(unG b c).edges.getD (b.edges.length+j) default=shE b.nodes.length (c.edges.getD j default):=by
    show (b.edges++c.edges.map (shE b.nodes.length)).getD (b.edges.length+j) default=_
    rw[List.getD_eq_getElem?_getD,List.getElem?_append_right (by omega),show b.edges.length+j-b.edges.length=j by omega];simp[hjc]
   have e2:(c.edges.map (mapE (glue b c x es).r.nodes)).getD j default=mapE (glue b c x es).r.nodes (c.edges.getD j default):=by simp[hjc]
   obtain⟨y1,y2,y3,y4⟩:=hc _ (getD_mem (d:=default) hjc);rw[edgeAt,e1,e2];simp only[shE,mapE];rw[q2 _ y1,q2 _ y3]
 rw[<-er,r1,r2];rfl
theorem unG_ok{b c:Gr}(hb:EOk b)(hc:EOk c):EOk (unG b c):=fun e he=>by
 have hl:(unG b c).nodes.length=b.nodes.length+c.nodes.length:=by simp[unG]
 rw[hl];rcases List.mem_append.1 he with he|he
 .have:=hb e he;omega
 .obtain⟨y,hy,rfl⟩:=List.mem_map.1 he;have:=hc y hy
  simp only[shE];omega
theorem quF_glue{b c:Gr}(hb:EOk b)(hc:EOk c){x es:List Int}(h:isPair b c (x,es)):quF (unG b c) (genX b.nodes.length x) (genX b.edges.length es)=quot (unG b c) (genX b.nodes.length x) (genX b.edges.length es):=by
 have h1:=h.1;have h2:=h.2;simp only at h1 h2;have hx:=isM_in h1;have he:=isM_in h2;have xl:x.length=c.nodes.length:=h1.1
 have el:es.length=c.edges.length:=h2.1
 have at1:∀j,j<c.edges.length->(unG b c).edges.getD (b.edges.length+j) default=shE b.nodes.length (c.edges.getD j default):=fun j hjc=>by
  show (b.edges++c.edges.map (shE b.nodes.length)).getD (b.edges.length+j) default=_
  rw[List.getD_eq_getElem?_getD,List.getElem?_append_right (by omega),show b.edges.length+j-b.edges.length=j by omega];simp[hjc]
 refine quF_quot _ _ _ (by rw[genX_len];simp[unG,xl]) (by rw[genX_len];simp[unG,el]) (genX_part hx) (genX_part he) (unG_ok hb hc) ?_ ?_
 .unfold alikeB alikeK;rw[List.all_eq_true];intro j hj;rw[List.mem_range,genX_len] at hj;simp only[gN,decide_eq_true_eq];by_cases hjn:j<b.nodes.length
  .rw[genX_lo hjn,Int.toNat_natCast]
  .obtain⟨k,rfl⟩:∃k,j=b.nodes.length+k:=⟨j-b.nodes.length,by omega⟩
   have hk:k<x.length:=by omega
   rw[genX_hi hk];split
   .rw[Int.toNat_natCast]
   .rename_i hn;rcases h1.2 k (by omega) with e|⟨q,e,hq,hok,_⟩
    .omega
    .rw[okN,decide_eq_true_eq] at hok;rw[e,Int.toNat_natCast];show (b.nodes++c.nodes).getD (b.nodes.length+k) 0=(b.nodes++c.nodes).getD q 0
     rw[getD_pre hq,hok,List.getD_eq_getElem?_getD,List.getElem?_append_right (by omega),show b.nodes.length+k-b.nodes.length=k by omega,List.getD_eq_getElem?_getD]
 .unfold alikeB alikeK;rw[List.all_eq_true];intro j hj;rw[List.mem_range,genX_len] at hj;refine decide_eq_true (p:=likeE _ _ _ _) ?_;unfold likeE;by_cases hjn:j<b.edges.length
  .rw[genX_lo hjn,Int.toNat_natCast];simp
  .obtain⟨k,rfl⟩:∃k,j=b.edges.length+k:=⟨j-b.edges.length,by omega⟩
   have hk:k<es.length:=by omega
   rw[genX_hi hk];split
   .rw[Int.toNat_natCast];exact⟨rfl,rfl,rfl⟩
   .rename_i hn;rcases h2.2 k (by omega) with e|⟨q,e,hq,hok,_⟩
    .omega
    .rw[okE,decide_eq_true_eq] at hok;rw[e,Int.toNat_natCast,at1 k (by omega)];have e1:(unG b c).edges.getD q default=b.edges.getD q default:=getD_pre hq
     rw[e1];obtain⟨y1,y2,y3,y4⟩:=hb _ (getD_mem (d:=default) hq);obtain⟨z1,z2,z3,z4⟩:=hc _ (getD_mem (d:=default) (show k<c.edges.length by omega));have f1:(b.edges.getD q default).fr=x.getD (c.edges.getD k default).fr.toNat 0:=congrArg E.fr hok
     have f2:(b.edges.getD q default).to=x.getD (c.edges.getD k default).to.toNat 0:=congrArg E.to hok
     have f3:(b.edges.getD q default).ty=(c.edges.getD k default).ty:=by rw[hok]
     simp only[shE];have g1:((c.edges.getD k default).fr+(b.nodes.length:Int)).toNat=b.nodes.length+(c.edges.getD k default).fr.toNat:=by omega
     have g2:((c.edges.getD k default).to+(b.nodes.length:Int)).toNat=b.nodes.length+(c.edges.getD k default).to.toNat:=by omega
     rw[g1,g2,genX_hi (by omega),genX_hi (by omega),if_neg (by omega),if_neg (by omega),genX_lo (by omega),genX_lo (by omega)];exact⟨f3.symm,by omega,by omega⟩
theorem byK_lo{n:Nat}{r:List Int}:byK (iota n) (iota n++r) (iota n).length=iota n:=byK_ext rfl fun i hi=>by
 rw[iota_len] at hi;rw[iota_getD hi,Int.toNat_natCast,getD_pre (by rw[iota_len];exact hi),iota_getD hi]
theorem byK_hi{n:Nat}{r:List Int}:byK (iotaF n r.length) (iota n++r) (iotaF n r.length).length=r:=byK_ext (iotaF_len _ _) fun i hi=>by
 rw[iotaF_len] at hi;rw[iotaF_get hi,Int.toNat_natCast,List.getD_eq_getElem?_getD,List.getElem?_append_right (by rw[iota_len];omega),iota_len,show n+i-n=i by omega,List.getD_eq_getElem?_getD]
theorem to_mslk{p q:Nat->Prop}{fz:Option (Nat × Nat × List (List D))}{k off n sz:Nat}(h:p k):To p q fz (.msl k off n sz) (.msl k off n sz):=.same (.msl h)
def stRt(L:List Int)(i:Nat)(v:Int)(nb:Nat)(box:Bxs)(tok:Tks)(nt:Nat)(a:Nat):AS:=⟨tl [(4,I 0),(0,.d (ints L)),(1,I (if a=0 then (i:Int) else v))],lb nb box [],tok,nt⟩
theorem root_c(L:List Int)(i:Nat)(hi:i<L.length)(hl:L.length<=1000000)(hp:PartL L):DC 348 [.d (ints L),I i] (I L[i]):=by
 intro tok nt box nb;obtain⟨p1,p2,p3⟩:=hp i hi;have hg:L.getD i 0=L[i]:=by simp[hi]
 refine sI func348 ntmps348 fun Hb Ht=>?_
 repeat first|simp|refine sR ?_
 refine sN ?_;have hli:L[i].toNat<L.length:=by omega
 have hgl:L[L[i].toNat]=L[i]:=by
  rw[List.getD_eq_getElem?_getD,List.getElem?_eq_getElem hli] at p3;exact p3
 refine sL (stRt L i L[i] nb box tok nt) (fun a=>a<=1) (fun a=>1-a) 0 (Nat.zero_le _) (wM (nr _) rfl (by simp[ToL,lk]) trivial) ?_;rintro a S ha hS;simp only[stRt] at hS;subst hS;by_cases ea:a=0
 .subst ea;simp only[↓reduceIte];repeat first|simp[hi]|refine sR ?_
  by_cases he:L[i]=i
  .have b0:(L[i]!=(i:Int))=false:=by simp[he]
   simp only[b0];refine sC ?_;simp;refine sX ?_;simp only[AU,↓reduceIte];repeat first|simp|refine sR ?_
   refine sT (sH Hb Ht ?_);simp[he]
  .have b0:(L[i]!=(i:Int))=true:=by simp[he]
   simp only[b0];refine sC ?_;simp;repeat first|simp[hi]|refine sR ?_
   refine sE ?_;exact⟨1,nr _,by omega,wM (nr _) rfl (by simp[ToL,lk]) trivial⟩
 .simp only[ea,↓reduceIte];repeat first|simp[p1,hli,hgl]|refine sR ?_
  refine⟨by omega,?_⟩;refine sC ?_;simp;refine sX ?_;simp only[AU,↓reduceIte];repeat first|simp|refine sR ?_
  refine sT (sH Hb Ht ?_);simp
theorem rootM_c(L:List Int)(i:Nat)(hi:i<L.length)(hl:L.length<=1000000)(hp:PartL L)(box:Bxs)(k:Nat)(hk:box k=some (rowsI L))(tok:Tks)(nt:Nat):
  RCall prog 348 [.msl k 0 L.length 1,I i] box tok nt (I L[i]) tok nt:=by
 refine RCall.lent rfl (root_c L i hi hl hp tok nt) ⟨?_,.same .d,trivial⟩;have h:(rI L).length=L.length:=by simp
 have h2:box k=some (rowsD (rI L)):=by rw[hk,rowsI_eq]
 have:=Bo.msl (sz:=1) h2
 rw[h] at this;exact this
def QIs(L:List Int)(k:Nat)(box:Bxs)(nb:Nat)(tok:Tks)(nt:Nat)(r v:AV)(m:AMem):Prop:=v=r/\m=⟨upd box k (some (rowsI L)),nb,tok,nt⟩
theorem outIs{L:List Int}{box:Bxs}{k base:Nat}{p q:Nat->Prop}:∀k' rows,k'<base->(upd box k (some (rowsI L))) k'=some rows->box k'=some rows∨∀r∈rows,∀x∈r,OkIn p q x:=by
 intro k' rows hk' hr;by_cases e:k'=k
 .subst e;rw[uS] at hr;cases hr;refine .inr fun r hr x hx=>?_
  simp only[rowsI,List.mem_map] at hr;obtain⟨n,_,rfl⟩:=hr;simp only[List.mem_singleton] at hx;subst hx;exact .d
 .rw[uO _ _ e] at hr;exact .inl hr
def uniL(L:List Int)(a b:Nat):List Int:=L.set (max (L.getD a 0) (L.getD b 0)).toNat (min (L.getD a 0) (L.getD b 0))
theorem unite_c(L:List Int)(a b:Nat)(ha:a<L.length)(hb:b<L.length)(hl:L.length<=1000000)(hp:PartL L)(box:Bxs)(k:Nat)(hk:box k=some (rowsI L))(nb:Nat)(tok:Tks)(nt:Nat):
  ACalls prog 345 [.msl k 0 L.length 1,I a,I b] ⟨box,nb,tok,nt⟩ (QIs (uniL L a b) k box nb tok nt (.tup [])):=by
 have hrb:=fun (box':Bxs) hb'=>rootM_c L b hb hl hp box' k hb'
 have hra:=fun (box':Bxs) hb'=>rootM_c L a ha hl hp box' k hb'
 refine sI func345 ntmps345 fun Hb Ht=>?_
 have kn:=key_lt Hb hk;repeat first|simp|refine sR ?_
 refine Stop.of_r (hra _ (by simp only;rw[lO kn];exact hk) _ _) ?_;simp;refine Stop.of_r (hrb _ (by simp only;rw[lO kn];exact hk) _ _) ?_;obtain⟨a1,a2,a3⟩:=hp a ha;obtain⟨b1,b2,b3⟩:=hp b hb;have ga:L.getD a 0=L[a]:=by simp[ha]
 have gb:L.getD b 0=L[b]:=by simp[hb]
 have hu:uniL L a b=L.set (max L[a] L[b]).toNat (min L[a] L[b]):=by rw[uniL,ga,gb]
 have m0:0<=max L[a] L[b]:=by omega
 have m1:max L[a] L[b]<L.length:=by omega
 have m2:(max L[a] L[b]).toNat<L.length:=by omega
 simp;repeat first|simp[m0,m1,m2,lO kn,hk,uL kn]|refine sR ?_
 refine sE ?_;refine⟨by simp,(Fin.gen (vs:=[]) (av:=.tup []) (tok':=tok) (nt':=nt) (by simp[resAs,resA]) (by rw[<-uL kn,Hb]) (nr _) (nr _) (fun t h=>⟨h,.inl rfl⟩) outIs (by simp)).mono fun v M hq=>⟨hq.1,by rw[hq.2,hu]⟩⟩
def stFl(L:List Int)(k nb:Nat)(box:Bxs)(tok:Tks)(nt:Nat)(i:Nat):AS :=
 ⟨tl [(6,I i),(5,I L.length),(2,.osl 0 [] .full),(0,.msl k 0 L.length 1)],lb nb box [],tok,nt⟩
theorem flat_c(L:List Int)(hl:L.length<=1000000)(hp:PartL L)(box:Bxs)(k:Nat)(hk:box k=some (rowsI L))(nb:Nat)(tok:Tks)(nt:Nat):
  ACalls prog 346 [.msl k 0 L.length 1] ⟨box,nb,tok,nt⟩ (QIs L k box nb tok nt (.msl k 0 L.length 1)):=by
 have hrt:=fun (i:Nat) (hi:i<L.length) (box':Bxs) hb'=>rootM_c L i hi hl hp box' k hb'
 refine sI func346 ntmps346 fun Hb Ht=>?_
 have kn:=key_lt Hb hk;repeat first|simp|refine sR ?_
 refine sN ?_;have hbx:upd box k (some (rowsI L))=box:=by
  funext j
  by_cases e:j=k
  .subst e;rw[uS,hk]
  .rw[uO _ _ e]
 refine sL (stFl L k nb box tok nt) (fun i=>i<=L.length) (fun i=>L.length-i) 0 (Nat.zero_le _) (wM (nr _) rfl (by simp[ToL,lk];exact to_mslk (by rw[lO kn,hk];simp)) trivial) ?_;rintro i S hi hS;simp only[stFl] at hS;subst hS;have hw:=sW (i:=i) (by omega);repeat first|simp|refine sR ?_|refine sC ?_
 refine⟨fun hlt=>?_,fun hge=>?_⟩
 .repeat first|simp|refine sR ?_
  refine Stop.of_r (hrt i hlt _ (by simp only;rw[lO kn];exact hk) _ _) ?_;have hs:upd box k (some (rowsI (L.set i L[i])))=box:=by rw[List.set_getElem_self,hbx]
  simp[lO kn,hk,uL kn,hlt,hbx];repeat first|simp[hw]|refine sR ?_
  refine sE ?_;exact⟨i+1,hlt,by omega,wM (nr _) rfl (by simp[ToL,lk];exact to_mslk (by rw[lO kn,hk];simp)) trivial⟩
 .refine sX ?_;simp only[AU,↓reduceIte];have:i=L.length:=by omega
  subst this;repeat first|simp|refine sR ?_
  refine sT ?_;try simp only[AU]
  refine⟨by simp,(Fin.gen (av:=.msl k 0 L.length 1) (tok':=tok) (nt':=nt) (by simp[resAs,resA];rfl) Hb (nr _) (nr _) (fun t h=>⟨h,.inl rfl⟩) (fun k rows _ h=>.inl h) (by simp;exact to_mslk (by rw[lO kn,hk];simp))).mono fun v M hq=>⟨hq.1,by rw[hq.2,hbx]⟩⟩
def stFn0(n:Nat)(nb:Nat)(box:Bxs)(tok:Tks)(nt:Nat)(i:Nat):AS:=⟨tl [(9,I i),(8,I n),(3,.msl (nb+6) 0 n 1)],lb nb box [(6,rowsI (upto n i))],tok,nt⟩
theorem finestP_c(n:Nat)(hn:n<=1000000)(tok:Tks)(nt:Nat):DCall prog 344 [I n] tok nt (.ex nt 1 (rI (iota n))) (upd tok nt true) (nt+1):=by
 intro box nb;refine sI func344 ntmps344 fun Hb Ht=>?_
 repeat first|simp|refine sR ?_
 refine⟨by omega,?_⟩;repeat first|simp|refine sR ?_
 refine sN ?_;refine sL (stFn0 n nb box tok nt) (fun i=>i<=n) (fun i=>n-i) 0 (Nat.zero_le _) wkA ?_;rintro i S hi hS;simp only[stFn0] at hS;subst hS;have hw:=sW (i:=i) (by omega);refine sR ?_;simp;refine sC ?_;simp;refine⟨fun hlt=>?_,fun hge=>?_⟩
 .refine sR ?_;simp;refine sR ?_;simp[hlt,hi];refine sR ?_;simp[hw];refine sE ?_;refine⟨i+1,hlt,by omega,wM (nr _) rfl (by simp[ToL,lk]) (by simp[BoxL,lk,iota_set hlt])⟩
 .refine sX ?_;simp only[AU,↓reduceIte];have:i=n:=by omega
  subst this;refine AL.weak (wM (l':=[(3,.msl (nb+6) 0 i 1)]) (loc':=[(6,rowsI (iota i))]) (nr _) rfl (by simp[ToL,lk]) (by simp[BoxL,lk])) ?_;refine AL.trans (Trans.sealI (l':=[(3,.ex nt 1 (rI (iota i)))]) (loc:=[]) (loc':=[]) 6 (iota i) 3 rfl (nr _) (by rw[iota_len];rfl) rfl ⟨rfl,seTo_mslI (iota_len i).symm,trivial⟩ trivial) ?_;refine sR ?_;simp;refine sT ?_;try simp only[AU]
  refine⟨by simp,Fin.gen (by simp[resAs,resA];rfl) Hb (by omega) (nr _) (fun t ht=>⟨?_,.inl rfl⟩) (fun k rows _ h=>.inl h) (by simp)⟩;by_cases e:t=nt
  .subst e;exact uS _ _ _
  .rw[uO _ _ e] at ht ⊢;exact ht
def pickN(ns:List Int)(js:List Int)(i:Nat):List Int:=(js.take i).map fun j=>ns.getD j.toNat 0
@[simp] theorem pickN_len(l h:List Int)(i:Nat):(pickN l h i).length=min i h.length:=by simp[pickN]
def pickE(es:List E)(ns js:List Int)(i:Nat):List E:=(js.take i).map fun j=>⟨(es.getD j.toNat default).ty,indexI ns (es.getD j.toNat default).fr,indexI ns (es.getD j.toNat default).to⟩
@[simp] theorem pickE_len(l:List E)(ns h:List Int)(i:Nat):(pickE l ns h i).length=min i h.length:=by simp[pickE]
def rkK(ns:List Int)(bit:Nat->Bool):Nat->List Int
 | 0=>[]
 | i+1=>if bit i=true then rkK ns bit i++[((chN ns bit i).1.length:Int)] else rkK ns bit i++[0]
def rkR(ns:List Int)(bit:Nat->Bool)(n i:Nat):List Int:=rkK ns bit i++List.replicate (n-i) 0
theorem rkK_len(ns:List Int)(bit:Nat->Bool):∀i,(rkK ns bit i).length=i
 | 0=>rfl
 | i+1=>by
  simp only[rkK];split<;>simp[rkK_len ns bit i]
@[simp] theorem rkR_len(ns:List Int)(bit:Nat->Bool){n i:Nat}(h:i<=n):(rkR ns bit n i).length=n:=by simp[rkR,rkK_len];omega
def sameAt(a b:List Int)(i k:Nat):Bool:=decide (a.getD i 0=a.getD k 0)==decide (b.getD i 0=b.getD k 0)
def st104(l:List Int)(nb:Nat)(box:Bxs)(tok:Tks)(nt:Nat)(i:Nat):AS:=⟨tl [(0,.d (ints l)),(3,I i)],lb nb box [],tok,nt⟩
theorem valid104_c(l:List Int)(hl:l.length<=80)(hp:PartL l):DC 321 [.d (ints l)] (B true):=by
 intro tok nt box nb;have h80:¬80<(l.length:Int):=by omega
 refine sI func321 ntmps321 fun Hb Ht=>?_
 refine sR ?_;simp;refine sR ?_;simp;refine sC ?_;simp[h80];refine sR ?_;simp;refine sN ?_;refine sL (st104 l nb box tok nt) (fun i=>i<=l.length) (fun i=>l.length-i) 0 (Nat.zero_le _) (wM (nr _) rfl (by simp[ToL]) trivial) ?_;rintro i S hi hS;simp only[st104] at hS;subst hS;have hw:=sW (i:=i) (by omega);refine sR ?_;simp;refine sC ?_;simp;refine⟨fun hlt=>?_,fun hge=>?_⟩
 .obtain⟨h1,h2,h3⟩:=hp i hlt;have h4:l[i].toNat<l.length:=by omega
  have h5:l[l[i].toNat]=l[i]:=by simpa[h4] using h3
  have k1:¬l[i]<0:=by omega
  have k2:¬(i:Int)<l[i]:=by omega
  refine sR ?_;simp[hlt,k1,k2,h1,h4,h5];refine⟨by omega,?_⟩;refine sC ?_;simp;refine sR ?_;simp[hw];refine sE ?_;refine⟨i+1,hlt,by omega,wM (nr _) rfl (by simp[ToL]) trivial⟩
 .refine sX ?_;simp only[AU,↓reduceIte];refine sR ?_;simp;refine sT (sH Hb Ht ?_);simp
theorem one95_c(l:List Int)(hl:l.length<=80)(hp:PartL l):DC 285 [.d (ints l)] (I 0):=by
 intro tok nt box nb;refine sI func285 ntmps285 fun Hb Ht=>?_
 refine sR ?_;simp;refine sR ?_;simp;have h80:¬80<(l.length:Int):=by omega
 refine sC ?_;simp[h80];refine sR ?_;simp;refine sD (valid104_c l hl hp _ _) ?_;simp;refine sC ?_;simp;refine sR ?_;simp;refine sT (sH Hb Ht ?_);simp
def st74(l:List Int)(nb:Nat)(box:Bxs)(x:Acc):AS :=
 ⟨tl [(0,.d (ints l)),(6,.osl 1 (rI (numN l x.i).1) x.own),(7,I (numN l x.i).2),(8,I x.i)],lb nb box [],x.tok,x.nt⟩
theorem quotient74_c(l:List Int)(hl:l.length<=80)(hp:PartL l):DC 254 [.d (ints l)] (.tup [.d (ints (numN l l.length).1),I (numN l l.length).2,I 0]):=by
 intro tok nt box nb;refine sI func254 ntmps254 fun Hb Ht=>?_
 refine sR ?_;simp;refine sR ?_;simp;refine sD (one95_c l hl hp _ _) ?_;simp;refine sR ?_;simp;refine sC ?_;simp;refine sR ?_;simp;refine sR ?_;simp;refine sR ?_;simp;refine sN ?_;refine sL (st74 l nb box) (fun x=>x.i<=l.length/\TK tok nt x.tok x.nt [x.own]) (fun x=>l.length-x.i) ⟨0,.full,tok,nt⟩ ⟨Nat.zero_le _,(TK.start Ht).full⟩ (wM (nr _) rfl (by simp[ToL,numN]) trivial) ?_;rintro⟨i,own,tok',nt'⟩ S ⟨hi,htk⟩ hS;simp only[st74] at hS hi htk;subst hS;have hw:=sW (i:=i) (by omega);obtain⟨hn1,hn2,hn3⟩:=numN_len l i;refine sR ?_;simp;refine sC ?_;simp;refine⟨fun hlt=>?_,fun hge=>?_⟩
 .obtain⟨h1,h2,h3⟩:=hp i hlt;have hwn:IntKind.i64.wrap ((numN l i).2+1)=(numN l i).2+1:=wrap_in (by omega) (by omega)
  refine sR ?_;simp[hlt];refine sC ?_;simp;refine⟨fun he=>?_,fun hne=>?_⟩
  .refine sR ?_;simp;refine⟨⟨by omega,htk.live⟩,?_⟩;refine sR ?_;simp[hwn];refine sR ?_;simp[hw];refine sE ?_;refine⟨⟨i+1,_,_,_⟩,⟨hlt,htk.app⟩,by simp;omega,wM htk.app.le rfl (by simp[ToL,numN,hlt,he]) trivial⟩
  .have h4:l[i].toNat<(numN l i).1.length:=by omega
   have h5:l[i]<((numN l i).1.length:Int):=by omega
   refine sR ?_;simp[hlt,h1,h4,h5];refine⟨⟨by omega,htk.live⟩,?_⟩;refine sR ?_;simp[hw];refine sE ?_;refine⟨⟨i+1,_,_,_⟩,⟨hlt,htk.app⟩,by simp;omega,wM htk.app.le rfl (by simp[ToL,numN,hlt,hne,h4]) trivial⟩
 .refine sX ?_;simp only[AU,↓reduceIte];have:i=l.length:=by omega
  subst this;refine sR ?_;simp;refine sT (sG Hb Ht htk.old htk.le ?_);simp
def mrgK(l:List Int)(lo hi:Int)(i:Nat):List Int:=(l.take i).map fun k=>if k=hi then lo else k
theorem mrgK_zero(l:List Int)(lo hi:Int):mrgK l lo hi 0=[]:=by simp[mrgK]
@[simp] theorem mrgK_len(l:List Int)(lo hi:Int)(i:Nat):(mrgK l lo hi i).length=min i l.length:=by simp[mrgK]
theorem mrgK_succ(l:List Int)(lo hi:Int){i:Nat}(h:i<l.length):mrgK l lo hi (i+1)=mrgK l lo hi i++[if l[i]=hi then lo else l[i]]:=by simp only[mrgK,List.take_add_one,List.getElem?_eq_getElem h,Option.toList,List.map_append,List.map_cons,List.map_nil]
def st73(l:List Int)(lo hi:Int)(nb:Nat)(box:Bxs)(x:Acc):AS :=
 ⟨tl [(0,.d (ints l)),(7,I lo),(8,I hi),(9,.osl 1 (rI (mrgK l lo hi x.i)) x.own),(10,I x.i)],lb nb box [],x.tok,x.nt⟩
theorem merge73_c(l:List Int)(a b:Nat)(ha:a<l.length)(hb:b<l.length)(hl:l.length<=80):DC 253 [.d (ints l),I a,I b] (.d (ints (mrgK l (min l[a] l[b]) (max l[a] l[b]) l.length))):=by
 intro tok nt box nb;refine sI func253 ntmps253 fun Hb Ht=>?_
 refine sR ?_;simp;refine sR ?_;simp[ha,hb];generalize min l[a] l[b]=lo;generalize max l[a] l[b]=hg;refine sR ?_;simp;refine sR ?_;simp;refine sN ?_;refine sL (st73 l lo hg nb box) (fun x=>x.i<=l.length/\TK tok nt x.tok x.nt [x.own]) (fun x=>l.length-x.i) ⟨0,.full,tok,nt⟩ ⟨Nat.zero_le _,(TK.start Ht).full⟩ (wM (nr _) rfl (by simp[ToL,mrgK_zero]) trivial) ?_;rintro⟨i,own,tok',nt'⟩ S ⟨hi,htk⟩ hS;simp only[st73] at hS hi htk;subst hS;have hw:=sW (i:=i) (by omega);refine sR ?_;simp;refine sC ?_;simp;refine⟨fun hlt=>?_,fun hge=>?_⟩
 .have hS:=mrgK_succ l lo hg hlt;refine sR ?_;simp[hlt];refine sR ?_;simp;refine sC ?_;simp;refine⟨fun he=>?_,fun hne=>?_⟩
  .refine sR ?_;simp;refine sR ?_;simp;refine⟨⟨by omega,htk.live⟩,?_⟩;refine sR ?_;simp[hw];refine sE ?_;refine⟨⟨i+1,_,_,_⟩,⟨hlt,htk.app⟩,by simp;omega,wM htk.app.le rfl (by simp[ToL,hS,he]) trivial⟩
  .refine sR ?_;simp;refine⟨⟨by omega,htk.live⟩,?_⟩;refine sR ?_;simp[hw];refine sE ?_;refine⟨⟨i+1,_,_,_⟩,⟨hlt,htk.app⟩,by simp;omega,wM htk.app.le rfl (by simp[ToL,hS,hne]) trivial⟩
 .refine sX ?_;simp only[AU,↓reduceIte];have:i=l.length:=by omega
  subst this;refine sR ?_;simp;refine sT (sG Hb Ht htk.old htk.le ?_);simp
def preK(l:List Int)(i:Nat):List Int:=l.take i
@[simp] theorem preK_len(l:List Int)(i:Nat):(preK l i).length=min i l.length:=by simp[preK]
structure Mt (n1 n2:Nat) (F G:List Int):Prop where
 l:F.length=G.length
 f:F.Nodup
 g:G.Nodup
 rf:∀x∈F,0<=x/\x<n1
 rg:∀x∈G,0<=x/\x<n2
def gnK(n1 n2:Nat)(F G:List Int)(i:Nat):List Int:=genX n1 (mtI (F.take i) (G.take i) n2)
theorem gnK_len(n1 n2:Nat)(F G:List Int)(i:Nat):(gnK n1 n2 F G i).length=n1+n2:=by rw[gnK,genX_len,mtI_len]
theorem gnK_zero(n1 n2:Nat)(F G:List Int):gnK n1 n2 F G 0=iota (n1+n2):=by
 refine ext_getD (by rw[gnK_len,iota_len]) fun t ht=>?_
 rw[gnK_len] at ht;rw[iota_getD ht,gnK];by_cases h:t<n1
 .rw[genX_lo h]
 .obtain⟨j,rfl⟩:∃j,t=n1+j:=⟨t-n1,by omega⟩
  have hj:j<n2:=by omega
  rw[genX_hi (by rw[mtI_len];exact hj)];rcases mtI_cases (F:=F.take 0) (G:=G.take 0) hj with ⟨e,_⟩|⟨q,hq,_⟩
  .rw[e,if_pos (by omega)]
  .simp at hq
theorem take_gd{l:List Int}{i q:Nat}(h:q<i):(l.take i).getD q 0=l.getD q 0:=by
 simp only[List.getD_eq_getElem?_getD,List.getElem?_take,h,↓reduceIte]
theorem mtI_step{n1 n2:Nat}{F G:List Int}(h:Mt n1 n2 F G){i:Nat}(hi:i<F.length){j:Nat}(hj:j<n2):
  (mtI (F.take (i+1)) (G.take (i+1)) n2).getD j 0=if (j:Int)=G.getD i 0 then F.getD i 0 else (mtI (F.take i) (G.take i) n2).getD j 0:=by
 have hgi:i<G.length:=by rw[<-h.l];exact hi
 have inT:∀q k,q<k->q<G.length->G.getD q 0∈G.take k:=fun q k hq hl=>by
  have:=getD_mem (r:=G.take k) (d:=0) (j:=q) (by rw[List.length_take];omega)
  rwa [take_gd hq] at this
 rcases mtI_cases (F:=F.take (i+1)) (G:=G.take (i+1)) hj with ⟨e,hn⟩|⟨q,hq,h2,h3⟩
 .have hne:¬(j:Int)=G.getD i 0:=fun e=>hn (by rw[e];exact inT i (i+1) (by omega) hgi)
  rw[if_neg hne,e];rcases mtI_cases (F:=F.take i) (G:=G.take i) hj with ⟨e',_⟩|⟨q,hq,h2,h3⟩
  .exact e'.symm
  .rw[List.length_take] at hq;rw[take_gd (by omega)] at h2;exact absurd (by rw[<-h2];exact inT q (i+1) (by omega) (by omega)) hn
 .rw[List.length_take] at hq;rw[take_gd (by omega)] at h2;rw[take_gd (by omega)] at h3;rw[h3];by_cases e:q=i
  .subst e;rw[if_pos h2.symm]
  .have hne:¬(j:Int)=G.getD i 0:=fun e2=>e (getD_inj h.g (by omega) hgi (h2.trans e2))
   rw[if_neg hne];rcases mtI_cases (F:=F.take i) (G:=G.take i) hj with ⟨_,hn⟩|⟨q',hq',h2',h3'⟩
   .exact absurd (by rw[<-h2];exact inT q i (by omega) (by omega)) hn
   .rw[List.length_take] at hq';rw[take_gd (by omega)] at h2' h3';have:=getD_inj h.g (show q'<G.length by omega) (by omega) (h2'.trans h2.symm)
    subst this;exact h3'.symm
theorem gnK_in{n1 n2:Nat}{F G:List Int}(h:Mt n1 n2 F G)(i:Nat):InX n1 (mtI (F.take i) (G.take i) n2):=fun j hj=>by
 rw[mtI_len] at hj;rcases mtI_cases (F:=F.take i) (G:=G.take i) hj with ⟨e,_⟩|⟨q,hq,_,h3⟩
 .omega
 .rw[h3,List.length_take] at *;have:=h.l
  rw[take_gd (by omega)];have:=h.rf _ (getD_mem (d:=0) (show q<F.length by omega))
  omega
theorem gnK_part{n1 n2:Nat}{F G:List Int}(h:Mt n1 n2 F G)(i:Nat):PartL (gnK n1 n2 F G i):=genX_part (gnK_in h i)
theorem gnK_step{n1 n2:Nat}{F G:List Int}(h:Mt n1 n2 F G){i:Nat}(hi:i<F.length){t:Nat}(ht:t<n1+n2):
  (gnK n1 n2 F G (i+1)).getD t 0=if (t:Int)=n1+G.getD i 0 then F.getD i 0 else (gnK n1 n2 F G i).getD t 0:=by
 have rg:=h.rg _ (getD_mem (d:=0) (show i<G.length by rw[<-h.l];exact hi));have rf:=h.rf _ (getD_mem (d:=0) hi);unfold gnK;by_cases hl:t<n1
 .rw[genX_lo hl,genX_lo hl,if_neg (by omega)]
 .obtain⟨j,rfl⟩:∃j,t=n1+j:=⟨t-n1,by omega⟩
  have hj:j<n2:=by omega
  rw[genX_hi (by rw[mtI_len];exact hj),genX_hi (by rw[mtI_len];exact hj),mtI_step h hi hj];by_cases e:(j:Int)=G.getD i 0
  .rw[if_pos e,if_neg (show ¬F.getD i 0<0 by omega),if_pos (show ((n1+j:Nat):Int)=n1+G.getD i 0 by omega)]
  .rw[if_neg e,if_neg (show ¬((n1+j:Nat):Int)=n1+G.getD i 0 by omega)]
theorem gnK_a{n1 n2:Nat}{F G:List Int}(h:Mt n1 n2 F G){i:Nat}(hi:i<F.length):(gnK n1 n2 F G i).getD (F.getD i 0).toNat 0=F.getD i 0:=by
 have rf:=h.rf _ (getD_mem (d:=0) hi);rw[gnK,genX_lo (by omega)];omega
theorem gnK_b{n1 n2:Nat}{F G:List Int}(h:Mt n1 n2 F G){i:Nat}(hi:i<F.length):(gnK n1 n2 F G i).getD (n1+G.getD i 0).toNat 0=n1+G.getD i 0:=by
 have hgi:i<G.length:=by rw[<-h.l];exact hi
 have rg:=h.rg _ (getD_mem (d:=0) hgi);have e:(n1+G.getD i 0).toNat=n1+(G.getD i 0).toNat:=by omega
 rw[e,gnK,genX_hi (by rw[mtI_len];omega)];rcases mtI_cases (F:=F.take i) (G:=G.take i) (show (G.getD i 0).toNat<n2 by omega) with ⟨e',_⟩|⟨q,hq,h2,h3⟩
 .rw[e',if_pos (by omega)];omega
 .rw[List.length_take] at hq;rw[take_gd (by omega)] at h2;have:=getD_inj h.g (show q<G.length by omega) hgi (by omega)
  omega
theorem gnK_uni{n1 n2:Nat}{F G:List Int}(h:Mt n1 n2 F G){i:Nat}(hi:i<F.length):uniL (gnK n1 n2 F G i) (F.getD i 0).toNat (n1+G.getD i 0).toNat=gnK n1 n2 F G (i+1):=by
 have rg:=h.rg _ (getD_mem (d:=0) (show i<G.length by rw[<-h.l];exact hi));have rf:=h.rf _ (getD_mem (d:=0) hi);rw[uniL,gnK_a h hi,gnK_b h hi,show max (F.getD i 0) (n1+G.getD i 0)=n1+G.getD i 0 by omega,show min (F.getD i 0) (n1+G.getD i 0)=F.getD i 0 by omega];refine ext_getD (by rw[List.length_set,gnK_len,gnK_len]) fun t ht=>?_
 rw[List.length_set,gnK_len] at ht;rw[gnK_step h hi ht];have hl:=gnK_len n1 n2 F G i;by_cases e:(t:Int)=n1+G.getD i 0
 .rw[if_pos e];have:(n1+G.getD i 0).toNat=t:=by omega
  rw[this,List.getD_eq_getElem?_getD,List.getElem?_set_self (by omega)];rfl
 .rw[if_neg e,List.getD_eq_getElem?_getD,List.getElem?_set_ne (by omega),<-List.getD_eq_getElem?_getD]
theorem gnK_mrg{n1 n2:Nat}{F G:List Int}(h:Mt n1 n2 F G){i:Nat}(hi:i<F.length):mrgK (gnK n1 n2 F G i) (F.getD i 0) (n1+G.getD i 0) (n1+n2)=gnK n1 n2 F G (i+1):=by
 have hgi:i<G.length:=by rw[<-h.l];exact hi
 have rg:=h.rg _ (getD_mem (d:=0) hgi);have rf:=h.rf _ (getD_mem (d:=0) hi);have hl:=gnK_len n1 n2 F G i;refine ext_getD (by rw[mrgK,List.length_map,List.length_take,gnK_len,gnK_len];omega) fun t ht=>?_
 rw[mrgK,List.length_map,List.length_take,gnK_len] at ht;have ht':t<n1+n2:=by omega
 rw[gnK_step h hi ht',mrgK,List.take_of_length_le (by omega)];have e0:((gnK n1 n2 F G i).map fun k=>if k=n1+G.getD i 0 then F.getD i 0 else k).getD t 0=if (gnK n1 n2 F G i).getD t 0=n1+G.getD i 0 then F.getD i 0 else (gnK n1 n2 F G i).getD t 0:=by
  simp only[List.getD_eq_getElem?_getD,List.getElem?_map,List.getElem?_eq_getElem (show t<(gnK n1 n2 F G i).length by omega),Option.map_some,Option.getD_some]
 rw[e0];by_cases e:(t:Int)=n1+G.getD i 0
 .have hb:=gnK_b h hi;have:(n1+G.getD i 0).toNat=t:=by omega
  rw[this] at hb;rw[if_pos e,if_pos hb]
 .rw[if_neg e,if_neg];intro e2
  -- what lies at t is t,or lies below
  by_cases hlo:t<n1
  .rw[gnK,genX_lo hlo] at e2;omega
  .obtain⟨j,rfl⟩:∃j,t=n1+j:=⟨t-n1,by omega⟩
   have hj:j<n2:=by omega
   have hin:=gnK_in h i j (by rw[mtI_len];exact hj);rw[gnK,genX_hi (by rw[mtI_len];exact hj)] at e2;split at e2<;>omega
theorem gnK_all{n1 n2:Nat}{F G:List Int}(h:F.length=G.length):gnK n1 n2 F G F.length=genX n1 (mtI F G n2):=by
 rw[gnK,List.take_length,h,List.take_length]
abbrev prs(l:List (Int × Int)):D:=.sl 2 (l.map fun p=>[D.raw (.int .i64 p.1),D.raw (.int .i64 p.2)])
def prK(n1:Nat)(F G:List Int)(i:Nat):List (Int × Int):=(List.range i).map fun (j:Nat)=>(F.getD j 0,(n1:Int)+G.getD j 0)
theorem prK_len(n1:Nat)(F G:List Int)(i:Nat):(prK n1 F G i).length=i:=by simp[prK]
theorem prK_succ(n1:Nat)(F G:List Int)(i:Nat):prK n1 F G (i+1)=prK n1 F G i++[(F.getD i 0,(n1:Int)+G.getD i 0)]:=by simp[prK,List.range_succ]
theorem prK_get{n1:Nat}{F G:List Int}{i n:Nat}(h:i<n):(prK n1 F G n)[i]'(by rw[prK_len];exact h)=(F.getD i 0,(n1:Int)+G.getD i 0):=by simp[prK]
def stGc(N:Int)(ps:List (Int × Int))(nb:Nat)(box:Bxs)(tok:Tks)(nt:Nat)(i:Nat):AS:=⟨tl [(6,I i),(5,I 0),(4,.osl 0 [] .full),(0,I N),(1,.d (prs ps))],lb nb box [],tok,nt⟩
def stGd(L:List Int)(ps:List (Int × Int))(nb:Nat)(box:Bxs)(tok:Tks)(nt:Nat)(i:Nat):AS:=⟨tl [(8,I i),(7,.d (ints L)),(5,I 0),(4,.osl 0 [] .full),(1,.d (prs ps))],lb nb box [],tok,nt⟩
structure PsOk (n1 n2:Nat) (F G:List Int) (ps:List (Int × Int)):Prop where
 len:ps.length=F.length
 few:F.length<=80
 a:∀i (h:i<ps.length),ps[i].1=F.getD i 0
 b:∀i (h:i<ps.length),ps[i].2=(n1:Int)+G.getD i 0
 r:∀i (h:i<ps.length),0<=ps[i].1/\ps[i].1<n1/\n1<=ps[i].2/\ps[i].2<((n1+n2:Nat):Int)
theorem psOk{n1 n2:Nat}{F G:List Int}(h:Mt n1 n2 F G)(hn:n1+n2<=80):PsOk n1 n2 F G (prK n1 F G F.length):=by
 refine⟨prK_len _ _ _ _,?_,fun i hi=>?_,fun i hi=>?_,fun i hi=>?_⟩
 .have:=nodup_le F (iota n1) h.f fun x hx=>by
   have:=h.rf x hx
   simp only[iota,List.mem_map,List.mem_range];exact⟨x.toNat,by omega,by omega⟩
  rw[iota_len] at this;omega
 .rw[prK_len] at hi;rw[prK_get hi]
 .rw[prK_len] at hi;rw[prK_get hi]
 .rw[prK_len] at hi;rw[prK_get hi];have rg:=h.rg _ (getD_mem (d:=0) (show i<G.length by rw[<-h.l];exact hi));have rf:=h.rf _ (getD_mem (d:=0) hi);exact⟨by omega,by omega,by simp only;omega,by simp only;omega⟩
theorem generate02_c(n1 n2:Nat)(F G:List Int)(h:Mt n1 n2 F G)(hn:n1+n2<=80):DC 205 [I ((n1+n2:Nat):Int),.d (prs (prK n1 F G F.length))] (.tup [.d (ints (genX n1 (mtI F G n2))),I 0]):=by
 intro tok nt box nb;have hf:=finest_c (n1+n2) (by omega);rw[<-gnK_zero n1 n2 F G] at hf;have hk:¬(80:Int)<((n1+n2:Nat):Int):=by omega
 have hk2:¬((n1+n2:Nat):Int)<0:=by omega
 have P:=psOk h hn;have hRf:genX n1 (mtI F G n2)=gnK n1 n2 F G F.length:=(gnK_all h.l).symm
 generalize prK n1 F G F.length=ps at *;have hNv:((n1+n2:Nat):Int)=(n1:Int)+n2:=by omega
 have pl:=P.len;have pf:=P.few;rw[hRf];generalize hN:((n1+n2:Nat):Int)=N at *;refine sI func205 ntmps205 fun Hb Ht=>?_
 repeat first|simp[hk,hk2]|refine sR ?_
 refine sC ?_;simp;repeat first|simp[hk2]|refine sR ?_
 refine sC ?_;repeat first|simp|refine sR ?_
 refine sN ?_;refine sL (stGc N ps nb box tok nt) (fun i=>i<=ps.length) (fun i=>ps.length-i) 0 (Nat.zero_le _) (wM (nr _) rfl (by simp[ToL,lk]) trivial) ?_;rintro i S hi hS;simp only[stGc] at hS;subst hS;have hw:=sW (i:=i) (by omega);repeat first|simp|refine sR ?_|refine sC ?_
 refine⟨fun hlt=>?_,fun hge=>?_⟩
 .obtain⟨p1,p2,p3,p4⟩:=P.r i hlt;have q1:¬ps[i].1<0:=by omega
  have q2:¬N<=ps[i].1:=by omega
  have q3:¬ps[i].2<0:=by omega
  have q4:¬N<=ps[i].2:=by omega
  repeat first|simp[hlt,q1,q2,q3,q4]|refine sR ?_
  refine sC ?_;simp;repeat first|simp[hw]|refine sR ?_
  refine sE ?_;exact⟨i+1,hlt,by omega,wM (nr _) rfl (by simp[ToL,lk]) trivial⟩
 .refine sX ?_;simp only[AU,↓reduceIte];repeat first|simp|refine sR ?_
  refine sD (hf _ _) ?_;repeat first|simp|refine sR ?_
  refine sN ?_;refine sL (fun i=>stGd (gnK n1 n2 F G i) ps nb box tok nt i) (fun i=>i<=ps.length) (fun i=>ps.length-i) 0 (Nat.zero_le _) (wM (nr _) rfl (by simp[ToL,lk]) trivial) ?_;rintro i S hi hS;simp only[stGd] at hS;subst hS;have hw:=sW (i:=i) (by omega);repeat first|simp|refine sR ?_|refine sC ?_
  refine⟨fun hlt=>?_,fun hge=>?_⟩
  .obtain⟨p1,p2,p3,p4⟩:=P.r i hlt;have hiF:i<F.length:=by omega
   have hln:=gnK_len n1 n2 F G i;have hm:=merge73_c (gnK n1 n2 F G i) ps[i].1.toNat ps[i].2.toNat (by omega) (by omega) (by omega);have ga:=gnK_a h hiF;have gb:=gnK_b h hiF;rw[<-P.a i hlt] at ga;rw[<-P.b i hlt] at gb;have ga':(gnK n1 n2 F G i)[ps[i].1.toNat]'(by omega)=ps[i].1:=by
    rw[List.getD_eq_getElem?_getD,List.getElem?_eq_getElem (by omega)] at ga;exact ga
   have gb':(gnK n1 n2 F G i)[ps[i].2.toNat]'(by omega)=ps[i].2:=by
    rw[List.getD_eq_getElem?_getD,List.getElem?_eq_getElem (by omega)] at gb;exact gb
   rw[ga',gb',show min ps[i].1 ps[i].2=ps[i].1 by omega,show max ps[i].1 ps[i].2=ps[i].2 by omega,hln,show ((ps[i].1.toNat:Nat):Int)=ps[i].1 by omega,show ((ps[i].2.toNat:Nat):Int)=ps[i].2 by omega,P.a i hlt,P.b i hlt,gnK_mrg h hiF,<-P.a i hlt,<-P.b i hlt] at hm;repeat first|simp[hlt]|refine sR ?_
   refine sD (hm _ _) ?_;simp;repeat first|simp[hw]|refine sR ?_
   refine sE ?_;exact⟨i+1,hlt,by omega,wM (nr _) rfl (by simp[ToL,lk]) trivial⟩
  .refine sX ?_;simp only[AU,↓reduceIte];have:i=F.length:=by omega
   subst this;repeat first|simp|refine sR ?_
   refine sT (sH Hb Ht ?_);simp
def stGe(N:Int)(n1 n2:Nat)(F G:List Int)(ps:List (Int × Int))(nb:Nat)(box:Bxs)(tok:Tks)(nt:Nat)(i:Nat):AS :=
 ⟨tl [(17,I i),(16,I ps.length),(15,.d (prs ps)),(6,.msl (nb+6) 0 (n1+n2) 1),(5,I 0),(4,.osl 0 [] .full),(0,I N)],lb nb box [(6,rowsI (gnK n1 n2 F G i))],tok,nt⟩
theorem generateP_c(n1 n2:Nat)(F G:List Int)(h:Mt n1 n2 F G)(hn:n1+n2<=80):DC 338 [I ((n1+n2:Nat):Int),.d (prs (prK n1 F G F.length))] (.tup [.d (ints (genX n1 (mtI F G n2))),I 0]):=by
 intro tok nt box nb;have hf:=finestP_c (n1+n2) (by omega);rw[<-gnK_zero n1 n2 F G] at hf;have hk:¬(80:Int)<((n1+n2:Nat):Int):=by omega
 have hk2:¬((n1+n2:Nat):Int)<0:=by omega
 have P:=psOk h hn;have hRf:genX n1 (mtI F G n2)=gnK n1 n2 F G F.length:=(gnK_all h.l).symm
 generalize prK n1 F G F.length=ps at *;have hNv:((n1+n2:Nat):Int)=(n1:Int)+n2:=by omega
 have pl:=P.len;have pf:=P.few;rw[hRf];generalize hN:((n1+n2:Nat):Int)=N at *;refine sI func338 ntmps338 fun Hb Ht=>?_
 repeat first|simp[hk,hk2]|refine sR ?_
 refine sC ?_;simp;repeat first|simp[hk2]|refine sR ?_
 refine sC ?_;repeat first|simp|refine sR ?_
 refine sD (hf _ _) ?_;repeat first|simp|refine sR ?_
 refine sN ?_;have hl0:=gnK_len n1 n2 F G 0;refine AL.weak (wM (l':=[(17,I 0),(16,I ps.length),(15,.d (prs ps)),(6,.ex nt 1 (rI (gnK n1 n2 F G 0))),(5,I 0),(4,.osl 0 [] .full),(0,I N)]) (loc':=[]) (Nat.le_succ _) rfl (by simp[ToL]) (by simp[BoxL])) ?_;refine AL.trans (Trans.thawI (l':=[(17,I 0),(16,I ps.length),(15,.d (prs ps)),(6,.msl (nb+6) 0 (n1+n2) 1),(5,I 0),(4,.osl 0 [] .full),(0,I N)]) (loc':=[]) nt 6 (gnK n1 n2 F G 0) 6 rfl (by show 6<50;decide) rfl (uS _ _ _) rfl
  ⟨rfl,.same,rfl,.same,rfl,.same,rfl,thTo_exI hl0.symm,rfl,.same,rfl,.same,rfl,.same,trivial⟩ trivial) ?_
 have htt:∀t,tok t=true->upd (upd tok nt true) nt false t=true:=fun t ht=>by
  have:=Ht t ht
  rw[uO _ _ (by omega),uO _ _ (by omega)];exact ht
 generalize upd (upd tok nt true) nt false=tok1 at *;refine sL (stGe N n1 n2 F G ps nb box tok1 (nt+1)) (fun i=>i<=ps.length) (fun i=>ps.length-i) 0 (Nat.zero_le _) (wM (Nat.le_succ _) rfl (by simp[ToL,lk]) (by simp[BoxL,lk])) ?_;rintro i S hi hS;simp only[stGe] at hS;subst hS;have hw:=sW (i:=i) (by omega);have hln:=gnK_len n1 n2 F G i;have hpt:=gnK_part h i;repeat first|simp|refine sR ?_|refine sC ?_
 refine⟨fun hlt=>?_,fun hge=>?_⟩
 .obtain⟨p1,p2,p3,p4⟩:=P.r i hlt;have q1:¬ps[i].1<0:=by omega
  have q2:¬N<=ps[i].1:=by omega
  have q3:¬ps[i].2<0:=by omega
  have q4:¬N<=ps[i].2:=by omega
  have hiF:i<F.length:=by omega
  have hu:=unite_c (gnK n1 n2 F G i) ps[i].1.toNat ps[i].2.toNat (by omega) (by omega) (by omega) hpt;have eu:uniL (gnK n1 n2 F G i) ps[i].1.toNat ps[i].2.toNat=gnK n1 n2 F G (i+1):=by rw[P.a i hlt,P.b i hlt];exact gnK_uni h hiF
  rw[eu,hln,show ((ps[i].1.toNat:Nat):Int)=ps[i].1 by omega,show ((ps[i].2.toNat:Nat):Int)=ps[i].2 by omega] at hu;refine sR ?_;simp[hlt];generalize ps[i]=y at *;repeat first|simp[q1,q2,q3,q4]|refine sR ?_
  refine sC ?_;repeat first|simp|refine sR ?_
  refine Stop.of_a (hu _ (nb+6) (by simp[lk]) _ _ _) ?_;rintro v m' ⟨rfl,rfl⟩;simp;repeat first|simp[hw]|refine sR ?_
  refine sE ?_;exact⟨i+1,hlt,by omega,wM (Nat.le_succ _) rfl (by simp[ToL,lk]) (by simp[BoxL,lk])⟩
 .refine sX ?_;simp only[AU,↓reduceIte];have:i=F.length:=by omega
  subst this;have hfl:=flat_c (gnK n1 n2 F G F.length) (by omega) hpt;rw[hln] at hfl;repeat first|simp|refine sR ?_
  refine Stop.of_a (hfl _ (nb+6) (by simp[lk]) _ _ _) ?_;rintro v m' ⟨rfl,rfl⟩;repeat first|simp|refine sR ?_
  refine AL.weak (Weaks.frz (l':=[(4,.d (ints (gnK n1 n2 F G F.length))),(5,I 0)]) (loc':=[]) 6 1 (rI (gnK n1 n2 F G F.length)) (Nat.le_succ _) rfl (by simp[lk,rowsI_eq]) (by simp[lk]) (by simp) (by simp[ToL,lk,hln]) (by simp[BoxL])) ?_;refine sT ?_;try simp only[AU]
  refine⟨by simp,sF Hb Ht htt (Nat.le_succ _) ?_⟩;simp
end Go.AM
