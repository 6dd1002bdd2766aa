/-
 Parts of the proof, as merged from many texts: a machine over data, what the functions compute, plain laws.
-/
import Derived.Test.YtainalmfffjnjaaGreatDoorPTP9
set_option linter.unusedSimpArgs false
set_option linter.unusedVariables false
namespace Go.AM
open Go Go.Proofs
open Go.Proofs.Tryz
theorem cloneStr_c(xs:List ByteArray)(hx:xs.length<=1000000):DC 293 [.d (strs xs)] (.d (strs xs)):=by
 intro tok nt box nb;refine sI func293 ntmps293 fun Hb Ht=>?_
 have hkk:TK tok nt (upd tok nt true) (nt+1) [.tok nt]:=(TK.start Ht).full.app
 refine sR ?_;simp;refine sR ?_;simp;refine⟨?_,fun h=>?_⟩
 .refine sC ?_;simp;refine sR ?_;simp;refine⟨by omega,?_⟩;refine sT (sG Hb Ht hkk.old hkk.le ?_);simp[strs]
 .subst h;refine sC ?_;simp;refine sR ?_;simp;refine sT (sH Hb Ht ?_);simp[strs]
def stAtP(A:List At)(nb:Nat)(box:Bxs)(R:List (List AV))(tok:Tks)(nt:Nat)(i:Nat):AS :=
 ⟨tl [(20,I A.length),(21,I i),(7,.msl (nb+7) 0 A.length 4)],lb nb box [(7,rowsD (A.map At.cells)++R)],tok,nt⟩
set_option maxRecDepth 100000 in
theorem attrsP_c(t:Ty)(ht:t.Fit)(hM:∀i,(t.nd i).own.length<=1000)(i:Nat)(hi:i<t.nodes.length)(hp:∀j,j<=i->(t.nd j).par<j)(hg:givE t [(i:Int)]=0)(hN:∀a∈atsL t i,a.names.length<=1000000):DC 265 [t.av,I i] (.tup [.d (atts (atsL t i)),I 0]):=by
 intro tok nt box nb;obtain⟨tok1,nt1,u,hk,hc⟩:=attrsK_c t ht hM (i+1) i (Nat.lt_succ_self _) hi hp tok nt;have hlen:=atsL_len hM (i+1) i (Nat.lt_succ_self _);have hb:(i+1)*1000<=1000*1000:=Nat.mul_le_mul_right _ (by have:=ht.n;omega)
 have hgc:=fun tok nt=>given_c t ht [(i:Int)] (by simp) tok nt
 rw[hg] at hgc;generalize atsL t i=A at *;refine sI func265 ntmps265 fun Hb Ht=>?_
 have hkk:=hk Ht;repeat first|simp|refine sR ?_
 refine Stop.sub (args':=[t.av,.d (ints [(i:Int)])]) ⟨Sub.refl _,Sub.data _ _ _,trivial⟩ ?_;refine sD (hgc _ _) ?_;simp;try (simp)
 repeat ((first|refine sR ?_|refine sC ?_|refine sX ?_);simp)
 refine sD (hc) ?_;repeat first|simp|refine sR ?_
 refine AL.weak (wM (l':=[(21,I 0),(20,I A.length),(7,.stk u 4 (A.map At.cells))]) (loc':=[]) hkk.le rfl (by simp[ToL,lk]) (by simp[BoxL,lk])) ?_;by_cases hne:A=[]
 .subst hne;refine AL.stkD u hkk.live ?_;simp only[List.map_cons,List.map_nil,AV.sdT,↓reduceIte];have htk0:TK tok nt (upd tok1 u false) nt1 [.full]:=hkk.spend.full
  refine sN ?_;refine sL (fun (_:Unit)=>⟨tl [(20,I 0),(21,I 0),(7,.d (.sl 4 []))],lb nb box [],upd tok1 u false,nt1⟩) (fun _=>True) (fun _=>0) () trivial (wM htk0.le rfl (by simp[ToL,lk]) trivial) ?_;rintro _ S _ hS;subst hS;try (simp)
  repeat ((first|refine sR ?_|refine sC ?_|refine sX ?_);simp)
  refine sT (sG Hb Ht htk0.old htk0.le ?_);simp[atts]
 refine AL.thawS (l':=[(21,I 0),(20,I A.length),(7,.msl (nb+7) 0 A.length 4)]) (loc':=[]) u 7 4 (A.map At.cells) 7 rfl (show (7:Nat)<36 by decide) rfl hkk.live (by simpa using hne) rfl (by simp[CvL]) trivial ?_;intro mm;have hro:∀(p q:Nat->Prop) fz,RowsTo p q fz (rowsD (A.map At.cells)++List.replicate mm (List.replicate 4 AV.bot)) (rowsD (A.map At.cells)++List.replicate mm (List.replicate 4 AV.bot)):=fun p q fz=>rowsTo_same fun r hr x hx=>by
  rcases List.mem_append.1 hr with hr|hr
  .obtain⟨e,_,rfl⟩:=List.mem_map.1 hr;obtain⟨d,_,rfl⟩:=List.mem_map.1 hx;exact .d
  .rw[List.eq_of_mem_replicate hr] at hx;rw[List.eq_of_mem_replicate hx];exact .bot
 generalize hRm:List.replicate mm (List.replicate 4 AV.bot)=R at *;have htk1:TK tok nt (upd tok1 u false) nt1 [.full]:=hkk.spend.full
 generalize upd tok1 u false=tok2 at *;refine sN ?_;refine sL (stAtP A nb box R tok2 nt1) (fun i=>i<=A.length) (fun i=>A.length-i) 0 (Nat.zero_le _) (wM htk1.le rfl (by simp[ToL,lk]) (by simp only[BoxL,lk_cons,↓reduceIte,and_true];exact⟨_,rfl,hro _ _ _⟩)) ?_;rintro j S hj hS;simp only[stAtP] at hS;subst hS;have hw:=sW (i:=j) (by omega);repeat first|simp|refine sR ?_|refine sC ?_
 refine⟨fun hlt=>?_,fun hge=>?_⟩
 .have hrow:(rowsD (A.map At.cells)++R)[j]?=some [Sb A[j].name,I A[j].lo,I A[j].hi,.d (strs A[j].names)]:=by
   rw[List.getElem?_append_left (by simpa[rowsD] using hlt)];simp[rowsD,hlt]
  have hset:(rowsD (A.map At.cells)).set j [Sb A[j].name,I A[j].lo,I A[j].hi,.d (strs A[j].names)]=rowsD (A.map At.cells):=by
   refine List.ext_getElem? fun k=>?_
   rw[List.getElem?_set];split
   .rename_i e;subst e;simp[rowsD,hlt]
   .rfl
  have hcl:=cloneStr_c A[j].names (hN _ (List.getElem_mem hlt));try (simp[hlt,hrow])
  repeat ((first|refine sR ?_|refine sC ?_|refine sX ?_);simp[hlt,hrow])
  refine sD (hcl _ _) ?_;simp[hlt,hrow];try (simp[hlt,hrow,hset,hw])
  repeat ((first|refine sR ?_|refine sC ?_|refine sX ?_);simp[hlt,hrow,hset,hw])
  refine sE ?_;exact⟨j+1,hlt,by omega,wM htk1.le rfl (by simp[ToL,lk]) (by simp only[BoxL,lk_cons,↓reduceIte,and_true];exact⟨_,rfl,hro _ _ _⟩)⟩
 .refine sX ?_;simp only[AU,↓reduceIte];have:j=A.length:=by omega
  subst this;try (simp)
  repeat ((first|refine sR ?_|refine sC ?_|refine sX ?_);simp)
  refine AL.weak (wM (l':=[(5,I 0),(4,.msl (nb+7) 0 A.length 4)]) (loc':=[(7,rowsD (A.map At.cells)++R)]) htk1.le rfl (by simp[ToL,lk,lb_at]) (by simp only[BoxL,lk_cons,↓reduceIte,and_true];exact⟨_,rfl,hro _ _ _⟩)) ?_;have hes:(A.map At.cells).length=A.length:=by simp
  refine AL.trans (Trans.sealD (l:=[(5,I 0),(4,.msl (nb+7) 0 A.length 4)]) (l':=[(5,I 0),(4,.d (atts A))]) (loc:=[]) (loc':=[]) 7 4 (A.map At.cells) R 4 rfl (fun e he=>by obtain⟨b,_,rfl⟩:=List.mem_map.1 he;rfl) (by rw[hes];rfl) rfl ⟨rfl,.same (by simp),rfl,by have:=@SpTo.msl (nb+7) 4 (A.map At.cells);rw[hes] at this;exact this,trivial⟩ trivial) ?_;refine sT (sG Hb Ht htk1.old htk1.le ?_);simp
def atsK(t:Ty)(k:Int):List At:=if k.toNat<t.nodes.length then atsL t k.toNat else []
theorem hostV_c(t:Ty)(ht:t.Fit)(h:Hs)(hg:h.g.Fit)(hv:h.vals.length<=1000000)(tok:Tks)(nt:Nat):
  DCall prog 154 [t.av,h.av] tok nt (.tup [I (hostR t (atsK t) h).1,I (hostR t (atsK t) h).2]) tok nt:=by
 refine hostValid_c t ht ht.hM (atsK t) (fun k=>?_) h hg hv tok nt fun h0 k hk hlt _=>?_
 .unfold atsK;split
  .have:=atsL_len ht.hM (k.toNat+1) k.toNat (Nat.lt_succ_self _)
   have hb:(k.toNat+1)*1000<=1000*1000:=Nat.mul_le_mul_right _ (by have:=ht.n;omega)
   omega
  .simp
 .have hi:k.toNat<t.nodes.length:=by omega
  have hkk:((k.toNat:Nat):Int)=k:=by omega
  have hgv:givE t [((k.toNat:Nat):Int)]=0:=by
   unfold givE;rw[if_pos h0,hkk];simp[anyB,insB,hk,hlt]
  have:=attrsP_c t ht ht.hM k.toNat hi (fun j hj=>tyE_par h0 j (by omega)) hgv (fun a ha=>(atsL_fit ht (k.toNat+1) k.toNat (Nat.lt_succ_self _) a ha).l.n) tok nt
  rw[hkk] at this;unfold atsK;rw[if_pos hi];exact this
theorem rowsBX_get{xs:List Bool}{i:Nat}(h:i<xs.length)(R:List (List AV)):(rowsB xs++R)[i]?=some [AV.d (.raw (.bool xs[i]))]:=by
 rw[List.getElem?_append_left (by simpa[rowsB] using h)];simp[rowsB,h]
theorem rowsBX_set(xs:List Bool)(i:Nat)(h:i<xs.length)(b:Bool)(R:List (List AV)):(rowsB xs++R).set i [AV.d (.raw (.bool b))]=rowsB (xs.set i b)++R:=by
 rw[List.set_append_left _ _ (by simpa[rowsB] using h)];simp[rowsB,List.map_set]
theorem rowsBX_to(xs:List Bool)(m:Nat)(p q:Nat->Prop)(fz:Option (Nat × Nat × List (List D))):RowsTo p q fz (rowsB xs++List.replicate m (List.replicate 1 AV.bot)) (rowsB xs++List.replicate m (List.replicate 1 AV.bot)):=rowsTo_same fun r hr x hx=>by
 rcases List.mem_append.1 hr with hr|hr
 .obtain⟨e,_,rfl⟩:=List.mem_map.1 hr;rw[List.mem_singleton.1 hx];exact .d
 .rw[List.eq_of_mem_replicate hr] at hx;rw[List.eq_of_mem_replicate hx];exact .bot
theorem rowsD_Bo(xs:List Bool):rowsD (rBo xs)=rowsB xs:=(rowsB_eq xs).symm
theorem cvB_refl{R:AV->AV->Prop}(h:∀x,R x x):∀l:List (Nat × List (List AV)),CvB R l l
 | []=>trivial
 | (i,x)::l=>⟨rfl,⟨rfl,fun i h1 h2=>⟨rfl,fun j g1 g2=>h _⟩⟩,cvB_refl h l⟩
structure UnA where
 i:Nat
 sz:Nat
 own:Own
 tok:Nat->Bool
 nt:Nat
def stUnA(m:Mdl)(f g:List Bool)(R:List (List AV))(nb:Nat)(box:Bxs)(a:UnA):AS :=
 ⟨tl [(16,.msl (nb+7) 0 g.length 1),(17,I g.length),(18,I a.i),(8,.osl a.sz (rI (trueTo g a.i)) a.own),(7,.msl (nb+7) 0 g.length 1),(1,.d (bools f)),(3,.ptr (nb+3) 0 0)],lb nb box [(7,rowsB g++R),(3,[m.row])],a.tok,a.nt⟩
structure UnB where
 out:List Bool
 q:List Int
 t:Nat
 tok:Nat->Bool
 nt:Nat
def stUnB(m:Mdl)(f:List Bool)(n:Nat)(R:List (List AV))(nb:Nat)(box:Bxs)(a:UnB):AS :=
 ⟨tl [(8,.que a.t 1 (rI a.q)),(7,.msl (nb+7) 0 n 1),(1,.d (bools f)),(3,.ptr (nb+3) 0 0)],lb nb box [(7,rowsB a.out++R),(3,[m.row])],a.tok,a.nt⟩
structure UnC where
 j:Nat
 out:List Bool
 q:List Int
 t:Nat
 tok:Nat->Bool
 nt:Nat
def stUnC(m:Mdl)(f:List Bool)(n:Nat)(r:List Int)(R:List (List AV))(nb:Nat)(box:Bxs)(a:UnC):AS :=
 ⟨tl [(41,.d (ints r)),(42,I r.length),(43,I a.j),(8,.que a.t 1 (rI a.q)),(7,.msl (nb+7) 0 n 1),(1,.d (bools f)),(3,.ptr (nb+3) 0 0)],lb nb box [(7,rowsB a.out++R),(3,[m.row])],a.tok,a.nt⟩
set_option maxRecDepth 100000 in
theorem untilT_c(m:Mdl)(f g:List Bool)(hm:m.Ok g.length)(hf:f.length=g.length):DC 159 [m.av,.d (bools f),.d (bools g)] (.d (bools (untilR m.prev f g))):=by
 intro tok nt box nb;have hle:=hm.le;have hpos:=hm.pos;have hgne:g≠[]:=fun h=>by rw[h] at hpos;simp at hpos
 obtain⟨Res,hRes⟩:∃Res,untilR m.prev f g=Res:=⟨_,rfl⟩
 rw[hRes];have hcl:=cloneB_c g hgne (by omega) tok nt;refine sI func159 ntmps159 fun Hb Ht=>?_
 repeat first|simp|refine sR ?_
 refine sD (hcl) ?_;repeat first|simp|refine sR ?_
 have htk0:TK tok nt (upd (upd (upd tok nt true) nt false) (nt+1) true) (nt+2) [.tok (nt+1)]:=(((TK.start Ht).full.app).app:TK _ _ _ _ _)
 generalize (upd (upd (upd tok nt true) nt false) (nt+1) true)=tok1 at *;refine AL.thawS (l':=[(18,I 0),(17,I g.length),(16,.msl (nb+7) 0 g.length 1),(8,.osl 0 [] .full),(7,.msl (nb+7) 0 g.length 1),(15,.bot),(14,.bot),(6,.bot),(3,.ptr (nb+3) 0 0),(0,.bot),(1,.d (bools f)),(2,.bot)]) (loc':=[(3,[m.row])]) (nt+1) 7 1 (rBo g) 7 rfl (show (7:Nat)<67 by decide) rfl htk0.live (by simpa using hgne) rfl (by simp[CvL]) (cvB_refl (fun _=>.same) _) ?_;intro mm;rw[rowsD_Bo];have hro:=fun xs=>rowsBX_to xs mm
 generalize hRm:List.replicate mm (List.replicate 1 AV.bot)=R at *;have htk1:TK tok nt (upd tok1 (nt+1) false) (nt+2) [.full]:=by
  have:=htk0
  refine(TK.full ⟨fun t ht=>?_,this.lt,this.le,by simp,.nil⟩);have hlt:=Ht t ht;rw[uO _ _ (by omega)];exact this.old t ht
 generalize upd tok1 (nt+1) false=tok2 at *;refine sN ?_;refine sL (stUnA m f g R nb box) (fun a=>a.i<=g.length/\TK tok nt a.tok a.nt [a.own]/\((a.sz=1/\∃t,a.own=.tok t)∨trueTo g a.i=[]/\a.own=.full)) (fun a=>g.length-a.i) ⟨0,0,.full,tok2,nt+2⟩ ⟨Nat.zero_le _,htk1,.inr ⟨by simp[trueTo],rfl⟩⟩ (wM (by omega) rfl (by simp[ToL,lk,trueTo]) (by simp[BoxL,lk];exact hro _ _ _ _)) ?_;rintro⟨i,sz,own,tok3,nt3⟩ S ⟨hi,htk,hsz⟩ hS;simp only[stUnA] at hS hi htk hsz;subst hS;have hw:=sW (i:=i) (by omega);repeat first|simp|refine sR ?_|refine sC ?_
 refine⟨fun hlt=>?_,fun hge=>?_⟩
 .have hts:=trueTo_succ hlt;have hrg:=rowsBX_get hlt R;have htl:=trueTo_len g i;repeat first|simp[hlt,hrg]|refine sR ?_
  cases e:g[i]
  .rw[e] at hts;simp only[Bool.false_eq_true,↓reduceIte] at hts;try (simp[e,hw])
   repeat ((first|refine sR ?_|refine sC ?_|refine sX ?_);simp[e,hw])
   refine sE ?_;exact⟨⟨i+1,sz,own,tok3,nt3⟩,⟨hlt,htk,by simpa[hts] using hsz⟩,by simp only;omega,wM htk.le rfl (by simp[ToL,lk,hts]) (by simp[BoxL,lk];exact hro _ _ _ _)⟩
  .rw[e] at hts;simp only[↓reduceIte] at hts;try (simp[e])
   repeat ((first|refine sR ?_|refine sC ?_|refine sX ?_);simp[e])
   refine⟨⟨hsz.imp (fun h=>h.1) (fun h=>⟨h.1,h.2⟩),by omega,htk.live⟩,?_⟩;try (simp[e,hw])
   repeat ((first|refine sR ?_|refine sC ?_|refine sX ?_);simp[e,hw])
   refine sE ?_;exact⟨⟨i+1,1,.tok nt3,_,nt3+1⟩,⟨hlt,htk.app,.inl ⟨rfl,_,rfl⟩⟩,by simp only;omega,wM (Nat.le_succ_of_le htk.le) rfl (by simp[ToL,lk,hts]) (by simp[BoxL,lk];exact hro _ _ _ _)⟩
 .refine sX ?_;simp only[AU,↓reduceIte];have:i=g.length:=by omega
  subst this;have hini:bfs m.prev f (bfM (g,trueIx g)) g (trueIx g)=Res:=by rw[trueIx_len];exact hRes
  have hqin:=trueTo_in (g:=g) (nr _);have hqm:bfM (g,trueIx g)<=g.length:=by rw[trueIx_len];exact nr _
  rw[trueTo_all] at hsz hqin ⊢;generalize trueIx g=q0 at *
  -- the list of the indices becomes a queue
  obtain⟨tq,htkq,htr⟩:∃tq,TK tok nt (upd tok3 nt3 true) (nt3+1) [.tok tq]/\QuTo nt3 1 (.osl sz (rI q0) own) (.que tq 1 (rI q0)):=by
   rcases hsz with ⟨h,t,h2⟩|⟨h1,h2⟩
   .subst h;subst h2;exact⟨t,htk.full.app.tail,.tok⟩
   .subst h1;subst h2;exact⟨nt3,htk.app,.nil⟩
  refine AL.trans (Trans.que (l':=[(19,.bot),(16,.bot),(17,.bot),(18,.bot),(8,.que tq 1 (rI q0)),(7,.msl (nb+7) 0 g.length 1),(1,.d (bools f)),(3,.ptr (nb+3) 0 0)]) (loc':=[(7,rowsB g++R),(3,[m.row])]) 1 ⟨rfl,.bot,rfl,.bot,rfl,.bot,rfl,.bot,rfl,htr,rfl,.same,rfl,.same,rfl,.same,trivial⟩ (cvB_refl (fun _=>.same) _)) ?_;generalize upd tok3 nt3 true=tok4 at *;generalize hnt4:nt3+1=nt4 at *;have hres:∀(a:UnB) (K:Exit->AS->Prop),True:=fun _ _=>trivial
  refine sN ?_;refine sL (stUnB m f g.length R nb box) (fun a=>TK tok nt a.tok a.nt [.tok a.t]/\a.out.length=g.length/\(∀k∈a.q,inR g.length k)/\bfM (a.out,a.q)<=g.length/\bfs m.prev f (bfM (a.out,a.q)) a.out a.q=Res) (fun a=>bfM (a.out,a.q)) ⟨g,q0,tq,tok4,nt4⟩ ⟨htkq,rfl,hqin,hqm,hini⟩ (wM htkq.le rfl (by simp[ToL,lk]) (by simp[BoxL,lk];exact hro _ _ _ _)) ?_;rintro⟨out,q,t,tok5,nt5⟩ S ⟨htk5,hol,hqr,hbm,hbf⟩ hS;simp only[stUnB] at hS htk5 hol hqr hbm hbf;subst hS;cases q with
  | nil =>
   rw[bfs_nil] at hbf;subst hbf;try (simp)
   repeat ((first|refine sR ?_|refine sC ?_|refine sX ?_);simp)
   refine AL.weak (wM (l':=[(6,.msl (nb+7) 0 g.length 1)]) (loc':=[(7,rowsD (rBo out)++R)]) htk5.le rfl (by simp[ToL,lk,lb_at]) (by rw[rowsD_Bo];simp only[BoxL,lk_cons,↓reduceIte,and_true];exact⟨_,rfl,hro _ _ _ _⟩)) ?_;have hes:(rBo out).length=g.length:=by simpa using hol
   refine AL.trans (Trans.sealD (l:=[(6,.msl (nb+7) 0 g.length 1)]) (l':=[(6,.d (bools out))]) (loc:=[]) (loc':=[]) 7 1 (rBo out) R 6 rfl (fun e he=>by obtain⟨b,_,rfl⟩:=List.mem_map.1 he;rfl) (by rw[hes];rfl) rfl ⟨rfl,by have:=@SpTo.msl (nb+7) 1 (rBo out);rw[hes] at this;exact this,trivial⟩ trivial) ?_;refine sT (sG Hb Ht htk5.old htk5.le ?_);simp
  | cons k q =>
   obtain⟨hk1,hk2⟩:=hqr k (by simp);have hpl:=hm.prev;have hk3:k.toNat<m.prev.length:=by omega
   have hk4:k<(m.prev.length:Int):=by omega
   obtain⟨r,hr⟩:∃r,m.prev[k.toNat]=r:=⟨_,rfl⟩
   have hrR:=hm.prevR _ (List.getElem_mem hk3);have hrL:=hm.prevL _ (List.getElem_mem hk3);rw[hr] at hrR hrL;have hrd:m.prev.getD k.toNat []=r:=by simp[hk3,hr]
   have hms:bfM (out,k::q)=bfM (out,q)+1:=by simp[bfM];omega
   rw[hms,bfs,hrd] at hbf;have hfm:=(bfsF_m (f:=f) r (out,q) (by rw[hol];exact hrR));have hql:q.length<=g.length:=by
    have:=hbm
    simp[bfM] at this;omega
   try (simp[hk1,hk3,hk4,hr])
   repeat ((first|refine sR ?_|refine sC ?_|refine sX ?_);simp[hk1,hk3,hk4,hr])
   refine sN ?_;obtain⟨F,hF⟩:∃F,r.foldl (bfsS f) (out,q)=F:=⟨_,rfl⟩
   rw[hF] at hbf hfm;refine sL (stUnC m f g.length r R nb box) (fun a=>a.j<=r.length/\TK tok nt a.tok a.nt [.tok a.t]/\a.out.length=g.length/\(∀k∈a.q,inR g.length k)/\(r.drop a.j).foldl (bfsS f) (a.out,a.q)=F/\bfM (a.out,a.q)=bfM (out,q)) (fun a=>r.length-a.j) ⟨0,out,q,t,tok5,nt5⟩ ⟨Nat.zero_le _,htk5,hol,fun x hx=>hqr x (by simp[hx]),hF,rfl⟩ (wM htk5.le rfl (by simp[ToL,lk]) (by simp[BoxL,lk];exact hro _ _ _ _)) ?_;rintro⟨j,out2,q2,t2,tok6,nt6⟩ S ⟨hj,htk6,hol2,hqr2,hF2,hm2⟩ hS;simp only[stUnC] at hS hj htk6 hol2 hqr2 hF2 hm2;subst hS;have hw2:=sW (i:=j) (by omega);repeat first|simp|refine sR ?_|refine sC ?_
   refine⟨fun hlt=>?_,fun hge=>?_⟩
   .obtain⟨hx1,hx2⟩:=hrR _ (List.getElem_mem hlt);rw[List.drop_eq_getElem_cons hlt,List.foldl_cons] at hF2;have hstep:=bfsS_m (f:=f) (s:=(out2,q2)) (i:=r[j]) (by simp only[hol2];exact⟨hx1,hx2⟩);have hin:=bfsS_in (f:=f) (s:=(out2,q2)) (i:=r[j]) ⟨hx1,hx2⟩ hqr2;unfold bfsS at hF2 hstep hin;have hx3:r[j].toNat<out2.length:=by omega
    have hx4:r[j]<(g.length:Int):=hx2
    have hx5:r[j].toNat<f.length:=by omega
    have hx6:r[j]<(f.length:Int):=by omega
    have hg1:out2.getD r[j].toNat false=out2[r[j].toNat]:=by simp[hx3]
    have hg2:f.getD r[j].toNat false=f[r[j].toNat]:=by simp[hx5]
    have hrg:=rowsBX_get hx3 R;have hrs:=rowsBX_set out2 r[j].toNat hx3 true R;rw[hg1,hg2] at hF2 hstep hin;repeat first|simp[hlt,hx1,hx3,hx4,hx5,hrg]|refine sR ?_
    cases e1:out2[r[j].toNat]
    .try (simp[e1,hx1,hx3,hx4,hx5,hx6])
     repeat ((first|refine sR ?_|refine sC ?_|refine sX ?_);simp[e1,hx1,hx3,hx4,hx5,hx6])
     rw[e1] at hF2 hstep hin;simp only[true_and] at hF2 hstep hin;cases e2:f[r[j].toNat]
     .rw[e2] at hF2 hstep hin;simp only[Bool.false_eq_true,↓reduceIte] at hF2 hstep hin;try (simp[e2,hw2])
      repeat ((first|refine sR ?_|refine sC ?_|refine sX ?_);simp[e2,hw2])
      refine sE ?_;exact⟨⟨j+1,out2,q2,t2,tok6,nt6⟩,⟨hlt,htk6,hol2,hqr2,hF2,hm2⟩,by simp only;omega,wM htk6.le rfl (by simp[ToL,lk]) (by simp[BoxL,lk];exact hro _ _ _ _)⟩
     .rw[e2] at hF2 hstep hin;simp only[↓reduceIte] at hF2 hstep hin;have hx2':r[j]<(g.length:Int):=hx2
      have hq2l:q2.length<=g.length:=by
       have h1:bfM (out2,q2)<=g.length:=by omega
       simp[bfM] at h1;omega
      try (simp[e2,hrg,hrs,hx1,hx2',hx3,hw2])
      repeat ((first|refine sR ?_|refine sC ?_|refine sX ?_);simp[e2,hrg,hrs,hx1,hx2',hx3,hw2])
      refine⟨⟨by omega,htk6.live⟩,?_⟩;try (simp[hw2])
      repeat ((first|refine sR ?_|refine sC ?_|refine sX ?_);simp[hw2])
      refine sE ?_;exact⟨⟨j+1,out2.set r[j].toNat true,q2++[r[j]],nt6,_,nt6+1⟩,⟨hlt,htk6.app,by simp[hol2],hin,hF2,hstep.1.trans hm2⟩,by simp only;omega,wM (Nat.le_succ_of_le htk6.le) rfl (by simp[ToL,lk]) (by simp[BoxL,lk];exact hro _ _ _ _)⟩
    .rw[e1] at hF2 hstep hin;simp only[Bool.true_eq_false,false_and,↓reduceIte] at hF2 hstep hin;try (simp[e1,hw2])
     repeat ((first|refine sR ?_|refine sC ?_|refine sX ?_);simp[e1,hw2])
     refine sE ?_;exact⟨⟨j+1,out2,q2,t2,tok6,nt6⟩,⟨hlt,htk6,hol2,hqr2,hF2,hm2⟩,by simp only;omega,wM htk6.le rfl (by simp[ToL,lk]) (by simp[BoxL,lk];exact hro _ _ _ _)⟩
   .refine sX ?_;simp only[AU,↓reduceIte];have:j=r.length:=by omega
    subst this;rw[List.drop_length,List.foldl_nil] at hF2;rw[<-hF2] at hbf hfm;try (simp)
    repeat ((first|refine sR ?_|refine sC ?_|refine sX ?_);simp)
    refine sE ?_;exact⟨⟨out2,q2,t2,tok6,nt6⟩,⟨htk6,hol2,hqr2,by simp only;omega,by rw[hm2];exact hbf⟩,by simp only;omega,wM htk6.le rfl (by simp[ToL,lk]) (by simp[BoxL,lk];exact hro _ _ _ _)⟩
def stSmm(m:Mdl)(l:List Bool)(k:Nat)(nb:Nat)(box:Bxs)(tok:Tks)(nt:Nat)(i:Nat):AS :=
 ⟨tl [(16,I i),(15,I m.next.length),(14,.d (lls m.next)),(5,.msl (nb+12) 0 l.length 1),(1,.msl k 0 l.length 1),(2,.ptr (nb+2) 0 0)],lb nb box [(12,rowsB (smP m.next l i)),(2,[m.row])],tok,nt⟩
def stSmJm(m:Mdl)(l:List Bool)(k:Nat)(i:Nat)(r:List Int)(nb:Nat)(box:Bxs)(tok:Tks)(nt:Nat)(j:Nat):AS :=
 ⟨tl [(23,I j),(22,I r.length),(21,.d (ints r)),(6,I i),(16,I i),(15,I m.next.length),(14,.d (lls m.next)),(5,.msl (nb+12) 0 l.length 1),(1,.msl k 0 l.length 1),(2,.ptr (nb+2) 0 0)],lb nb box [(12,rowsB (smJ m.next l i r j)),(2,[m.row])],tok,nt⟩
set_option maxRecDepth 100000 in
theorem someTm_c(m:Mdl)(l:List Bool)(hm:m.Ok l.length)(box0:Bxs)(k:Nat)(R0:List (List AV))(hk0:box0 k=some (rowsB l++R0))(tok:Tks)(nt:Nat):RCall prog 158 [m.av,.msl k 0 l.length 1] box0 tok nt (.d (bools (someR m.next l))) tok nt:=by
 intro box nb he;have hk:=he _ _ hk0;have hle:=hm.le;have hnl:=hm.next;refine sI func158 ntmps158 fun Hb Ht=>?_
 have hkn:=key_lt Hb hk;repeat first|simp|refine sR ?_
 refine⟨by omega,?_⟩;repeat first|simp[rep_rBo]|refine sR ?_
 refine sN ?_;refine sL (stSmm m l k nb box tok nt) (fun i=>i<=m.next.length) (fun i=>m.next.length-i) 0 (Nat.zero_le _) (wM (nr _) rfl (by simp[ToL,lk];exact .same (.msl (by rw[lO hkn,hk];simp))) (by simp[BoxL,lk,smP_zero,hnl])) ?_;rintro i S hi hS;simp only[stSmm] at hS;subst hS;have hw:=sW (i:=i) (by omega);repeat first|simp|refine sR ?_|refine sC ?_
 refine⟨fun hlt=>?_,fun hge=>?_⟩
 .obtain⟨r,hr⟩:∃r,m.next[i]=r:=⟨_,rfl⟩
  have hrR:=hm.nextR _ (List.getElem_mem hlt);have hrL:=hm.nextL _ (List.getElem_mem hlt);have hz:=smJ_zero (l:=l) (m.next[i]) hlt;have hall:=smJ_all (l:=l) hlt;rw[hr] at hrR hrL hz hall;repeat first|simp[hlt,hr]|refine sR ?_
  refine sN ?_;refine sL (stSmJm m l k i r nb box tok nt) (fun j=>j<=r.length) (fun j=>r.length-j) 0 (Nat.zero_le _) (wM (nr _) rfl (by simp[ToL,lk];exact .same (.msl (by rw[lO hkn,hk];simp))) (by simp[BoxL,lk,hz])) ?_;rintro j S hj hS;simp only[stSmJm] at hS;subst hS;have hw2:=sW (i:=j) (by omega);repeat first|simp|refine sR ?_|refine sC ?_
  refine⟨fun hlt2=>?_,fun hge2=>?_⟩
  .obtain⟨hk1,hk2⟩:=hrR _ (List.getElem_mem hlt2);have hk3:r[j].toNat<l.length:=by omega
   have hset:=smJ_set (nx:=m.next) (l:=l) (i:=i) hlt2 hk3;have hjl:=smJ_len (l:=l) (r:=r) (j:=j) hi;have hja:=smJ_at (l:=l) (r:=r) (j:=j) hlt;have hil:i<(smJ m.next l i r j).length:=by omega
   have hja:=hja hil;have hil2:i<l.length:=by omega
   have hk4:r[j]<(l.length:Int):=by omega
   have hrg:=rowsBX_get hk3 R0;cases e:anyTo l r j
   .rw[e,Bool.false_or] at hset;rw[e] at hja;repeat first|simp[hlt2,hil,hil2,hja,hk1,hk3,hk4,hset,hw2,lO hkn,hk,hrg]|refine sR ?_
    refine sE ?_;exact⟨j+1,hlt2,by omega,wM (nr _) rfl (by simp[ToL,lk];exact .same (.msl (by rw[lO hkn,hk];simp))) (by simp[BoxL,lk])⟩
   .rw[e,Bool.true_or] at hset;rw[e] at hja;repeat first|simp[hlt2,hil,hil2,hja,hset,hw2]|refine sR ?_
    refine sE ?_;exact⟨j+1,hlt2,by omega,wM (nr _) rfl (by simp[ToL,lk];exact .same (.msl (by rw[lO hkn,hk];simp))) (by simp[BoxL,lk])⟩
  .refine sX ?_;simp only[AU,↓reduceIte];have:j=r.length:=by omega
   subst this;rw[hall];repeat first|simp[hw]|refine sR ?_
   refine sE ?_;exact⟨i+1,hlt,by omega,wM (nr _) rfl (by simp[ToL,lk];exact .same (.msl (by rw[lO hkn,hk];simp))) (by simp[BoxL,lk])⟩
 .refine sX ?_;simp only[AU,↓reduceIte];have:i=m.next.length:=by omega
  subst this;rw[smP_all];obtain⟨R,hR⟩:∃R,someR m.next l=R:=⟨_,rfl⟩
  have hRl:l.length=R.length:=by rw[<-hR];simp;omega
  rw[hR,hRl];refine AL.weak (Weaks.frz (l':=[(5,.d (bools R))]) (loc':=[]) 12 1 (rBo R) (nr _) rfl (by simp[lk,rowsB_eq]) (by simp[lk]) (fun e he=>by obtain⟨b,_,rfl⟩:=List.mem_map.1 he;rfl) (by simp[ToL,lk,lb_at]) (by simp[BoxL])) ?_;repeat first|simp|refine sR ?_
  refine sT (sH Hb Ht ?_);simp
theorem alwS_len{nx:List (List Int)}{out:List Bool}(h:nx.length=out.length):(alwS nx out).length=out.length:=by simp[alwS,h]
theorem alwS_get{nx:List (List Int)}{out:List Bool}{i:Nat}(h:i<(alwS nx out).length)(h1:i<out.length)(h2:i<(someR nx out).length):(alwS nx out)[i]=(out[i]&&(someR nx out)[i]):=by simp[alwS]
def alI(nx:List (List Int))(out:List Bool)(i:Nat):List Bool:=(alwS nx out).take i++out.drop i
theorem alI_zero(nx:List (List Int))(out:List Bool):alI nx out 0=out:=by simp[alI]
theorem alI_all{nx:List (List Int)}{out:List Bool}(h:nx.length=out.length):alI nx out out.length=alwS nx out:=by
 unfold alI;rw[List.drop_length,List.append_nil];exact List.take_of_length_le (by rw[alwS_len h];exact nr _)
theorem alI_len{nx:List (List Int)}{out:List Bool}{i:Nat}(h:nx.length=out.length)(hi:i<=out.length):(alI nx out i).length=out.length:=by simp[alI,alwS_len h];omega
theorem alI_at{nx:List (List Int)}{out:List Bool}{i:Nat}(h:nx.length=out.length)(hi:i<out.length):∀h2:i<(alI nx out i).length,(alI nx out i)[i]=out[i]:=by
 intro h2;have hl:((alwS nx out).take i).length=i:=by simp[alwS_len h];omega
 have hh:(alI nx out i)[i]?=some out[i]:=by
  unfold alI;rw[List.getElem?_append_right (by omega)];simp[hl,hi]
 rw[List.getElem?_eq_getElem h2] at hh;exact Option.some.inj hh
theorem alI_succ{nx:List (List Int)}{out:List Bool}{i:Nat}(h:nx.length=out.length)(hi:i<out.length)(h2:i<(someR nx out).length):alI nx out (i+1)=(alI nx out i).set i (out[i]&&(someR nx out)[i]):=by
 have hl1:i<(alwS nx out).length:=by rw[alwS_len h];exact hi
 have hg:=alwS_get hl1 hi h2;unfold alI;have hl:((alwS nx out).take i).length=i:=by simp[alwS_len h];omega
 rw[List.set_append_right _ _ (by omega),hl,Nat.sub_self,List.drop_eq_getElem_cons hi,List.set_cons_zero,List.take_succ_eq_append_getElem hl1,hg];simp
theorem alI_same{nx:List (List Int)}{out:List Bool}{i:Nat}(h:nx.length=out.length)(hi:i<out.length)(h2:i<(someR nx out).length)(he:(out[i]&&(someR nx out)[i])=out[i]):alI nx out (i+1)=alI nx out i:=by
 rw[alI_succ h hi h2,he];have hk:i<(alI nx out i).length:=by rw[alI_len h (by omega)];exact hi
 have:=alI_at h hi hk
 rw[<-this];exact List.set_getElem_self hk
theorem alI_ne0{nx:List (List Int)}{out:List Bool}{i:Nat}(h:nx.length=out.length)(hi:i<out.length)(h2:i<(someR nx out).length)(he:(out[i]&&(someR nx out)[i])≠out[i]):alwS nx out≠out:=by
 intro hc;have hl1:i<(alwS nx out).length:=by rw[alwS_len h];exact hi
 have hg:=alwS_get hl1 hi h2;apply he;rw[<-hg];simp only[hc]
theorem alI_succ'{nx:List (List Int)}{out sm:List Bool}{i:Nat}(hs:someR nx out=sm)(h:nx.length=out.length)(hi:i<out.length)(h2:i<sm.length):alI nx out (i+1)=(alI nx out i).set i (out[i]&&sm[i]):=by subst hs;exact alI_succ h hi h2
theorem alI_same'{nx:List (List Int)}{out sm:List Bool}{i:Nat}(hs:someR nx out=sm)(h:nx.length=out.length)(hi:i<out.length)(h2:i<sm.length)(he:(out[i]&&sm[i])=out[i]):alI nx out (i+1)=alI nx out i:=by subst hs;exact alI_same h hi h2 he
theorem alI_ne{nx:List (List Int)}{out sm:List Bool}{i:Nat}(hs:someR nx out=sm)(h:nx.length=out.length)(hi:i<out.length)(h2:i<sm.length)(he:(out[i]&&sm[i])≠out[i]):alwS nx out≠out:=by subst hs;exact alI_ne0 h hi h2 he
structure AlO where
 c:Bool
 out:List Bool
structure AlI where
 c:Bool
 i:Nat
def AlInv(nx:List (List Int))(Res:List Bool)(a:AlO):Prop:=if a.c=true then ∃n,a.out.count true<n/\alwN nx n a.out=Res else a.out=Res
def AlInvI(nx:List (List Int))(out:List Bool)(a:AlI):Prop:=if a.c=true then alwS nx out≠out else alI nx out a.i=out
def stAlO(m:Mdl)(f:List Bool)(n:Nat)(R:List (List AV))(nb:Nat)(box:Bxs)(tok:Tks)(nt:Nat)(a:AlO):AS :=
 ⟨tl [(6,.d (.raw (.bool a.c))),(5,.msl (nb+5) 0 n 1),(2,.ptr (nb+2) 0 0)],lb nb box [(5,rowsB a.out++R),(2,[m.row])],tok,nt⟩
def stAlI(m:Mdl)(out sm:List Bool)(n:Nat)(R:List (List AV))(nb:Nat)(box:Bxs)(tok:Tks)(nt:Nat)(a:AlI):AS :=
 ⟨tl [(16,I n),(17,I a.i),(7,.d (bools sm)),(6,.d (.raw (.bool a.c))),(5,.msl (nb+5) 0 n 1),(2,.ptr (nb+2) 0 0)],lb nb box [(5,rowsB (alI m.next out a.i)++R),(2,[m.row])],tok,nt⟩
theorem alw_step{nx:List (List Int)}{out Res:List Bool}{n:Nat}(h:nx.length=out.length)(hn:out.count true<n)(hr:alwN nx n out=Res):(alwS nx out=out/\out=Res)∨(alwS nx out≠out/\(alwS nx out).count true<out.count true/\alwN nx (n-1) (alwS nx out)=Res):=by
 obtain⟨n,rfl⟩:∃k,n=k+1:=⟨n-1,by omega⟩
 rw[alwN] at hr;by_cases hc:alwS nx out=out
 .rw[if_pos hc] at hr;exact .inl ⟨hc,hr⟩
 .rw[if_neg hc] at hr;exact .inr ⟨hc,(count_and out (someR nx out) (by simp[h])).2 hc,hr⟩
set_option maxRecDepth 100000 in
theorem alwaysT_c(m:Mdl)(f:List Bool)(hm:m.Ok f.length):DC 161 [m.av,.d (bools f)] (.d (bools (alwaysR m.next f))):=by
 intro tok nt box nb;have hle:=hm.le;have hpos:=hm.pos;have hgne:f≠[]:=fun h=>by rw[h] at hpos;simp at hpos
 obtain⟨Res,hRes⟩:∃Res,alwaysR m.next f=Res:=⟨_,rfl⟩
 rw[hRes];have hcl:=cloneB_c f hgne (by omega) tok nt;refine sI func161 ntmps161 fun Hb Ht=>?_
 repeat first|simp|refine sR ?_
 refine sD (hcl) ?_;repeat first|simp|refine sR ?_
 have htk0:TK tok nt (upd (upd (upd tok nt true) nt false) (nt+1) true) (nt+2) [.tok (nt+1)]:=(((TK.start Ht).full.app).app:TK _ _ _ _ _)
 generalize (upd (upd (upd tok nt true) nt false) (nt+1) true)=tok1 at *;refine AL.thawS (l':=[(6,.d (.raw (.bool true))),(5,.msl (nb+5) 0 f.length 1),(10,.bot),(9,.bot),(4,.bot),(2,.ptr (nb+2) 0 0),(0,.bot),(1,.bot)]) (loc':=[(2,[m.row])]) (nt+1) 5 1 (rBo f) 5 rfl (show (5:Nat)<36 by decide) rfl htk0.live (by simpa using hgne) rfl (by simp[CvL]) (cvB_refl (fun _=>.same) _) ?_;intro mm;rw[rowsD_Bo];have hro:=fun xs=>rowsBX_to xs mm
 generalize hRm:List.replicate mm (List.replicate 1 AV.bot)=R at *;have htk1:TK tok nt (upd tok1 (nt+1) false) (nt+2) [.full]:=by
  have:=htk0
  refine(TK.full ⟨fun t ht=>?_,this.lt,this.le,by simp,.nil⟩);have hlt:=Ht t ht;rw[uO _ _ (by omega)];exact this.old t ht
 generalize upd tok1 (nt+1) false=tok2 at *;generalize hnt2:nt+2=nt2 at *;refine sN ?_;refine sL (stAlO m f f.length R nb box tok2 nt2) (fun a=>a.out.length=f.length/\AlInv m.next Res a) (fun a=>2*a.out.count true+(if a.c=true then 1 else 0)) ⟨true,f⟩ ⟨rfl,by simp only[AlInv,↓reduceIte];exact⟨_,Nat.lt_succ_self _,hRes⟩⟩ (wM htk1.le rfl (by simp[ToL,lk]) (by simp[BoxL,lk];exact hro _ _ _ _)) ?_;rintro⟨c,out⟩ S ⟨hol,hinv⟩ hS;simp only[stAlO] at hS hol hinv;subst hS;have hmo:m.Ok out.length:=by rw[hol];exact hm
 have hnx:=hmo.next;cases c with
 | false =>
  simp only[AlInv,Bool.false_eq_true,↓reduceIte] at hinv;subst hinv;try (simp)
  repeat ((first|refine sR ?_|refine sC ?_|refine sX ?_);simp)
  refine AL.weak (wM (l':=[(4,.msl (nb+5) 0 f.length 1)]) (loc':=[(5,rowsD (rBo out)++R)]) htk1.le rfl (by simp[ToL,lk,lb_at]) (by rw[rowsD_Bo];simp only[BoxL,lk_cons,↓reduceIte,and_true];exact⟨_,rfl,hro _ _ _ _⟩)) ?_;have hes:(rBo out).length=f.length:=by simpa using hol
  refine AL.trans (Trans.sealD (l:=[(4,.msl (nb+5) 0 f.length 1)]) (l':=[(4,.d (bools out))]) (loc:=[]) (loc':=[]) 5 1 (rBo out) R 4 rfl (fun e he=>by obtain⟨b,_,rfl⟩:=List.mem_map.1 he;rfl) (by rw[hes];rfl) rfl ⟨rfl,by have:=@SpTo.msl (nb+5) 1 (rBo out);rw[hes] at this;exact this,trivial⟩ trivial) ?_;refine sT (sG Hb Ht htk1.old htk1.le ?_);simp
 | true =>
  simp only[AlInv,↓reduceIte] at hinv;obtain⟨n,hn,hal⟩:=hinv;have hstep:=alw_step hnx hn hal;have hsl:(someR m.next out).length=out.length:=by simp[hnx]
  have h:=someTm_c m out hmo (lb nb box [(5,rowsB out++R),(2,[m.row])]) (nb+5) R (by simp[lb_at,lk]) tok2 nt2;rw[hol] at h;generalize hsm:someR m.next out=sm at *;try (simp)
  repeat ((first|refine sR ?_|refine sC ?_|refine sX ?_);simp)
  refine Stop.of_r h ?_;repeat first|simp|refine sR ?_
  refine sN ?_;refine sL (stAlI m out sm f.length R nb box tok2 nt2) (fun a=>a.i<=f.length/\AlInvI m.next out a) (fun a=>f.length-a.i) ⟨false,0⟩ ⟨Nat.zero_le _,by simp only[AlInvI,Bool.false_eq_true,↓reduceIte];exact alI_zero _ _⟩ (wM htk1.le rfl (by simp[ToL,lk]) (by simp[BoxL,lk,alI_zero];exact hro _ _ _ _)) ?_;rintro⟨c,i⟩ S ⟨hi,hinv⟩ hS;simp only[stAlI] at hS hi hinv;subst hS;have hw:=sW (i:=i) (by omega);repeat first|simp|refine sR ?_|refine sC ?_
  refine⟨fun hlt=>?_,fun hge=>?_⟩
  .have hi1:i<out.length:=by omega
   have hi2:i<sm.length:=by omega
   have hi3:i<(alI m.next out i).length:=by rw[alI_len hnx (by omega)];exact hi1
   have hat:=alI_at hnx hi1 hi3;have hrg:=rowsBX_get hi3 R;have hsame:=alI_same' hsm hnx hi1 hi2;have hsucc:=alI_succ' hsm hnx hi1 hi2;have hne:=alI_ne hsm hnx hi1 hi2;have hrs:=rowsBX_set (alI m.next out i) i hi3 false R;rw[hat] at hrg;repeat first|simp[hlt,hi1,hi2,hi3,hrg]|refine sR ?_
   cases e1:out[i]
   .rw[e1] at hsame hsucc;simp only[Bool.false_and,true_implies] at hsame;try (simp[e1,hw])
    repeat ((first|refine sR ?_|refine sC ?_|refine sX ?_);simp[e1,hw])
    refine sE ?_;refine⟨⟨c,i+1⟩,⟨hlt,?_⟩,by simp only;omega,wM htk1.le rfl (by simp[ToL,lk]) (by simp[BoxL,lk,hsame];exact hro _ _ _ _)⟩;simpa only[AlInvI,hsame] using hinv
   .rw[e1] at hsame hsucc hne;cases e2:sm[i]
    .rw[e2] at hsucc hne;simp only[Bool.and_false] at hsucc;try (simp[e1,hlt,hi1,hi2,hi3,hrg,e2,hrs,hw])
     repeat ((first|refine sR ?_|refine sC ?_|refine sX ?_);simp[e1,hlt,hi1,hi2,hi3,hrg,e2,hrs,hw])
     refine sE ?_;refine⟨⟨true,i+1⟩,⟨hlt,?_⟩,by simp only;omega,wM htk1.le rfl (by simp[ToL,lk]) (by simp[BoxL,lk,hsucc];exact hro _ _ _ _)⟩;simp only[AlInvI,↓reduceIte];exact hne (by simp)
    .rw[e2] at hsame;simp only[Bool.true_and,true_implies] at hsame;try (simp[e1,hlt,hi1,hi2,hi3,hrg,e2,hw])
     repeat ((first|refine sR ?_|refine sC ?_|refine sX ?_);simp[e1,hlt,hi1,hi2,hi3,hrg,e2,hw])
     refine sE ?_;refine⟨⟨c,i+1⟩,⟨hlt,?_⟩,by simp only;omega,wM htk1.le rfl (by simp[ToL,lk]) (by simp[BoxL,lk,hsame];exact hro _ _ _ _)⟩;simpa only[AlInvI,hsame] using hinv
  .refine sX ?_;simp only[AU,↓reduceIte];have:i=f.length:=by omega
   subst this;have hall:=alI_all hnx;rw[hol] at hall;have hall':alI m.next out f.length=alwS m.next out:=hall
   rw[hall'];cases c with
   | false =>
    simp only[AlInvI,Bool.false_eq_true,↓reduceIte,hall'] at hinv;rcases hstep with ⟨h1,h2⟩|⟨h1,h2⟩
    .rw[h1];try (simp)
     repeat ((first|refine sR ?_|refine sC ?_|refine sX ?_);simp)
     refine sE ?_;refine⟨⟨false,out⟩,⟨hol,?_⟩,by simp,wM htk1.le rfl (by simp[ToL,lk]) (by simp[BoxL,lk];exact hro _ _ _ _)⟩;simp only[AlInv,Bool.false_eq_true,↓reduceIte];exact h2
    .exact absurd hinv h1
   | true =>
    simp only[AlInvI,↓reduceIte] at hinv;rcases hstep with ⟨h1,h2⟩|⟨h1,h2,h3⟩
    .exact absurd h1 hinv
    .try (simp)
     repeat ((first|refine sR ?_|refine sC ?_|refine sX ?_);simp)
     refine sE ?_;refine⟨⟨true,alwS m.next out⟩,⟨by rw[alwS_len hnx];exact hol,?_⟩,by simp;omega,wM htk1.le rfl (by simp[ToL,lk]) (by simp[BoxL,lk];exact hro _ _ _ _)⟩;simp only[AlInv,↓reduceIte];exact⟨n-1,by omega,h3⟩
theorem auc_c(out:List Bool)(n:Nat)(hn:out.length=n)(k:Int)(hk:inR n k)(R:List (List AV))(k7 k8 nb:Nat)(box:Bxs)(tok:Tks)(nt:Nat)(h7:box k7=some [[.msl k8 0 n 1]])(h8:box k8=some (rowsB out++R)):
  ACalls prog 233 [I k,.ptr k7 0 0] ⟨box,nb,tok,nt⟩ fun v m=>v=B (!out.getD k.toNat false)/\m=⟨box,nb,tok,nt⟩:=by
 obtain⟨h1,h2⟩:=hk;have h3:k.toNat<out.length:=by omega
 have hg1:out.getD k.toNat false=out[k.toNat]:=by simp[h3]
 rw[hg1];refine sI func233 ntmps233 fun Hb Ht=>?_
 have hkn7:=key_lt Hb h7;have hkn8:=key_lt Hb h8;have hrg:=rowsBX_get h3 R;repeat first|simp|refine sR ?_
 repeat first|simp[lO hkn7,lO hkn8,h7,h8,hrg,h1,h2,h3]|refine sR ?_
 refine sT (sH Hb Ht ?_);simp
def AuInv(nx:List (List Int))(f Res:List Bool)(a:AlO):Prop:=if a.c=true then ∃n,a.out.count false<n/\auN nx f n a.out=Res else a.out=Res
def AuInvI(nx:List (List Int))(f out:List Bool)(a:AlI):Prop:=if a.c=true then (auP nx f out a.i).count false<out.count false else auP nx f out a.i=out
theorem au_step{nx:List (List Int)}{f out Res:List Bool}{n:Nat}(hn:out.count false<n)(hr:auN nx f n out=Res):(auP nx f out out.length=out/\out=Res)∨(auP nx f out out.length≠out/\auN nx f (n-1) (auP nx f out out.length)=Res):=by
 obtain⟨n,rfl⟩:∃k,n=k+1:=⟨n-1,by omega⟩
 rw[auN] at hr;by_cases hc:auP nx f out out.length=out
 .rw[if_pos hc] at hr;exact .inl ⟨hc,hr⟩
 .rw[if_neg hc] at hr;exact .inr ⟨hc,hr⟩
theorem AuInvI.same{nx:List (List Int)}{f out:List Bool}{c:Bool}{i:Nat}(h:AuInvI nx f out ⟨c,i⟩)(he:auP nx f out (i+1)=auP nx f out i):AuInvI nx f out ⟨c,i+1⟩:=by
 simpa only[AuInvI,he] using h
theorem AuInvI.down{nx:List (List Int)}{f out:List Bool}{c:Bool}{i:Nat}(h:AuInvI nx f out ⟨c,i⟩)(he:(auP nx f out (i+1)).count false+1=(auP nx f out i).count false):AuInvI nx f out ⟨true,i+1⟩:=by
 unfold AuInvI at h ⊢;cases c
 .simp only[Bool.false_eq_true,↓reduceIte] at h ⊢;rw[h] at he;omega
 .simp only[↓reduceIte] at h ⊢;omega
theorem rBo_len(l:List Bool):(rBo l).length=l.length:=by simp
theorem cvB_stk{t k b sz:Nat}{es:List (List D)}(rest:List (Nat × List (List AV))):CvB (TsTo t k sz es) ((b,[[.stk t sz es]])::rest) ((b,[[.msl k 0 es.length sz]])::rest):=by
 refine⟨rfl,⟨rfl,fun i h1 h2=>?_⟩,cvB_refl (fun _=>.same) _⟩;obtain rfl:i=0:=by simpa using h1
 refine⟨rfl,fun j g1 g2=>?_⟩;obtain rfl:j=0:=by simpa using g1
 exact TsTo.stk
def stAuO(m:Mdl)(f:List Bool)(n:Nat)(R:List (List AV))(nb:Nat)(box:Bxs)(tok:Tks)(nt:Nat)(a:AlO):AS :=
 ⟨tl [(8,.d (.raw (.bool a.c))),(7,.ptr (nb+7) 0 0),(1,.d (bools f)),(3,.ptr (nb+3) 0 0)],lb nb box [(11,rowsB a.out++R),(7,[[.msl (nb+11) 0 n 1]]),(3,[m.row])],tok,nt⟩
def stAuI(m:Mdl)(f out:List Bool)(n:Nat)(R:List (List AV))(nb:Nat)(box:Bxs)(tok:Tks)(nt:Nat)(a:AlI):AS :=
 ⟨tl [(14,I n),(15,I a.i),(8,.d (.raw (.bool a.c))),(7,.ptr (nb+7) 0 0),(1,.d (bools f)),(3,.ptr (nb+3) 0 0)],lb nb box [(11,rowsB (auP m.next f out a.i)++R),(7,[[.msl (nb+11) 0 n 1]]),(3,[m.row])],tok,nt⟩
set_option maxRecDepth 100000 in
theorem allUntilT_c(m:Mdl)(f g:List Bool)(hm:m.Ok g.length)(hf:f.length=g.length):DC 162 [m.av,.d (bools f),.d (bools g)] (.d (bools (allUntilR m.next f g))):=by
 intro tok nt box nb;have hle:=hm.le;have hpos:=hm.pos;have hgne:g≠[]:=fun h=>by rw[h] at hpos;simp at hpos
 obtain⟨Res,hRes⟩:∃Res,allUntilR m.next f g=Res:=⟨_,rfl⟩
 rw[hRes];have hcl:=cloneB_c g hgne (by omega) tok nt;refine sI func162 ntmps162 fun Hb Ht=>?_
 repeat first|simp|refine sR ?_
 refine sD (hcl) ?_;repeat first|simp|refine sR ?_
 have htk0:TK tok nt (upd (upd (upd tok nt true) nt false) (nt+1) true) (nt+2) [.tok (nt+1)]:=(((TK.start Ht).full.app).app:TK _ _ _ _ _)
 generalize (upd (upd (upd tok nt true) nt false) (nt+1) true)=tok1 at *;refine AL.thawS (l':=[(8,.d (.raw (.bool true))),(7,.ptr (nb+7) 0 0),(11,.bot),(10,.bot),(6,.bot),(3,.ptr (nb+3) 0 0),(0,.bot),(1,.d (bools f)),(2,.bot)]) (loc':=(7,[[.msl (nb+11) 0 (rBo g).length 1]])::_) (nt+1) 11 1 (rBo g) 11 rfl (show (11:Nat)<43 by decide) rfl htk0.live (by simpa using hgne) rfl (by simp[CvL]) (cvB_stk _) ?_;intro mm;rw[rowsD_Bo,rBo_len];have hro:=fun xs=>rowsBX_to xs mm
 generalize hRm:List.replicate mm (List.replicate 1 AV.bot)=R at *;have htk1:TK tok nt (upd tok1 (nt+1) false) (nt+2) [.full]:=by
  have:=htk0
  refine(TK.full ⟨fun t ht=>?_,this.lt,this.le,by simp,.nil⟩);have hlt:=Ht t ht;rw[uO _ _ (by omega)];exact this.old t ht
 generalize upd tok1 (nt+1) false=tok2 at *;generalize hnt2:nt+2=nt2 at *;refine sN ?_;refine sL (stAuO m f g.length R nb box tok2 nt2) (fun a=>a.out.length=g.length/\AuInv m.next f Res a) (fun a=>2*a.out.count false+(if a.c=true then 1 else 0)) ⟨true,g⟩ ⟨rfl,by simp only[AuInv,↓reduceIte];exact⟨_,Nat.lt_succ_self _,hRes⟩⟩ (wM htk1.le rfl (by simp[ToL,lk,lb_at]) (by simp[BoxL,lk];exact hro _ _ _ _)) ?_;rintro⟨c,out⟩ S ⟨hol,hinv⟩ hS;simp only[stAuO] at hS hol hinv;subst hS;have hnx:=hm.next;cases c with
 | false =>
  simp only[AuInv,Bool.false_eq_true,↓reduceIte] at hinv;subst hinv;try (simp)
  repeat ((first|refine sR ?_|refine sC ?_|refine sX ?_);simp)
  refine AL.weak (wM (l':=[(6,.msl (nb+11) 0 g.length 1)]) (loc':=[(11,rowsD (rBo out)++R)]) htk1.le rfl (by simp[ToL,lk,lb_at]) (by rw[rowsD_Bo];simp only[BoxL,lk_cons,↓reduceIte,and_true];exact⟨_,rfl,hro _ _ _ _⟩)) ?_;have hes:(rBo out).length=g.length:=by simpa using hol
  refine AL.trans (Trans.sealD (l:=[(6,.msl (nb+11) 0 g.length 1)]) (l':=[(6,.d (bools out))]) (loc:=[]) (loc':=[]) 11 1 (rBo out) R 6 rfl (fun e he=>by obtain⟨b,_,rfl⟩:=List.mem_map.1 he;rfl) (by rw[hes];rfl) rfl ⟨rfl,by have:=@SpTo.msl (nb+11) 1 (rBo out);rw[hes] at this;exact this,trivial⟩ trivial) ?_;refine sT (sG Hb Ht htk1.old htk1.le ?_);simp
 | true =>
  simp only[AuInv,↓reduceIte] at hinv;obtain⟨n,hn,hal⟩:=hinv;have hstep:=au_step hn hal;try (simp)
  repeat ((first|refine sR ?_|refine sC ?_|refine sX ?_);simp)
  refine sN ?_;refine sL (stAuI m f out g.length R nb box tok2 nt2) (fun a=>a.i<=g.length/\AuInvI m.next f out a) (fun a=>g.length-a.i) ⟨false,0⟩ ⟨Nat.zero_le _,by simp only[AuInvI,Bool.false_eq_true,↓reduceIte];rfl⟩ (wM htk1.le rfl (by simp[ToL,lk,lb_at]) (by simp[BoxL,lk];exact hro _ _ _ _)) ?_;rintro⟨c,i⟩ S ⟨hi,hinv⟩ hS;simp only[stAuI] at hS hi hinv;subst hS;have hw:=sW (i:=i) (by omega);have hsucc:=auP_succ m.next f out i;have hcl:=auP_len m.next f out i;obtain⟨cur,hcur⟩:∃cur,auP m.next f out i=cur:=⟨_,rfl⟩
  rw[hcur] at hsucc hcl;rw[hcur];repeat first|simp|refine sR ?_|refine sC ?_
  refine⟨fun hlt=>?_,fun hge=>?_⟩
  .have hi1:i<cur.length:=by omega
   have hi2:i<f.length:=by omega
   have hi3:i<m.next.length:=by omega
   have hrg:=rowsBX_get hi1 R;have hrs:=rowsBX_set cur i hi1 true R;have hgn:m.next.getD i []=m.next[i]:=by simp[hi3]
   have hg1:cur.getD i false=cur[i]:=by simp[hi1]
   have hg2:f.getD i false=f[i]:=by simp[hi2]
   have hrR:=hm.nextR _ (List.getElem_mem hi3);have hrL:=hm.nextL _ (List.getElem_mem hi3);have hau:=auS_count m.next f cur hi1;unfold auS at hsucc;rw[hgn,hg1,hg2] at hsucc;generalize hr:m.next[i]=r at *;have hsk:∀_:auP m.next f out (i+1)=cur,∀S',S'=stAuI m f out g.length R nb box tok2 nt2 ⟨c,i+1⟩->True:=fun _ _ _=>trivial
   clear hsk;cases e1:cur[i]
   .cases e2:f[i]
    .simp only[e1,e2,Bool.false_eq_true,true_or,or_true,↓reduceIte] at hsucc;try (simp[hlt,hi1,hi2,hi3,hrg,e1,e2,hw])
     repeat ((first|refine sR ?_|refine sC ?_|refine sX ?_);simp[hlt,hi1,hi2,hi3,hrg,e1,e2,hw])
     refine sE ?_;exact⟨⟨c,i+1⟩,⟨hlt,hinv.same (hsucc.trans hcur.symm)⟩,by simp only;omega,wM htk1.le rfl (by simp[ToL,lk,lb_at]) (by simp[BoxL,lk,hsucc];exact hro _ _ _ _)⟩
    .simp only[e1,e2,Bool.false_eq_true,Bool.true_eq_false,false_or] at hsucc;have hcf:=containsFunc_c r 233 [.ptr (nb+7) 0 0] (fun k=>!cur.getD k.toNat false) (by omega) (lb nb box [(11,rowsB cur++R),(7,[[.msl (nb+11) 0 g.length 1]]),(3,[m.row])]) (nb+43) tok2 nt2 (by simp[lb_at,lk]) (fun k hk box' nb' he=>auc_c cur g.length (by omega) k (hrR k hk) R (nb+7) (nb+11) nb' box' tok2 nt2 (he _ _ (by simp[lb_at,lk])) (he _ _ (by simp[lb_at,lk])));try (simp[hlt,hi1,hi2,hi3,hrg,e1,e2,hr,hw])
     repeat ((first|refine sR ?_|refine sC ?_|refine sX ?_);simp[hlt,hi1,hi2,hi3,hrg,e1,e2,hr,hw])
     have hany:anyB (fun k:Int=>!cur.getD k.toNat false) r=r.any fun k=>!cur.getD k.toNat false:=rfl
     rw[hany] at hcf;generalize hA:(r.any fun k=>!cur.getD k.toNat false)=A at *;refine Stop.of_b (hcf) ?_;simp;cases A
     .simp only[Bool.false_eq_true,↓reduceIte] at hsucc;try (simp[hlt,hi1,hrg,hrs,hw])
      repeat ((first|refine sR ?_|refine sC ?_|refine sX ?_);simp[hlt,hi1,hrg,hrs,hw])
      try (simp[hw])
      repeat ((first|refine sR ?_|refine sC ?_|refine sX ?_);simp[hw])
      refine sE ?_;have hdn:(auP m.next f out (i+1)).count false+1=(auP m.next f out i).count false:=by
       rw[hsucc,hcur];exact count_set hi1 e1
      exact⟨⟨true,i+1⟩,⟨hlt,hinv.down hdn⟩,by simp only;omega,wM htk1.le rfl (by simp[ToL,lk,lb_at]) (by simp[BoxL,lk,hsucc];exact hro _ _ _ _)⟩
     .simp only[↓reduceIte] at hsucc;try (simp[hw])
      repeat ((first|refine sR ?_|refine sC ?_|refine sX ?_);simp[hw])
      refine sE ?_;exact⟨⟨c,i+1⟩,⟨hlt,hinv.same (hsucc.trans hcur.symm)⟩,by simp only;omega,wM htk1.le rfl (by simp[ToL,lk,lb_at]) (by simp[BoxL,lk,hsucc];exact hro _ _ _ _)⟩
   .simp only[e1,true_or,↓reduceIte] at hsucc;try (simp[hlt,hi1,hi2,hi3,hrg,e1,hw])
    repeat ((first|refine sR ?_|refine sC ?_|refine sX ?_);simp[hlt,hi1,hi2,hi3,hrg,e1,hw])
    refine sE ?_;exact⟨⟨c,i+1⟩,⟨hlt,hinv.same (hsucc.trans hcur.symm)⟩,by simp only;omega,wM htk1.le rfl (by simp[ToL,lk,lb_at]) (by simp[BoxL,lk,hsucc];exact hro _ _ _ _)⟩
  .refine sX ?_;simp only[AU,↓reduceIte];have:i=g.length:=by omega
   subst this;rw[hol] at hstep;unfold AuInvI at hinv;simp only at hinv;rw[hcur] at hinv hstep;cases c with
   | false =>
    simp only[Bool.false_eq_true,↓reduceIte] at hinv;subst hinv;rcases hstep with ⟨h1,h2⟩|⟨h1,h2⟩
    .try (simp)
     repeat ((first|refine sR ?_|refine sC ?_|refine sX ?_);simp)
     refine sE ?_;refine⟨⟨false,cur⟩,⟨hol,?_⟩,by simp,wM htk1.le rfl (by simp[ToL,lk,lb_at]) (by simp[BoxL,lk];exact hro _ _ _ _)⟩;simp only[AuInv,Bool.false_eq_true,↓reduceIte];exact h2
    .exact absurd rfl h1
   | true =>
    simp only[↓reduceIte] at hinv;rcases hstep with ⟨h1,h2⟩|⟨h1,h2⟩
    .rw[h1] at hinv;omega
    .try (simp)
     repeat ((first|refine sR ?_|refine sC ?_|refine sX ?_);simp)
     refine sE ?_;refine⟨⟨true,cur⟩,⟨by simp only;omega,?_⟩,by simp;omega,wM htk1.le rfl (by simp[ToL,lk,lb_at]) (by simp[BoxL,lk];exact hro _ _ _ _)⟩;simp only[AuInv,↓reduceIte];exact⟨n-1,by omega,h2⟩
def hok1(m:Mdl)(k:Int)(s:ByteArray)(n:Nat):Prop:=(k=1->∃a∈m.atoms,a.1=s)/\(k≠1->1<=n)/\(k≠1->k≠2->k≠3->k≠4->k≠5->k≠9->k≠6->k≠11->k≠7->k≠10->2<=n)
mutual
def Fo.Hok(m:Mdl):Fo->Prop
 | .mk k s c=>hok1 m k s c.length/\Fo.HokL m c
def Fo.HokL(m:Mdl):List Fo->Prop
 | []=>True
 | x::r=>Fo.Hok m x/\Fo.HokL m r
end
theorem Fo.HokL_mem{m:Mdl}:∀{l:List Fo},Fo.HokL m l->∀x∈l,x.Hok m
 | [],_,x,hx=>absurd hx (by simp)
 | y::r,h,x,hx=>by
  simp only[Fo.HokL] at h;rcases List.mem_cons.1 hx with rfl|hx
  .exact h.1
  .exact Fo.HokL_mem h.2 x hx
theorem Fo.Hok.kid{m:Mdl}{f x:Fo}(h:f.Hok m)(hx:x∈f.kids):x.Hok m:=by
 cases f;simp only[Fo.Hok] at h;exact Fo.HokL_mem h.2 x hx
theorem Fo.Hok.one{m:Mdl}{f:Fo}(h:f.Hok m):hok1 m f.kind f.name f.kids.length:=by
 cases f;simp only[Fo.Hok] at h;exact h.1
theorem Fo.holdsL_map(m:Mdl):∀l:List Fo,Fo.holdsL m l=l.map (Fo.holds m)
 | []=>by simp[Fo.holdsL]
 | x::r=>by simp[Fo.holdsL,Fo.holdsL_map m r]
def holdV(m:Mdl)(k:Int)(s:ByteArray)(l:List (List Bool)):List Bool :=
 if k=1 then atomR m.atoms s else
  if k=2 then notR (l.headD []) else if k=3∨k=4 then l.tail.foldl (zipB k) (l.headD []) else if k=5 then someR m.next (l.headD []) else if k=9 then notR (someR m.next (notR (l.headD [])))
  else if k=6 then untilR m.prev (allR (l.headD []).length) (l.headD []) else if k=11 then notR (untilR m.prev (allR (l.headD []).length) (notR (l.headD []))) else if k=7 then alwaysR m.next (l.headD [])
  else if k=10 then notR (alwaysR m.next (notR (l.headD []))) else if k=8 then untilR m.prev (l.headD []) (l.tail.headD []) else allUntilR m.next (l.headD []) (l.tail.headD [])
theorem Fo.holds_eq(m:Mdl)(f:Fo):f.holds m=holdV m f.kind f.name (f.kids.map (Fo.holds m)):=by
 cases f;rw[Fo.holds,Fo.holdsL_map];rfl
theorem atomR_len{m:Mdl}{n:Nat}(hm:m.Ok n){s:ByteArray}(h:∃a∈m.atoms,a.1=s):(atomR m.atoms s).length=n:=by
 unfold atomR;cases e:m.atoms.find? fun e=>decide (e.1=s) with
 | some a=>exact hm.atoms _ (List.mem_of_find?_eq_some e)
 | none =>
  obtain⟨a,ha,rfl⟩:=h;have:=List.find?_eq_none.1 e a ha
  simp at this
theorem bfs_len(pv:List (List Int))(f:List Bool)(h:∀r∈pv,∀k∈r,inR pv.length k):∀(n:Nat) (out:List Bool) (q:List Int),out.length=pv.length->(bfs pv f n out q).length=pv.length
 | _,out,[],ho=>by rw[bfs_nil];exact ho
 | 0,out,k::q,ho=>by rw[bfs];exact ho
 | n+1,out,k::q,ho=>by
  rw[bfs];refine bfs_len pv f h n _ _ ?_;have hr:∀j∈pv.getD k.toNat [],inR out.length j:=by
   intro j hj;rw[ho];by_cases hk:k.toNat<pv.length
   .have:pv.getD k.toNat []=pv[k.toNat]:=by simp[hk]
    rw[this] at hj;exact h _ (List.getElem_mem hk) j hj
   .have:pv.getD k.toNat []=[]:=by simp[Nat.not_lt.1 hk]
    rw[this] at hj;simp at hj
  exact(bfsF_m (f:=f) _ (out,q) hr).2.trans ho
theorem untilR_len{m:Mdl}{n:Nat}(hm:m.Ok n)(f g:List Bool)(hg:g.length=n):(untilR m.prev f g).length=n:=by
 unfold untilR;rw[bfs_len _ _ (fun r hr k hk=>by rw[hm.prev];exact hm.prevR r hr k hk) _ _ _ (by rw[hm.prev];exact hg)];exact hm.prev
theorem alwN_len{nx:List (List Int)}:∀(n:Nat) (out:List Bool),nx.length=out.length->(alwN nx n out).length=out.length
 | 0,out,h=>by rw[alwN]
 | n+1,out,h=>by
  rw[alwN];split
  .rfl
  .rw[alwN_len n _ (by rw[alwS_len h];exact h),alwS_len h]
theorem alwaysR_len{m:Mdl}{n:Nat}(hm:m.Ok n)(f:List Bool)(hf:f.length=n):(alwaysR m.next f).length=n:=by
 unfold alwaysR;rw[alwN_len _ _ (by rw[hm.next,hf]),hf]
theorem auN_len{nx:List (List Int)}{f:List Bool}:∀(n:Nat) (out:List Bool),(auN nx f n out).length=out.length
 | 0,out=>by rw[auN]
 | n+1,out=>by
  rw[auN];split
  .rfl
  .rw[auN_len n _,auP_len]
theorem zipF_len(k:Int)(n:Nat):∀(l:List (List Bool)) (x:List Bool),x.length=n->(∀y∈l,y.length=n)->(l.foldl (zipB k) x).length=n
 | [],x,h,_=>h
 | y::l,x,h,hl=>by
  rw[List.foldl_cons];exact zipF_len k n l _ (by simp[zipB,h,hl y (by simp)]) fun z hz=>hl z (by simp[hz])
theorem holdV_len{m:Mdl}{n:Nat}(hm:m.Ok n){k:Int}{s:ByteArray}{l:List (List Bool)}(hk:hok1 m k s l.length)(hl:∀x∈l,x.length=n):(holdV m k s l).length=n:=by
 obtain⟨h1,h2,h3⟩:=hk;unfold holdV;by_cases c1:k=1
 .rw[if_pos c1];exact atomR_len hm (h1 c1)
 .rw[if_neg c1];have hx:(l.headD []).length=n:=by
   cases l with
   | nil=>have:=h2 c1;simp at this
   | cons a r=>exact hl a (by simp)
  have hn:=hm.next;by_cases c2:k=2
  .rw[if_pos c2];simp only[notR_len];exact hx
  rw[if_neg c2];by_cases c3:k=3∨k=4
  .rw[if_pos c3];exact zipF_len k n _ _ hx fun y hy=>hl y (List.mem_of_mem_tail hy)
  rw[if_neg c3];have c3':k≠3:=fun h=>c3 (.inl h)
  have c4':k≠4:=fun h=>c3 (.inr h)
  by_cases c5:k=5
  .rw[if_pos c5];simp[hn]
  rw[if_neg c5];by_cases c9:k=9
  .rw[if_pos c9];simp[hn]
  rw[if_neg c9];by_cases c6:k=6
  .rw[if_pos c6];exact untilR_len hm _ _ hx
  rw[if_neg c6];by_cases c11:k=11
  .rw[if_pos c11];simp only[notR_len];exact untilR_len hm _ _ (by simp only[notR_len];exact hx)
  rw[if_neg c11];by_cases c7:k=7
  .rw[if_pos c7];exact alwaysR_len hm _ hx
  rw[if_neg c7];by_cases c10:k=10
  .rw[if_pos c10];simp only[notR_len];exact alwaysR_len hm _ (by simp only[notR_len];exact hx)
  rw[if_neg c10];have hy:(l.tail.headD []).length=n:=by
   have h3:=h3 c1 c2 c3' c4' c5 c9 c6 c11 c7 c10
   match l,h3,hl with
   | a::b::r,_,hl=>exact hl b (by simp)
  by_cases c8:k=8
  .rw[if_pos c8];exact untilR_len hm _ _ hy
  rw[if_neg c8];unfold allUntilR;rw[auN_len];exact hy
theorem Fo.holds_len{m:Mdl}{n:Nat}(hm:m.Ok n):∀(b:Nat) (f:Fo),f.size<b->f.Hok m->(f.holds m).length=n
 | 0,f,hb,_=>absurd hb (Nat.not_lt_zero _)
 | b+1,f,hb,hf=>by
  rw[Fo.holds_eq];refine holdV_len hm (by simpa using hf.one) fun x hx=>?_
  obtain⟨y,hy,rfl⟩:=List.mem_map.1 hx;exact Fo.holds_len hm b y (by have:=Fo.kid_size hy;omega) (hf.kid hy)
def llB(L:List (List Bool)):List (List D):=L.map fun b=>[bools b]
@[simp] theorem llB_len(L:List (List Bool)):(llB L).length=L.length:=by simp[llB]
theorem llB_at{L:List (List Bool)}{i:Nat}(h:i<L.length):(llB L)[i]?=some [bools L[i]]:=by simp[llB,h]
def pI(A B:List Bool)(i:Nat):List Bool:=A.take i++B.drop i
theorem pI_zero(A B:List Bool):pI A B 0=B:=by simp[pI]
theorem pI_all{A B:List Bool}(h:A.length=B.length):pI A B B.length=A:=by
 unfold pI;rw[List.drop_length,List.append_nil];exact List.take_of_length_le (by omega)
theorem pI_len{A B:List Bool}{i:Nat}(h:A.length=B.length)(hi:i<=B.length):(pI A B i).length=B.length:=by simp[pI];omega
theorem pI_at{A B:List Bool}{i:Nat}(h:A.length=B.length)(hi:i<B.length):∀h2:i<(pI A B i).length,(pI A B i)[i]=B[i]:=by
 intro h2;have hl:(A.take i).length=i:=by simp;omega
 have hh:(pI A B i)[i]?=some B[i]:=by
  unfold pI;rw[List.getElem?_append_right (by omega)];simp[hl,hi]
 rw[List.getElem?_eq_getElem h2] at hh;exact Option.some.inj hh
theorem pI_succ{A B:List Bool}{i:Nat}(h:A.length=B.length)(hi:i<B.length)(h1:i<A.length){v:Bool}(hv:A[i]=v):(pI A B i).set i v=pI A B (i+1):=by
 subst hv;unfold pI;have hl:(A.take i).length=i:=by simp;omega
 rw[List.set_append_right _ _ (by omega),hl,Nat.sub_self,List.drop_eq_getElem_cons hi,List.set_cons_zero,List.take_succ_eq_append_getElem h1,List.append_assoc];rfl
theorem zipB_len{k:Int}{a b:List Bool}(h:a.length=b.length):(zipB k a b).length=a.length:=by simp[zipB,h]
theorem zipB_at{k:Int}{a b:List Bool}{i:Nat}(h1:i<(zipB k a b).length)(h2:i<a.length)(h3:i<b.length):(zipB k a b)[i]=if k=3 then a[i]&&b[i] else a[i]||b[i]:=by simp[zipB]
def stHo(f:Fo)(m:Mdl)(T:List (List Bool))(x:List Bool)(n:Nat)(R:List (List AV))(nb:Nat)(box:Bxs)(tok:Tks)(nt:Nat)(j:Nat):AS :=
 ⟨tl [(52,I j),(51,I T.length),(50,.d (.sl 1 (llB T))),(9,.msl (nb+9) 0 n 1),(3,.ptr (nb+3) 0 0)],lb nb box [(9,rowsB ((T.take j).foldl (zipB f.kind) x)++R),(3,[f.row])],tok,nt⟩
def stHi(f:Fo)(m:Mdl)(T:List (List Bool))(y:List Bool)(A B:List Bool)(n:Nat)(R:List (List AV))(nb:Nat)(box:Bxs)(tok:Tks)(nt:Nat)(j:Nat)(i:Nat):AS :=
 ⟨tl [(58,I i),(57,I n),(11,.d (bools y)),(52,I j),(51,I T.length),(50,.d (.sl 1 (llB T))),(9,.msl (nb+9) 0 n 1),(3,.ptr (nb+3) 0 0)],lb nb box [(9,rowsB (pI A B i)++R),(3,[f.row])],tok,nt⟩
structure HlA where
 i:Nat
 sz:Nat
 own:Own
 tok:Nat->Bool
 nt:Nat
def stHl(m:Mdl)(f:Fo)(L:List (List Bool))(nb:Nat)(box:Bxs)(a:HlA):AS :=
 ⟨tl [(22,.d (fos f.kids)),(23,I f.kids.length),(24,I a.i),(5,.osl a.sz (llB (L.take a.i)) a.own),(3,.ptr (nb+3) 0 0),(2,.ptr (nb+2) 0 0)],lb nb box [(3,[f.row]),(2,[m.row])],a.tok,a.nt⟩
theorem atom_get{m:Mdl}{s:ByteArray}(h:∃a∈m.atoms,a.1=s):mpdGet (m.atoms.map fun a=>(a.1,rBo a.2)) s=.d (bools (atomR m.atoms s)):=by
 unfold mpdGet atomR;rw[List.find?_map];have:((fun e:ByteArray × List (List D)=>decide (e.1=s)) ∘ fun a:ByteArray × List Bool=>(a.1,rBo a.2))=fun e=>decide (e.1=s):=rfl
 rw[this];cases e:m.atoms.find? fun e=>decide (e.1=s) with
 | some a=>simp
 | none =>
  obtain⟨a,ha,rfl⟩:=h;have:=List.find?_eq_none.1 e a ha
  simp at this
set_option maxRecDepth 100000 in
theorem holdsT_c(m:Mdl)(n:Nat)(hm:m.Ok n):∀(b:Nat) (f:Fo),f.size<b->f.size<=1000000->f.Hok m->∀(tok:Tks) (nt:Nat),DCall prog 92 [m.av,f.av] tok nt (.d (bools (f.holds m))) tok nt
 | 0,f,hb,_,_,tok,nt=>absurd hb (Nat.not_lt_zero _)
 | b+1,f,hb,hsz,hf,tok,nt=>by
  intro box nb;have ih:=fun x (hx:x∈f.kids)=>holdsT_c m n hm b x (by have:=Fo.kid_size hx;omega) (by have:=Fo.kid_size hx;omega) (hf.kid hx)
  have hln:=fun x (hx:x∈f.kids)=>Fo.holds_len hm b x (by have:=Fo.kid_size hx;omega) (hf.kid hx)
  have hkl:=f.kids_len;have hle:=hm.le;obtain⟨ho1,ho2,ho3⟩:=hf.one;have hmt:mapT prog 178=true:=by kernel_rfl
  obtain⟨Res,hRes⟩:∃Res,f.holds m=Res:=⟨_,rfl⟩
  rw[hRes];rw[Fo.holds_eq] at hRes;obtain⟨L,hL⟩:∃L,f.kids.map (Fo.holds m)=L:=⟨_,rfl⟩
  have hLl:L.length=f.kids.length:=by rw[<-hL];simp
  have hLn:∀x∈L,x.length=n:=by
   intro x hx;rw[<-hL] at hx;obtain⟨y,hy,rfl⟩:=List.mem_map.1 hx;exact hln y hy
  have hLi:∀i (h:i<f.kids.length) (h2:i<L.length),L[i]=f.kids[i].holds m:=by
   intro i h h2;subst hL;simp
  rw[hL] at hRes;refine sI func92 ntmps92 fun Hb Ht=>?_
  by_cases c1:f.kind=1
  .have b1:(f.kind==1)=true:=by simpa using c1
   have hget:=atom_get (ho1 c1);unfold holdV at hRes;rw[if_pos c1] at hRes;rw[hRes] at hget;try (simp[b1,hmt,hget])
   repeat ((first|refine sR ?_|refine sC ?_|refine sX ?_);simp[b1,hmt,hget])
   refine sT (sH Hb Ht ?_);simp
  have b1:(f.kind==1)=false:=by simpa using c1
  have ho2:=ho2 c1;have ho3:=ho3 c1;try (simp[b1])
  repeat ((first|refine sR ?_|refine sC ?_|refine sX ?_);simp[b1])
  refine sN ?_;refine sL (stHl m f L nb box) (fun a=>a.i<=f.kids.length/\TK tok nt a.tok a.nt [a.own]/\((a.sz=1/\∃t,a.own=.tok t)∨a.i=0/\a.own=.full)) (fun a=>f.kids.length-a.i) ⟨0,0,.full,tok,nt⟩ ⟨Nat.zero_le _,(TK.start Ht).full,.inr ⟨rfl,rfl⟩⟩ (wM (nr _) rfl (by simp[ToL,lk,llB]) (by simp[BoxL,lk])) ?_;rintro⟨i,sz,own,tok3,nt3⟩ S ⟨hi,htk,hsz2⟩ hS;simp only[stHl] at hS hi htk hsz2;subst hS;have hw:=sW (i:=i) (by omega);repeat first|simp|refine sR ?_|refine sC ?_
  refine⟨fun hlt=>?_,fun hge=>?_⟩
  .have ihx:=ih _ (List.getElem_mem hlt);have hlt2:i<L.length:=by omega
   have hLx:=hLi i hlt hlt2;have htk1:llB (L.take (i+1))=llB (L.take i)++[[bools L[i]]]:=by
    unfold llB;rw[List.take_succ_eq_append_getElem hlt2,List.map_append];rfl
   rw[<-hLx] at ihx;repeat first|simp[hlt,Fo.cells_eq]|refine sR ?_
   generalize f.kids[i]=x at *;repeat first|simp|refine sR ?_
   refine sD (ihx _ _) ?_;simp;refine⟨⟨hsz2.imp (fun h=>h.1) (fun h=>⟨by simp[h.1,llB],h.2⟩),by omega,htk.live⟩,?_⟩;try (simp[hw])
   repeat ((first|refine sR ?_|refine sC ?_|refine sX ?_);simp[hw])
   refine sE ?_;exact⟨⟨i+1,1,.tok nt3,_,nt3+1⟩,⟨hlt,htk.app,.inl ⟨rfl,_,rfl⟩⟩,by simp only;omega,wM (Nat.le_succ_of_le htk.le) rfl (by simp[ToL,lk,htk1]) (by simp[BoxL,lk])⟩
  .refine sX ?_;simp only[AU,↓reduceIte];have:i=f.kids.length:=by omega
   subst this;have hLt:L.take f.kids.length=L:=List.take_of_length_le (by omega)
   rw[hLt];obtain⟨rfl,t,rfl⟩:sz=1/\∃t,own=.tok t:=by
    rcases hsz2 with h|h
    .exact h
    .omega
   obtain⟨x,hx⟩:∃x,L.headD []=x:=⟨_,rfl⟩
   have hL0:0<L.length:=by omega
   have hx0:L[0]=x:=by
    rw[<-hx]
    match L,hL0 with
    | a::r,_=>rfl
   have hxn:x.length=n:=by rw[<-hx0];exact hLn _ (List.getElem_mem hL0)
   have h0:(llB L)[0]?=some [bools x]:=by rw[llB_at hL0,hx0]
   have h0v:∀h:0<(llB L).length,(llB L)[0]=[bools x]:=fun h=>by
    have:=h0
    rw[List.getElem?_eq_getElem h] at this;exact Option.some.inj this
   have hmx:m.Ok x.length:=by rw[hxn];exact hm
   unfold holdV at hRes;rw[hx,if_neg c1] at hRes;refine AL.weak (wM (l':=[(5,.d (.sl 1 (llB L))),(3,.ptr (nb+3) 0 0),(2,.ptr (nb+2) 0 0)]) (loc':=[(3,[f.row]),(2,[m.row])]) htk.le rfl (by simp[ToL,lk]) (by simp[BoxL,lk])) ?_;have hnt:=notT_c x (by omega);by_cases c2:f.kind=2
   .have b2:(f.kind==2)=true:=by simpa using c2
    rw[if_pos c2] at hRes;try (simp[h0v,hL0,b2])
    repeat ((first|refine sR ?_|refine sC ?_|refine sX ?_);simp[h0v,hL0,b2])
    refine sD (hnt _ _) ?_;simp;try (simp[hRes])
    repeat ((first|refine sR ?_|refine sC ?_|refine sX ?_);simp[hRes])
    refine sT (sG Hb Ht htk.old htk.le ?_);simp
   have b2:(f.kind==2)=false:=by simpa using c2
   rw[if_neg c2] at hRes;by_cases c34:f.kind=3∨f.kind=4
   .have hxne:x≠[]:=fun h=>by
     have:=hm.pos
     rw[h] at hxn;simp at hxn;omega
    have hcl:=cloneB_c x hxne (by omega) tok3 nt3;rw[if_pos c34] at hRes;have hLge:1<=L.length:=hL0
    obtain⟨T,hT⟩:∃T,L.tail=T:=⟨_,rfl⟩
    have hTl:L.length-1=T.length:=by rw[<-hT];simp
    have hTn:∀z∈T,z.length=n:=fun z hz=>hLn z (List.mem_of_mem_tail (by rw[hT];exact hz))
    have hst:(List.take L.length (llB L)).tail=llB T:=by
     rw[List.take_of_length_le (by simp)];rw[<-hT];simp[llB]
    rw[hT] at hRes;by_cases c3:f.kind=3
    .have b3:(f.kind==3)=true:=by simpa using c3
     try (simp[h0v,hL0,b2,b3])
     repeat ((first|refine sR ?_|refine sC ?_|refine sX ?_);simp[h0v,hL0,b2,b3])
     refine sD (hcl) ?_;simp;try (simp[hL0,hst,hTl,hLge])
     repeat ((first|refine sR ?_|refine sC ?_|refine sX ?_);simp[hL0,hst,hTl,hLge])
     have htk0:TK tok nt (upd (upd (upd tok3 nt3 true) nt3 false) (nt3+1) true) (nt3+2) [.tok (nt3+1),.tok t]:=htk.full.app.app
     generalize (upd (upd (upd tok3 nt3 true) nt3 false) (nt3+1) true)=tok1 at *;refine AL.thawS (l':=[(52,I 0),(51,I T.length),(50,.d (.sl 1 (llB T))),(49,.bot),(9,.msl (nb+9) 0 x.length 1),(48,.bot),(47,.bot),(44,.bot),(45,.bot),(40,.bot),(41,.bot),(39,.bot),(38,.bot),(8,.bot),(37,.bot),(36,.bot),(35,.bot),(5,.bot),(3,.ptr (nb+3) 0 0),(2,.bot)]) (loc':=[(3,[f.row]),(2,[m.row])]) (nt3+1) 9 1 (rBo x) 9 rfl (show (9:Nat)<149 by decide) rfl htk0.live (by simpa using hxne) rfl (by simp[CvL]) (cvB_refl (fun _=>.same) _) ?_;intro mm;rw[rowsD_Bo];have hro:=fun xs=>rowsBX_to xs mm
     generalize hRm:List.replicate mm (List.replicate 1 AV.bot)=R at *;have htk1:TK tok nt (upd tok1 (nt3+1) false) (nt3+2) [.full]:=by
      have:=htk0
      refine(TK.full ⟨fun t ht=>?_,this.lt,this.le,by simp,.nil⟩);have hlt:=Ht t ht;have:=htk.le
      rw[uO _ _ (by omega)];exact htk0.old t ht
     generalize upd tok1 (nt3+1) false=tok2 at *;generalize hnt2:nt3+2=nt2 at *;refine sN ?_;refine sL (stHo f m T x x.length R nb box tok2 nt2) (fun j=>j<=T.length) (fun j=>T.length-j) 0 (Nat.zero_le _) (wM htk1.le rfl (by simp[ToL,lk]) (by simp[BoxL,lk];exact hro _ _ _ _)) ?_;rintro j S hj hS;simp only[stHo] at hS;subst hS;have hw:=sW (i:=j) (by omega);have hcl2:=zipF_len f.kind n (T.take j) x hxn fun z hz=>hTn z (List.mem_of_mem_take hz)
     repeat first|simp|refine sR ?_|refine sC ?_
     refine⟨fun hlt=>?_,fun hge=>?_⟩
     .have hyv:∀h:j<(llB T).length,(llB T)[j]=[bools T[j]]:=fun h=>by
       have:=llB_at hlt
       rw[List.getElem?_eq_getElem h] at this;exact Option.some.inj this
      have hyn:=hTn _ (List.getElem_mem hlt);have hfs:(T.take (j+1)).foldl (zipB f.kind) x=zipB f.kind ((T.take j).foldl (zipB f.kind) x) T[j]:=by
       rw[List.take_succ_eq_append_getElem hlt,List.foldl_append];rfl
      repeat first|simp[hlt,hyv]|refine sR ?_
      generalize (T.take j).foldl (zipB f.kind) x=cur at *;generalize T[j]=y at *;have hAl:=zipB_len (k:=f.kind) (show cur.length=y.length by omega);have hAt:=fun i=>zipB_at (k:=f.kind) (a:=cur) (b:=y) (i:=i)
      rw[c3] at hAt hAl;rw[c3] at hfs;generalize hA:zipB 3 cur y=A at *;rw[<-c3] at hfs;refine sN ?_;refine sL (stHi f m T y A cur x.length R nb box tok2 nt2 j) (fun i=>i<=x.length) (fun i=>x.length-i) 0 (Nat.zero_le _) (wM htk1.le rfl (by simp[ToL,lk]) (by simp[BoxL,lk,pI_zero];exact hro _ _ _ _)) ?_;rintro i S hi hS;simp only[stHi] at hS;subst hS;have hw2:=sW (i:=i) (by omega);repeat first|simp|refine sR ?_|refine sC ?_
      refine⟨fun hlt2=>?_,fun hge2=>?_⟩
      .have hi1:i<cur.length:=by omega
       have hi2:i<y.length:=by omega
       have hi3:i<(pI A cur i).length:=by rw[pI_len hAl (by omega)];exact hi1
       have hi4:i<A.length:=by omega
       have hat:=pI_at hAl hi1 hi3;have hrg:=rowsBX_get hi3 R;have hrs:=fun v=>rowsBX_set (pI A cur i) i hi3 v R
       have hsu:=fun v=>pI_succ (v:=v) hAl hi1 hi4
       have hAi:=hAt i hi4 hi1 hi2;rw[hat] at hrg;simp only[↓reduceIte] at hAi;cases e1:cur[i]
       .rw[e1] at hAi;simp only[Bool.false_and] at hAi;have hsv:=hsu _ hAi;try (simp[hlt2,b3,hi1,hi2,hi3,hrg,e1,hrs,hsv,hw2])
        repeat ((first|refine sR ?_|refine sC ?_|refine sX ?_);simp[hlt2,b3,hi1,hi2,hi3,hrg,e1,hrs,hsv,hw2])
        refine sE ?_;exact⟨i+1,hlt2,by omega,wM htk1.le rfl (by simp[ToL,lk]) (by simp[BoxL,lk];exact hro _ _ _ _)⟩
       .rw[e1] at hAi;simp only[Bool.true_and] at hAi;have hsv:=hsu _ hAi;try (simp[hlt2,b3,hi1,hi2,hi3,hrg,e1,hrs,hsv,hw2])
        repeat ((first|refine sR ?_|refine sC ?_|refine sX ?_);simp[hlt2,b3,hi1,hi2,hi3,hrg,e1,hrs,hsv,hw2])
        refine sE ?_;exact⟨i+1,hlt2,by omega,wM htk1.le rfl (by simp[ToL,lk]) (by simp[BoxL,lk];exact hro _ _ _ _)⟩
      .refine sX ?_;simp only[AU,↓reduceIte];have:i=x.length:=by omega
       subst this;have hpa:=pI_all hAl;rw[show cur.length=x.length by omega] at hpa;rw[hpa];try (simp[hw])
       repeat ((first|refine sR ?_|refine sC ?_|refine sX ?_);simp[hw])
       refine sE ?_;exact⟨j+1,hlt,by omega,wM htk1.le rfl (by simp[ToL,lk]) (by simp[BoxL,lk,hfs];exact hro _ _ _ _)⟩
     .refine sX ?_;simp only[AU,↓reduceIte];have:j=T.length:=by omega
      subst this;rw[List.take_length] at hcl2 ⊢;rw[hRes] at hcl2 ⊢;try (simp)
      repeat ((first|refine sR ?_|refine sC ?_|refine sX ?_);simp)
      refine AL.weak (wM (l':=[(4,.msl (nb+9) 0 x.length 1)]) (loc':=[(9,rowsD (rBo Res)++R)]) htk1.le rfl (by simp[ToL,lk,lb_at]) (by rw[rowsD_Bo];simp only[BoxL,lk_cons,↓reduceIte,and_true];exact⟨_,rfl,hro _ _ _ _⟩)) ?_;have hes:(rBo Res).length=x.length:=by simp;omega
      refine AL.trans (Trans.sealD (l:=[(4,.msl (nb+9) 0 x.length 1)]) (l':=[(4,.d (bools Res))]) (loc:=[]) (loc':=[]) 9 1 (rBo Res) R 4 rfl (fun e he=>by obtain⟨b,_,rfl⟩:=List.mem_map.1 he;rfl) (by rw[hes];rfl) rfl ⟨rfl,by have:=@SpTo.msl (nb+9) 1 (rBo Res);rw[hes] at this;exact this,trivial⟩ trivial) ?_;refine sT (sG Hb Ht htk1.old htk1.le ?_);simp
    .have c4:f.kind=4:=c34.resolve_left c3
     have b3:(f.kind==3)=false:=by simpa using c3
     have b4:(f.kind==4)=true:=by simpa using c4
     try (simp[h0v,hL0,b2,b3,b4])
     repeat ((first|refine sR ?_|refine sC ?_|refine sX ?_);simp[h0v,hL0,b2,b3,b4])
     refine sD (hcl) ?_;simp;try (simp[hL0,hst,hTl,hLge])
     repeat ((first|refine sR ?_|refine sC ?_|refine sX ?_);simp[hL0,hst,hTl,hLge])
     have htk0:TK tok nt (upd (upd (upd tok3 nt3 true) nt3 false) (nt3+1) true) (nt3+2) [.tok (nt3+1),.tok t]:=htk.full.app.app
     generalize (upd (upd (upd tok3 nt3 true) nt3 false) (nt3+1) true)=tok1 at *;refine AL.thawS (l':=[(52,I 0),(51,I T.length),(50,.d (.sl 1 (llB T))),(49,.bot),(9,.msl (nb+9) 0 x.length 1),(48,.bot),(47,.bot),(44,.bot),(46,.bot),(44,.bot),(45,.bot),(40,.bot),(41,.bot),(39,.bot),(38,.bot),(8,.bot),(37,.bot),(36,.bot),(35,.bot),(5,.bot),(3,.ptr (nb+3) 0 0),(2,.bot)]) (loc':=[(3,[f.row]),(2,[m.row])]) (nt3+1) 9 1 (rBo x) 9 rfl (show (9:Nat)<149 by decide) rfl htk0.live (by simpa using hxne) rfl (by simp[CvL]) (cvB_refl (fun _=>.same) _) ?_;intro mm;rw[rowsD_Bo];have hro:=fun xs=>rowsBX_to xs mm
     generalize hRm:List.replicate mm (List.replicate 1 AV.bot)=R at *;have htk1:TK tok nt (upd tok1 (nt3+1) false) (nt3+2) [.full]:=by
      have:=htk0
      refine(TK.full ⟨fun t ht=>?_,this.lt,this.le,by simp,.nil⟩);have hlt:=Ht t ht;have:=htk.le
      rw[uO _ _ (by omega)];exact htk0.old t ht
     generalize upd tok1 (nt3+1) false=tok2 at *;generalize hnt2:nt3+2=nt2 at *;refine sN ?_;refine sL (stHo f m T x x.length R nb box tok2 nt2) (fun j=>j<=T.length) (fun j=>T.length-j) 0 (Nat.zero_le _) (wM htk1.le rfl (by simp[ToL,lk]) (by simp[BoxL,lk];exact hro _ _ _ _)) ?_;rintro j S hj hS;simp only[stHo] at hS;subst hS;have hw:=sW (i:=j) (by omega);have hcl2:=zipF_len f.kind n (T.take j) x hxn fun z hz=>hTn z (List.mem_of_mem_take hz)
     repeat first|simp|refine sR ?_|refine sC ?_
     refine⟨fun hlt=>?_,fun hge=>?_⟩
     .have hyv:∀h:j<(llB T).length,(llB T)[j]=[bools T[j]]:=fun h=>by
       have:=llB_at hlt
       rw[List.getElem?_eq_getElem h] at this;exact Option.some.inj this
      have hyn:=hTn _ (List.getElem_mem hlt);have hfs:(T.take (j+1)).foldl (zipB f.kind) x=zipB f.kind ((T.take j).foldl (zipB f.kind) x) T[j]:=by
       rw[List.take_succ_eq_append_getElem hlt,List.foldl_append];rfl
      repeat first|simp[hlt,hyv]|refine sR ?_
      generalize (T.take j).foldl (zipB f.kind) x=cur at *;generalize T[j]=y at *;have hAl:=zipB_len (k:=f.kind) (show cur.length=y.length by omega);have hAt:=fun i=>zipB_at (k:=f.kind) (a:=cur) (b:=y) (i:=i)
      rw[c4] at hAt hAl;rw[c4] at hfs;generalize hA:zipB 4 cur y=A at *;rw[<-c4] at hfs;refine sN ?_;refine sL (stHi f m T y A cur x.length R nb box tok2 nt2 j) (fun i=>i<=x.length) (fun i=>x.length-i) 0 (Nat.zero_le _) (wM htk1.le rfl (by simp[ToL,lk]) (by simp[BoxL,lk,pI_zero];exact hro _ _ _ _)) ?_;rintro i S hi hS;simp only[stHi] at hS;subst hS;have hw2:=sW (i:=i) (by omega);repeat first|simp|refine sR ?_|refine sC ?_
      refine⟨fun hlt2=>?_,fun hge2=>?_⟩
      .have hi1:i<cur.length:=by omega
       have hi2:i<y.length:=by omega
       have hi3:i<(pI A cur i).length:=by rw[pI_len hAl (by omega)];exact hi1
       have hi4:i<A.length:=by omega
       have hat:=pI_at hAl hi1 hi3;have hrg:=rowsBX_get hi3 R;have hrs:=fun v=>rowsBX_set (pI A cur i) i hi3 v R
       have hsu:=fun v=>pI_succ (v:=v) hAl hi1 hi4
       have hAi:=hAt i hi4 hi1 hi2;rw[hat] at hrg;simp only[show ¬(4:Int)=3 by decide,↓reduceIte] at hAi;cases e1:cur[i]
       .rw[e1] at hAi;simp only[Bool.false_or] at hAi;have hsv:=hsu _ hAi;try (simp[hlt2,b3,hi1,hi2,hi3,hrg,e1,hrs,hsv,hw2])
        repeat ((first|refine sR ?_|refine sC ?_|refine sX ?_);simp[hlt2,b3,hi1,hi2,hi3,hrg,e1,hrs,hsv,hw2])
        refine sE ?_;exact⟨i+1,hlt2,by omega,wM htk1.le rfl (by simp[ToL,lk]) (by simp[BoxL,lk];exact hro _ _ _ _)⟩
       .rw[e1] at hAi;simp only[Bool.true_or] at hAi;have hsv:=hsu _ hAi;try (simp[hlt2,b3,hi1,hi2,hi3,hrg,e1,hrs,hsv,hw2])
        repeat ((first|refine sR ?_|refine sC ?_|refine sX ?_);simp[hlt2,b3,hi1,hi2,hi3,hrg,e1,hrs,hsv,hw2])
        refine sE ?_;exact⟨i+1,hlt2,by omega,wM htk1.le rfl (by simp[ToL,lk]) (by simp[BoxL,lk];exact hro _ _ _ _)⟩
      .refine sX ?_;simp only[AU,↓reduceIte];have:i=x.length:=by omega
       subst this;have hpa:=pI_all hAl;rw[show cur.length=x.length by omega] at hpa;rw[hpa];try (simp[hw])
       repeat ((first|refine sR ?_|refine sC ?_|refine sX ?_);simp[hw])
       refine sE ?_;exact⟨j+1,hlt,by omega,wM htk1.le rfl (by simp[ToL,lk]) (by simp[BoxL,lk,hfs];exact hro _ _ _ _)⟩
     .refine sX ?_;simp only[AU,↓reduceIte];have:j=T.length:=by omega
      subst this;rw[List.take_length] at hcl2 ⊢;rw[hRes] at hcl2 ⊢;try (simp)
      repeat ((first|refine sR ?_|refine sC ?_|refine sX ?_);simp)
      refine AL.weak (wM (l':=[(4,.msl (nb+9) 0 x.length 1)]) (loc':=[(9,rowsD (rBo Res)++R)]) htk1.le rfl (by simp[ToL,lk,lb_at]) (by rw[rowsD_Bo];simp only[BoxL,lk_cons,↓reduceIte,and_true];exact⟨_,rfl,hro _ _ _ _⟩)) ?_;have hes:(rBo Res).length=x.length:=by simp;omega
      refine AL.trans (Trans.sealD (l:=[(4,.msl (nb+9) 0 x.length 1)]) (l':=[(4,.d (bools Res))]) (loc:=[]) (loc':=[]) 9 1 (rBo Res) R 4 rfl (fun e he=>by obtain⟨b,_,rfl⟩:=List.mem_map.1 he;rfl) (by rw[hes];rfl) rfl ⟨rfl,by have:=@SpTo.msl (nb+9) 1 (rBo Res);rw[hes] at this;exact this,trivial⟩ trivial) ?_;refine sT (sG Hb Ht htk1.old htk1.le ?_);simp
   have c3:¬f.kind=3:=fun h=>c34 (.inl h)
   have c4:¬f.kind=4:=fun h=>c34 (.inr h)
   have b3:(f.kind==3)=false:=by simpa using c3
   have b4:(f.kind==4)=false:=by simpa using c4
   rw[if_neg c34] at hRes;by_cases c5:f.kind=5
   .have b5:(f.kind==5)=true:=by simpa using c5
    rw[if_pos c5] at hRes;have hso:=someT_c m x hmx;try (simp[h0v,hL0,b2,b3,b4,b5])
    repeat ((first|refine sR ?_|refine sC ?_|refine sX ?_);simp[h0v,hL0,b2,b3,b4,b5])
    refine sD (hso _ _) ?_;simp;try (simp[hRes])
    repeat ((first|refine sR ?_|refine sC ?_|refine sX ?_);simp[hRes])
    refine sT (sG Hb Ht htk.old htk.le ?_);simp
   have b5:(f.kind==5)=false:=by simpa using c5
   rw[if_neg c5] at hRes;by_cases c9:f.kind=9
   .have b9:(f.kind==9)=true:=by simpa using c9
    rw[if_pos c9] at hRes;have hso:=someT_c m (notR x) (by simp only[notR_len];exact hmx);have hsl:(someR m.next (notR x)).length<=1000000:=by rw[someR_len,hm.next];omega
    have hn2:=notT_c (someR m.next (notR x)) hsl;try (simp[h0v,hL0,b2,b3,b4,b5,b9])
    repeat ((first|refine sR ?_|refine sC ?_|refine sX ?_);simp[h0v,hL0,b2,b3,b4,b5,b9])
    refine sD (hnt _ _) ?_;simp;refine sD (hso _ _) ?_;simp;refine sD (hn2 _ _) ?_;simp;try (simp[hRes])
    repeat ((first|refine sR ?_|refine sC ?_|refine sX ?_);simp[hRes])
    refine sT (sG Hb Ht htk.old htk.le ?_);simp
   have b9:(f.kind==9)=false:=by simpa using c9
   rw[if_neg c9] at hRes;have hal:=allT_c x.length (by omega);by_cases c6:f.kind=6
   .have b6:(f.kind==6)=true:=by simpa using c6
    rw[if_pos c6] at hRes;have hun:=untilT_c m (allR x.length) x hmx (by simp);try (simp[h0v,hL0,b2,b3,b4,b5,b9,b6])
    repeat ((first|refine sR ?_|refine sC ?_|refine sX ?_);simp[h0v,hL0,b2,b3,b4,b5,b9,b6])
    refine sD (hal _ _) ?_;simp;refine sD (hun _ _) ?_;simp;try (simp[hRes])
    repeat ((first|refine sR ?_|refine sC ?_|refine sX ?_);simp[hRes])
    refine sT (sG Hb Ht htk.old htk.le ?_);simp
   have b6:(f.kind==6)=false:=by simpa using c6
   rw[if_neg c6] at hRes;by_cases c11:f.kind=11
   .have b11:(f.kind==11)=true:=by simpa using c11
    rw[if_pos c11] at hRes;have hmn:m.Ok (notR x).length:=by simp only[notR_len];exact hmx
    have hun:=untilT_c m (allR x.length) (notR x) hmn (by simp);have hul:=untilR_len hm (allR x.length) (notR x) (by simp only[notR_len];exact hxn);have hn2:=notT_c (untilR m.prev (allR x.length) (notR x)) (by omega);try (simp[h0v,hL0,b2,b3,b4,b5,b9,b6,b11])
    repeat ((first|refine sR ?_|refine sC ?_|refine sX ?_);simp[h0v,hL0,b2,b3,b4,b5,b9,b6,b11])
    refine sD (hal _ _) ?_;simp;refine sD (hnt _ _) ?_;simp;refine sD (hun _ _) ?_;simp;refine sD (hn2 _ _) ?_;simp;try (simp[hRes])
    repeat ((first|refine sR ?_|refine sC ?_|refine sX ?_);simp[hRes])
    refine sT (sG Hb Ht htk.old htk.le ?_);simp
   have b11:(f.kind==11)=false:=by simpa using c11
   rw[if_neg c11] at hRes;by_cases c7:f.kind=7
   .have b7:(f.kind==7)=true:=by simpa using c7
    rw[if_pos c7] at hRes;have haw:=alwaysT_c m x hmx;try (simp[h0v,hL0,b2,b3,b4,b5,b9,b6,b11,b7])
    repeat ((first|refine sR ?_|refine sC ?_|refine sX ?_);simp[h0v,hL0,b2,b3,b4,b5,b9,b6,b11,b7])
    refine sD (haw _ _) ?_;simp;try (simp[hRes])
    repeat ((first|refine sR ?_|refine sC ?_|refine sX ?_);simp[hRes])
    refine sT (sG Hb Ht htk.old htk.le ?_);simp
   have b7:(f.kind==7)=false:=by simpa using c7
   rw[if_neg c7] at hRes;by_cases c10:f.kind=10
   .have b10:(f.kind==10)=true:=by simpa using c10
    rw[if_pos c10] at hRes;have hmn:m.Ok (notR x).length:=by simp only[notR_len];exact hmx
    have haw:=alwaysT_c m (notR x) hmn;have hul:=alwaysR_len hm (notR x) (by simp only[notR_len];exact hxn);have hn2:=notT_c (alwaysR m.next (notR x)) (by omega);try (simp[h0v,hL0,b2,b3,b4,b5,b9,b6,b11,b7,b10])
    repeat ((first|refine sR ?_|refine sC ?_|refine sX ?_);simp[h0v,hL0,b2,b3,b4,b5,b9,b6,b11,b7,b10])
    refine sD (hnt _ _) ?_;simp;refine sD (haw _ _) ?_;simp;refine sD (hn2 _ _) ?_;simp;try (simp[hRes])
    repeat ((first|refine sR ?_|refine sC ?_|refine sX ?_);simp[hRes])
    refine sT (sG Hb Ht htk.old htk.le ?_);simp
   have b10:(f.kind==10)=false:=by simpa using c10
   rw[if_neg c10] at hRes;have hL1:1<L.length:=by
    have:=ho3 c2 c3 c4 c5 c9 c6 c11 c7 c10
    omega
   have hL1i:(1:Int)<(L.length:Int):=by omega
   obtain⟨y,hy⟩:∃y,L.tail.headD []=y:=⟨_,rfl⟩
   have hy0:L[1]=y:=by
    rw[<-hy]
    match L,hL1 with
    | a::b::r,_=>rfl
   have hyn:y.length=n:=by rw[<-hy0];exact hLn _ (List.getElem_mem hL1)
   have h1v:∀h:1<(llB L).length,(llB L)[1]=[bools y]:=fun h=>by
    have:=llB_at hL1
    rw[List.getElem?_eq_getElem h,hy0] at this;exact Option.some.inj this
   have hmy:m.Ok y.length:=by rw[hyn];exact hm
   rw[hy] at hRes;by_cases c8:f.kind=8
   .have b8:(f.kind==8)=true:=by simpa using c8
    rw[if_pos c8] at hRes;have hun:=untilT_c m x y hmy (by omega);try (simp[h0v,hL0,b2,b3,b4,b5,b9,b6,b11,b7,b10,b8,h1v,hL1,hL1i])
    repeat ((first|refine sR ?_|refine sC ?_|refine sX ?_);simp[h0v,hL0,b2,b3,b4,b5,b9,b6,b11,b7,b10,b8,h1v,hL1,hL1i])
    refine sD (hun _ _) ?_;simp;try (simp[hRes])
    repeat ((first|refine sR ?_|refine sC ?_|refine sX ?_);simp[hRes])
    refine sT (sG Hb Ht htk.old htk.le ?_);simp
   have b8:(f.kind==8)=false:=by simpa using c8
   rw[if_neg c8] at hRes;have hau:=allUntilT_c m x y hmy (by omega);try (simp[h0v,hL0,b2,b3,b4,b5,b9,b6,b11,b7,b10,b8,h1v,hL1,hL1i])
   repeat ((first|refine sR ?_|refine sC ?_|refine sX ?_);simp[h0v,hL0,b2,b3,b4,b5,b9,b6,b11,b7,b10,b8,h1v,hL1,hL1i])
   refine sD (hau _ _) ?_;simp;try (simp[hRes])
   repeat ((first|refine sR ?_|refine sC ?_|refine sX ?_);simp[hRes])
   refine sT (sG Hb Ht htk.old htk.le ?_);simp
structure Qn where
 through:List Bool
 goal:Option (List Bool)
 endless:Bool
 verdict:Bool
abbrev goalA:Option (List Bool)->AV
 | some g=>.d (bools g)
 | none=>.osl 0 [] .full
abbrev Qn.row(q:Qn):List AV:=[.d (bools q.through),goalA q.goal,B q.endless,B q.verdict]
abbrev Qn.av(q:Qn):AV:=.agg q.row
def kidV(m:Mdl)(f:Fo)(i:Nat):List Bool:=(f.kids.map (Fo.holds m)).getD i []
def askR(m:Mdl)(f:Fo):Option Qn :=
 if f.kind=6 then some ⟨allR m.next.length,some (kidV m f 0),false,true⟩
 else if f.kind=11 then some ⟨allR m.next.length,some (notR (kidV m f 0)),false,false⟩
 else if f.kind=8 then some ⟨kidV m f 0,some (kidV m f 1),false,true⟩
 else if f.kind=7 then some ⟨kidV m f 0,none,true,true⟩
 else if f.kind=10 then some ⟨notR (kidV m f 0),none,true,false⟩
 else none
def askA:Option Qn->AV
 | some q=>.tup [q.av,B true]
 | none=>.tup [.agg [.osl 0 [] .full,.osl 0 [] .full,B false,B false],B false]
set_option maxRecDepth 100000 in
theorem askT_c(m:Mdl)(n:Nat)(hm:m.Ok n)(f:Fo)(hsz:f.size<=1000000)(hf:f.Hok m):DC 93 [m.av,f.av] (askA (askR m f)):=by
 intro tok nt box nb;have hle:=hm.le;have hkl:=f.kids_len;obtain⟨ho1,ho2,ho3⟩:=hf.one;have ih:=fun x (hx:x∈f.kids)=>holdsT_c m n hm f.size x (Fo.kid_size hx) (by have:=Fo.kid_size hx;omega) (hf.kid hx)
 have hln:=fun x (hx:x∈f.kids)=>Fo.holds_len hm f.size x (Fo.kid_size hx) (hf.kid hx)
 have hnl:=hm.next;have hal:=allT_c m.next.length (by omega);obtain⟨Res,hRes⟩:∃Res,askR m f=Res:=⟨_,rfl⟩
 rw[hRes];unfold askR at hRes;refine sI func93 ntmps93 fun Hb Ht=>?_
 by_cases c6:f.kind=6
 .have b6:(f.kind==6)=true:=by simpa using c6
  rw[if_pos c6] at hRes;have h0:0<f.kids.length:=ho2 (by rw[c6];decide)
  have ihx:=ih _ (List.getElem_mem h0);have hxl:=hln _ (List.getElem_mem h0);have hkv:kidV m f 0=f.kids[0].holds m:=by simp[kidV,h0]
  rw[hkv] at hRes;have hnx:=notT_c (f.kids[0].holds m) (by omega);subst hRes;try (simp[b6,h0,Fo.cells_eq])
  repeat ((first|refine sR ?_|refine sC ?_|refine sX ?_);simp[b6,h0,Fo.cells_eq])
  refine sD (hal _ _) ?_;simp[h0,Fo.cells_eq];refine sD (ihx _ _) ?_;simp[h0,Fo.cells_eq];try (simp)
  repeat ((first|refine sR ?_|refine sC ?_|refine sX ?_);simp)
  refine sT (sH Hb Ht ?_);simp[askA]
 have b6:(f.kind==6)=false:=by simpa using c6
 rw[if_neg c6] at hRes;by_cases c11:f.kind=11
 .have b11:(f.kind==11)=true:=by simpa using c11
  rw[if_pos c11] at hRes;have h0:0<f.kids.length:=ho2 (by rw[c11];decide)
  have ihx:=ih _ (List.getElem_mem h0);have hxl:=hln _ (List.getElem_mem h0);have hkv:kidV m f 0=f.kids[0].holds m:=by simp[kidV,h0]
  rw[hkv] at hRes;have hnx:=notT_c (f.kids[0].holds m) (by omega);subst hRes;try (simp[b6,b11,h0,Fo.cells_eq])
  repeat ((first|refine sR ?_|refine sC ?_|refine sX ?_);simp[b6,b11,h0,Fo.cells_eq])
  refine sD (hal _ _) ?_;simp[h0,Fo.cells_eq];refine sD (ihx _ _) ?_;simp[h0,Fo.cells_eq];refine sD (hnx _ _) ?_;simp[h0,Fo.cells_eq];try (simp)
  repeat ((first|refine sR ?_|refine sC ?_|refine sX ?_);simp)
  refine sT (sH Hb Ht ?_);simp[askA]
 have b11:(f.kind==11)=false:=by simpa using c11
 rw[if_neg c11] at hRes;by_cases c8:f.kind=8
 .have b8:(f.kind==8)=true:=by simpa using c8
  rw[if_pos c8] at hRes;have h0:0<f.kids.length:=ho2 (by rw[c8];decide)
  have ihx:=ih _ (List.getElem_mem h0);have hxl:=hln _ (List.getElem_mem h0);have hkv:kidV m f 0=f.kids[0].holds m:=by simp[kidV,h0]
  rw[hkv] at hRes;have hnx:=notT_c (f.kids[0].holds m) (by omega);have h1:1<f.kids.length:=ho3 (by rw[c8];decide) (by rw[c8];decide) (by rw[c8];decide) (by rw[c8];decide) (by rw[c8];decide) (by rw[c8];decide) (by rw[c8];decide) (by rw[c8];decide) (by rw[c8];decide) (by rw[c8];decide)
  have h1i:(1:Int)<(f.kids.length:Int):=by omega
  have ihy:=ih _ (List.getElem_mem h1);have hkw:kidV m f 1=f.kids[1].holds m:=by simp[kidV,h1]
  rw[hkw] at hRes;subst hRes;try (simp[b6,b11,b8,h0,h1,h1i,Fo.cells_eq])
  repeat ((first|refine sR ?_|refine sC ?_|refine sX ?_);simp[b6,b11,b8,h0,h1,h1i,Fo.cells_eq])
  refine sD (ihx _ _) ?_;simp[h0,h1,h1i,Fo.cells_eq];refine sD (ihy _ _) ?_;simp[h0,h1,h1i,Fo.cells_eq];try (simp)
  repeat ((first|refine sR ?_|refine sC ?_|refine sX ?_);simp)
  refine sT (sH Hb Ht ?_);simp[askA]
 have b8:(f.kind==8)=false:=by simpa using c8
 rw[if_neg c8] at hRes;by_cases c7:f.kind=7
 .have b7:(f.kind==7)=true:=by simpa using c7
  rw[if_pos c7] at hRes;have h0:0<f.kids.length:=ho2 (by rw[c7];decide)
  have ihx:=ih _ (List.getElem_mem h0);have hxl:=hln _ (List.getElem_mem h0);have hkv:kidV m f 0=f.kids[0].holds m:=by simp[kidV,h0]
  rw[hkv] at hRes;have hnx:=notT_c (f.kids[0].holds m) (by omega);subst hRes;try (simp[b6,b11,b8,b7,h0,Fo.cells_eq])
  repeat ((first|refine sR ?_|refine sC ?_|refine sX ?_);simp[b6,b11,b8,b7,h0,Fo.cells_eq])
  refine sD (ihx _ _) ?_;simp[h0,Fo.cells_eq];try (simp)
  repeat ((first|refine sR ?_|refine sC ?_|refine sX ?_);simp)
  refine sT (sH Hb Ht ?_);simp[askA]
 have b7:(f.kind==7)=false:=by simpa using c7
 rw[if_neg c7] at hRes;by_cases c10:f.kind=10
 .have b10:(f.kind==10)=true:=by simpa using c10
  rw[if_pos c10] at hRes;have h0:0<f.kids.length:=ho2 (by rw[c10];decide)
  have ihx:=ih _ (List.getElem_mem h0);have hxl:=hln _ (List.getElem_mem h0);have hkv:kidV m f 0=f.kids[0].holds m:=by simp[kidV,h0]
  rw[hkv] at hRes;have hnx:=notT_c (f.kids[0].holds m) (by omega);subst hRes;try (simp[b6,b11,b8,b7,b10,h0,Fo.cells_eq])
  repeat ((first|refine sR ?_|refine sC ?_|refine sX ?_);simp[b6,b11,b8,b7,b10,h0,Fo.cells_eq])
  refine sD (ihx _ _) ?_;simp[h0,Fo.cells_eq];refine sD (hnx _ _) ?_;simp[h0,Fo.cells_eq];try (simp)
  repeat ((first|refine sR ?_|refine sC ?_|refine sX ?_);simp)
  refine sT (sH Hb Ht ?_);simp[askA]
 have b10:(f.kind==10)=false:=by simpa using c10
 rw[if_neg c10] at hRes;subst hRes;try (simp[b6,b11,b8,b7,b10])
 repeat ((first|refine sR ?_|refine sC ?_|refine sX ?_);simp[b6,b11,b8,b7,b10])
 refine sT (sH Hb Ht ?_);simp[askA]
abbrev at_(l:List Bool)(i:Nat):Bool:=l.getD i false
theorem at_set{l:List Bool}{i j:Nat}(hi:i<l.length):at_ (l.set i true) j=(decide (j=i)||at_ l j):=by
 unfold at_;by_cases h:j=i
 .subst h;simp[hi]
 .simp[List.getElem?_set_ne (Ne.symm h),h]
theorem at_some{nx:List (List Int)}{l:List Bool}{i:Nat}(h:i<nx.length):at_ (someR nx l) i=(nx.getD i []).any fun k=>at_ l k.toNat:=by simp[at_,someR,h]
structure BInv (pv:List (List Int)) (f g:List Bool) (s:List Bool × List Int):Prop where
 len:s.1.length=g.length
 sub:∀i,i<g.length->at_ g i=true->at_ s.1 i=true
 inq:∀k∈s.2,inR g.length k/\at_ s.1 k.toNat=true
 done:∀k,k<g.length->at_ s.1 k=true->(k:Int)∈s.2∨∀i∈pv.getD k [],at_ f i.toNat=true->at_ s.1 i.toNat=true
 snd:∀i,i<g.length->at_ s.1 i=true->at_ g i=true∨at_ f i=true/\∃k,k<g.length/\(i:Int)∈pv.getD k []/\at_ s.1 k=true
theorem bfsF_grow{f:List Bool}{n:Nat}:∀(r:List Int) (s:List Bool × List Int),s.1.length=n->(∀k∈r,inR n k) ->
  (∀i,at_ s.1 i=true->at_ (r.foldl (bfsS f) s).1 i=true)/\(∀k∈s.2,k∈(r.foldl (bfsS f) s).2)/\(∀i∈r,at_ f i.toNat=true->at_ (r.foldl (bfsS f) s).1 i.toNat=true) /\
  (∀i,at_ (r.foldl (bfsS f) s).1 i=true->at_ s.1 i=true∨(i<n/\(i:Int)∈r/\at_ f i=true/\(i:Int)∈(r.foldl (bfsS f) s).2)) /\
  (∀k∈(r.foldl (bfsS f) s).2,k∈s.2∨(inR n k/\at_ (r.foldl (bfsS f) s).1 k.toNat=true))/\(r.foldl (bfsS f) s).1.length=n
 | [],s,hl,h=>⟨fun _ h=>h,fun _ h=>h,fun i h=>by simp at h,fun _ h=>.inl h,fun _ h=>.inl h,hl⟩
 | x::r,s,hl,h=>by
  have hx:=h x (by simp);have hxn:x.toNat<n:=by have:=hx.1;have:=hx.2;omega
  have hlx:(bfsS f s x).1.length=n:=by unfold bfsS;split<;>simp[hl]
  obtain⟨i1,i2,i3,i4,i5,i6⟩:=bfsF_grow (f:=f) (n:=n) r (bfsS f s x) hlx (fun k hk=>h k (by simp[hk]));have up:∀i,at_ s.1 i=true->at_ (bfsS f s x).1 i=true:=by
   intro i hi;unfold bfsS;split
   .rw[at_set (by rw[hl];exact hxn),hi];simp
   .exact hi
  have upq:∀k∈s.2,k∈(bfsS f s x).2:=by
   intro k hk;unfold bfsS;split
   .simp[hk]
   .exact hk
  rw[List.foldl_cons];refine⟨fun i hi=>i1 i (up i hi),fun k hk=>i2 k (upq k hk),fun i hi hf=>?_,fun i hi=>?_,fun k hk=>?_,i6⟩
  .rcases List.mem_cons.1 hi with e|hi
   .subst e;refine i1 _ ?_;unfold bfsS;split
    .rw[at_set (by rw[hl];exact hxn)];simp
    .rename_i hc;by_cases hq:at_ s.1 i.toNat=true
     .exact hq
     .exact absurd ⟨by simpa[at_] using hq,hf⟩ hc
   .exact i3 i hi hf
  .rcases i4 i hi with h1|⟨h1,h2,h3,h4⟩
   .unfold bfsS at h1;split at h1
    .rename_i hc;rw[at_set (by rw[hl];exact hxn)] at h1;by_cases e:i=x.toNat
     .right;have hxe:(i:Int)=x:=by have:=hx.1;omega
      refine⟨by omega,by rw[hxe];simp,by rw[e];exact hc.2,i2 _ ?_⟩;unfold bfsS;rw[if_pos hc,hxe];simp
     .simp[e] at h1;exact .inl h1
    .exact .inl h1
   .exact .inr ⟨h1,by simp[h2],h3,h4⟩
  .rcases i5 k hk with h1|h1
   .unfold bfsS at h1;split at h1
    .rcases List.mem_append.1 h1 with h1|h1
     .exact .inl h1
     .simp at h1;subst h1;refine .inr ⟨hx,i1 _ ?_⟩;rename_i hc;unfold bfsS;rw[if_pos hc,at_set (by rw[hl];exact hxn)];simp
    .exact .inl h1
   .exact .inr h1
theorem BInv.step{pv:List (List Int)}{f g:List Bool}{out:List Bool}{k:Int}{q:List Int}(hp:∀r∈pv,∀k∈r,inR g.length k)(h:BInv pv f g (out,k::q)):
  BInv pv f g ((pv.getD k.toNat []).foldl (bfsS f) (out,q)):=by
 obtain⟨h1,h2,h3,h4,h5⟩:=h;have hr:∀x∈pv.getD k.toNat [],inR g.length x:=by
  intro x hx;by_cases hk:k.toNat<pv.length
  .have e:pv.getD k.toNat []=pv[k.toNat]:=by simp[hk]
   rw[e] at hx;exact hp _ (List.getElem_mem hk) x hx
  .have e:pv.getD k.toNat []=[]:=by rw[List.getD_eq_getElem?_getD,List.getElem?_eq_none (by omega)];rfl
   rw[e] at hx;simp at hx
 obtain⟨i1,i2,i3,i4,i5,i6⟩:=bfsF_grow (f:=f) (n:=g.length) (pv.getD k.toNat []) (out,q) h1 hr;obtain⟨hk1,hk2⟩:=h3 k (by simp);refine⟨i6,fun i hi hg=>i1 i (h2 i hi hg),fun x hx=>?_,fun x hx ho=>?_,fun i hi ho=>?_⟩
 .rcases i5 x hx with e|e
  .obtain⟨a,b⟩:=h3 x (by simp only[List.mem_cons];exact .inr e);exact⟨a,i1 _ b⟩
  .exact e
 .rcases i4 x ho with e|⟨_,_,_,e⟩
  .rcases h4 x hx e with e2|e2
   .rcases List.mem_cons.1 e2 with e3|e3
    .right;have:x=k.toNat:=by have:=hk1.1;omega
     subst this;exact fun i hi hf=>i3 i hi hf
    .exact .inl (i2 _ e3)
   .exact .inr fun i hi hf=>i1 _ (e2 i hi hf)
  .exact .inl e
 .rcases i4 i ho with e|⟨e1,e2,e3,_⟩
  .rcases h5 i hi e with e2|⟨e2,j,e3,e4,e5⟩
   .exact .inl e2
   .exact .inr ⟨e2,j,e3,e4,i1 _ e5⟩
  .exact .inr ⟨e3,k.toNat,by have:=hk1.1;have:=hk1.2;omega,e2,i1 _ hk2⟩
theorem any_at{r:List Int}{l:List Bool}{n:Nat}(hr:∀k∈r,inR n k):(r.any fun k=>at_ l k.toNat)=true↔∃k,k<n/\(k:Int)∈r/\at_ l k=true:=by
 rw[List.any_eq_true];constructor
 .rintro⟨k,h1,h2⟩;obtain⟨a,b⟩:=hr k h1;exact⟨k.toNat,by omega,by rw[Int.toNat_of_nonneg a];exact h1,h2⟩
 .rintro⟨k,_,h2,h3⟩;exact⟨k,h2,by simpa using h3⟩
theorem gtD_mem{nx:List (List Int)}{i:Nat}{n:Nat}(h:∀r∈nx,∀k∈r,inR n k):∀k∈nx.getD i [],inR n k:=by
 intro k hk;by_cases hi:i<nx.length
 .have e:nx.getD i []=nx[i]:=by simp[hi]
  rw[e] at hk;exact h _ (List.getElem_mem hi) k hk
 .have e:nx.getD i []=[]:=by rw[List.getD_eq_getElem?_getD,List.getElem?_eq_none (by omega)];rfl
  rw[e] at hk;simp at hk
theorem at_alwS{nx:List (List Int)}{out:List Bool}{i:Nat}(h:i<out.length)(h2:i<nx.length):at_ (alwS nx out) i=(at_ out i&&at_ (someR nx out) i):=by
 simp[at_,alwS,h,h2,List.getElem?_zipWith]
theorem alwSq_len{nx:List (List Int)}{out:List Bool}(h:out.length=nx.length):(alwS nx out).length=out.length:=by simp[alwS,h]
theorem alwN_inv{nx:List (List Int)}{f:List Bool}(hf:f.length=nx.length)(hnr:∀r∈nx,∀k∈r,inR nx.length k):∀(m:Nat) (out:List Bool),out.count true<m->out.length=nx.length ->
  (∀i,i<nx.length->at_ out i=true->at_ f i=true)->(∀i,i<nx.length->at_ f i=true->at_ out i=false->at_ (someR nx out) i=false) ->
  let R:=alwN nx m out
  R.length=nx.length/\(∀i,i<nx.length->at_ R i=true->at_ f i=true)/\(∀i,i<nx.length->at_ f i=true->at_ R i=false->at_ (someR nx R) i=false)/\alwS nx R=R
 | 0,out,hm,_,_,_=>absurd hm (Nat.not_lt_zero _)
 | m+1,out,hm,hl,h1,h2=>by
  simp only[alwN];split
  .rename_i he;exact⟨hl,h1,h2,he⟩
  .rename_i he;have hc:=count_and out (someR nx out) (by simp[hl]);have hlt:=hc.2 he;have down:∀j,j<nx.length->at_ (alwS nx out) j=true->at_ out j=true:=fun j hj h=>by
    rw[at_alwS (by omega) hj] at h;simp at h;exact h.1
   refine alwN_inv hf hnr m (alwS nx out) (by show (alwS nx out).count true<m;unfold alwS;omega) (by rw[alwSq_len hl,hl]) (fun i hi h=>h1 i hi (down i hi h)) (fun i hi hfi ho=>?_);have hs:at_ (someR nx out) i=false:=by
    by_cases ho2:at_ out i=true
    .rw[at_alwS (by omega) hi,ho2] at ho;simpa using ho
    .exact h2 i hi hfi (by simpa using ho2)
   rw[at_some hi] at hs ⊢;rw[Bool.eq_false_iff] at hs ⊢;intro h;refine hs ((any_at (gtD_mem hnr)).2 ?_);obtain⟨k,e1,e2,e3⟩:=(any_at (gtD_mem hnr)).1 h;exact⟨k,e1,e2,down k e1 e3⟩
theorem always_fix{n:Nat}{nx:List (List Int)}{f:List Bool}(hf:f.length=n)(hn:nx.length=n)(hnr:∀r∈nx,∀k∈r,inR n k):(alwaysR nx f).length=n/\∀i,i<n->at_ (alwaysR nx f) i=(at_ f i&&at_ (someR nx (alwaysR nx f)) i):=by
 subst hn;obtain⟨h1,h2,h3,h4⟩:=alwN_inv hf hnr (f.count true+1) f (Nat.lt_succ_self _) hf (fun _ _ h=>h) (fun i _ h k=>by rw[h] at k;cases k);refine⟨h1,fun i hi=>?_⟩;show at_ (alwN nx (f.count true+1) f) i=(at_ f i&&at_ (someR nx (alwN nx (f.count true+1) f)) i)
 generalize alwN nx (f.count true+1) f=R at *;have h5:=at_alwS (nx:=nx) (out:=R) (i:=i) (by omega) hi;rw[h4] at h5;cases hR:at_ R i
 .rw[hR] at h5;cases hfi:at_ f i
  .rfl
  .have:=h3 i hi hfi hR
   rw[this];rfl
 .rw[hR] at h5;have:=h2 i hi hR
  rw[this];simpa using h5
theorem nodup_len:∀(n:Nat) (l:List Int),l.Nodup->(∀k∈l,inR n k)->l.length<=n
 | 0,l,_,h=>by
  cases l with
  | nil=>simp
  | cons k r=>obtain⟨h1,h2⟩:=h k (by simp);omega
 | n+1,l,hd,h=>by
  have h1:=nodup_len n (l.erase (n:Int)) (hd.erase _) fun k hk=>by
   obtain⟨e1,e2⟩:=hd.mem_erase_iff.1 hk;obtain⟨e3,e4⟩:=h k e2;exact⟨e3,by omega⟩
  have h2:=List.length_erase (a:=(n:Int)) (l:=l);split at h2<;>omega
def endS(nx:List (List Int))(inn:List Bool)(a:Int):Int:=(nx.getD a.toNat []).getD (findI (fun i=>inn.getD i.toNat false) (nx.getD a.toNat [])).toNat 0
def endN(nx:List (List Int))(inn:List Bool):Nat->Int->List Int->List Int
 | 0,_,path=>path
 | n+1,a,path=>if endS nx inn a∈path then path++[endS nx inn a] else endN nx inn n (endS nx inn a) (path++[endS nx inn a])
def endR(m:Mdl)(thr:List Bool):List Int:=if (alwaysR m.next thr).getD 0 false=true then endN m.next (alwaysR m.next thr) m.next.length 0 [0] else []
theorem endc_c(inn:List Bool)(k:Int)(hk:inR inn.length k)(k5 nb:Nat)(box:Bxs)(tok:Tks)(nt:Nat)(h5:box k5=some [[.d (bools inn)]]):
  ACalls prog 164 [I k,.ptr k5 0 0] ⟨box,nb,tok,nt⟩ fun v m=>v=B (inn.getD k.toNat false)/\m=⟨box,nb,tok,nt⟩:=by
 obtain⟨h1,h2⟩:=hk;have h3:k.toNat<inn.length:=by omega
 have hg1:inn.getD k.toNat false=inn[k.toNat]:=by simp[h3]
 rw[hg1];refine sI func164 ntmps164 fun Hb Ht=>?_
 have hkn5:=key_lt Hb h5;repeat first|simp|refine sR ?_
 repeat first|simp[lO hkn5,h5,h1,h2,h3]|refine sR ?_
 refine sT (sH Hb Ht ?_);simp
theorem findI_at{α:Type}(p:α->Bool)(xs:List α)(h:∃x∈xs,p x=true):∃k:Nat,∃hk:k<xs.length,findI p xs=(k:Int)/\p xs[k]=true:=by
 have ha:xs.any p=true:=by simpa using h
 have hl:xs.findIdx p<xs.length:=List.findIdx_lt_length_of_exists (by obtain⟨x,h1,h2⟩:=h;exact⟨x,h1,h2⟩)
 exact⟨xs.findIdx p,hl,by simp[findI,ha],List.findIdx_getElem⟩
theorem end_step{m:Mdl}{n:Nat}(hm:m.Ok n){inn:List Bool}(hin:∀i,i<n->at_ inn i=true->at_ (someR m.next inn) i=true){a:Int}(ha:inR n a)(hat:inn.getD a.toNat false=true):
  ∃k:Nat,∃h1:a.toNat<m.next.length,∃h2:k<m.next[a.toNat].length,findI (fun i=>inn.getD i.toNat false) m.next[a.toNat]=(k:Int)/\endS m.next inn a=m.next[a.toNat][k]/\inR n m.next[a.toNat][k]/\inn.getD (m.next[a.toNat][k]).toNat false=true:=by
 obtain⟨e1,e2⟩:=ha;have h1:a.toNat<m.next.length:=by rw[hm.next];omega
 have hg:m.next.getD a.toNat []=m.next[a.toNat]:=by simp[h1]
 have hs:=hin a.toNat (by omega) hat;rw[at_some h1,hg] at hs;obtain⟨x,hx1,hx2⟩:=List.any_eq_true.1 hs;obtain⟨k,hk,hf,hp⟩:=findI_at (fun i:Int=>inn.getD i.toNat false) m.next[a.toNat] ⟨x,hx1,hx2⟩;refine⟨k,h1,hk,hf,?_,hm.nextR _ (List.getElem_mem h1) _ (List.getElem_mem hk),hp⟩;unfold endS;rw[hg,hf];simp[hk]
def pathA:List Int->AV
 | []=>.osl 0 [] .full
 | a::r=>.d (ints (a::r))
theorem pathA_ne{l:List Int}(h:l≠[]):pathA l=.d (ints l):=by
 cases l with
 | nil=>exact absurd rfl h
 | cons a r=>rfl
theorem pathA_app(l:List Int)(a:Int):pathA (l++[a])=.d (ints (l++[a])):=pathA_ne (by simp)
structure EnA where
 a:Int
 path:List Int
 sz:Nat
 own:Own
 tok:Nat->Bool
 nt:Nat
def stEdl(m:Mdl)(inn:List Bool)(nb:Nat)(box:Bxs)(x:EnA):AS :=
 ⟨tl [(7,I x.a),(6,.osl 1 (rI x.path) x.own),(5,.ptr (nb+5) 0 0),(2,.ptr (nb+2) 0 0)],lb nb box [(5,[[.d (bools inn)]]),(2,[m.row])],x.tok,x.nt⟩
set_option maxRecDepth 100000 in
theorem endlessT_c(m:Mdl)(n:Nat)(hm:m.Ok n)(q:Qn)(hq:q.through.length=n):DC 94 [m.av,q.av] (pathA (endR m q.through)):=by
 intro tok nt box nb;have hle:=hm.le;have hpos:=hm.pos;have hmq:m.Ok q.through.length:=by rw[hq];exact hm
 have haw:=alwaysT_c m q.through hmq;obtain⟨hil,hfix⟩:=always_fix (f:=q.through) hq hm.next hm.nextR;have hnl:=hm.next;obtain⟨Res,hRes⟩:∃Res,endR m q.through=Res:=⟨_,rfl⟩
 rw[hRes];unfold endR at hRes;generalize alwaysR m.next q.through=inn at *;have hcl:∀i,i<n->at_ inn i=true->at_ (someR m.next inn) i=true:=fun i hi h=>by
  have:=hfix i hi
  rw[h] at this;have:=this.symm
  simp only[Bool.and_eq_true] at this;exact this.2
 have h0:0<inn.length:=by omega
 have hg0:inn.getD 0 false=inn[0]:=by simp[h0]
 rw[hg0] at hRes;refine sI func94 ntmps94 fun Hb Ht=>?_
 repeat first|simp|refine sR ?_
 refine sD (haw _ _) ?_;simp;cases e0:inn[0]
 .rw[e0] at hRes;simp only[Bool.false_eq_true,↓reduceIte] at hRes;subst hRes;try (simp[h0,e0])
  repeat ((first|refine sR ?_|refine sC ?_|refine sX ?_);simp[h0,e0])
  refine sT (sH Hb Ht ?_);simp[pathA]
 .rw[e0,if_pos rfl] at hRes;try (simp[h0,e0])
  repeat ((first|refine sR ?_|refine sC ?_|refine sX ?_);simp[h0,e0])
  refine sN ?_;refine sL (stEdl m inn nb box) (fun x=>TK tok nt x.tok x.nt [x.own]/\x.path.length<=n/\x.path.Nodup/\(∀k∈x.path,inR n k)/\inR n x.a/\inn.getD x.a.toNat false=true/\endN m.next inn (n+1-x.path.length) x.a x.path=Res) (fun x=>n+1-x.path.length) ⟨0,[0],1,.full,tok,nt⟩ ⟨(TK.start Ht).full,(show 1<=n from hpos),by simp,by simp[inR];exact hpos,by simp[inR];exact hpos,by simp[e0,h0],by simp;rw[<-hnl];exact hRes⟩ wkA ?_;rintro⟨a,path,sz,own,tok3,nt3⟩ S ⟨htk,hpl,hnd,hpr,har,hat,hend⟩ hS;simp only[stEdl] at hS htk hpl hnd hpr har hat hend;subst hS;obtain⟨k,h1,h2,hf,hes,hkr,hkt⟩:=end_step hm hcl har hat;obtain⟨ha1,ha2⟩:=har;have ha3:a<(m.next.length:Int):=by omega
  have hrR:=hm.nextR _ (List.getElem_mem h1);have hrL:=hm.nextL _ (List.getElem_mem h1);obtain⟨F,hF⟩:∃F,n+1-path.length=F+1:=⟨n-path.length,by omega⟩
  rw[hF,endN,hes] at hend;have hix:=indexFunc_c m.next[a.toNat] 164 [.ptr (nb+5) 0 0] (fun i=>inn.getD i.toNat false) (by omega) (lb nb box [(5,[[.d (bools inn)]]),(2,[m.row])]) (nb+43) tok3 nt3 (by simp[lb_at,lk]) (fun k hk box' nb' he=>endc_c inn k (by rw[hil];exact hrR k hk) (nb+5) nb' box' tok3 nt3 (he _ _ (by simp[lb_at,lk])));rw[hf] at hix;try (simp[ha1,ha3,h1])
  repeat ((first|refine sR ?_|refine sC ?_|refine sX ?_);simp[ha1,ha3,h1])
  refine Stop.of_b (hix) ?_;simp;obtain⟨a',ha'⟩:∃a',m.next[a.toNat][k]=a':=⟨_,rfl⟩
  rw[ha'] at hend hkr hkt;have hct:=contains_c path a' (by omega);try (simp[ha1,ha3,h1,h2,ha'])
  repeat ((first|refine sR ?_|refine sC ?_|refine sX ?_);simp[ha1,ha3,h1,h2,ha'])
  refine Stop.sub (args':=[.d (ints path),I a']) ⟨Sub.data _ _ _,Sub.refl _,trivial⟩ ?_;refine sD (hct _ _) ?_;simp;by_cases hm':a'∈path
  .rw[if_pos hm'] at hend;subst hend;try (simp[hm'])
   repeat ((first|refine sR ?_|refine sC ?_|refine sX ?_);simp[hm'])
   refine⟨⟨by omega,htk.live⟩,?_⟩;try (simp)
   repeat ((first|refine sR ?_|refine sC ?_|refine sX ?_);simp)
   refine sT (sG Hb Ht htk.app.old htk.app.le ?_);simp[ints,pathA_app]
  .rw[if_neg hm'] at hend;have hnd2:(path++[a']).Nodup:=by
    rw[List.nodup_append];exact⟨hnd,by simp,fun x hx y hy h=>by simp at hy;subst hy;subst h;exact hm' hx⟩
   have hpr2:∀k∈path++[a'],inR n k:=fun x hx=>by
    rcases List.mem_append.1 hx with hx|hx
    .exact hpr x hx
    .simp at hx;subst hx;exact hkr
   have hpl2:=nodup_len n _ hnd2 hpr2;try (simp[hm'])
   repeat ((first|refine sR ?_|refine sC ?_|refine sX ?_);simp[hm'])
   refine⟨⟨by omega,htk.live⟩,?_⟩;try (simp)
   repeat ((first|refine sR ?_|refine sC ?_|refine sX ?_);simp)
   refine sE ?_;refine⟨⟨a',path++[a'],1,.tok nt3,_,nt3+1⟩,⟨htk.app,hpl2,hnd2,hpr2,hkr,hkt,?_⟩,?_,wM (Nat.le_succ_of_le htk.le) rfl (by simp[ToL,lk]) (by simp[BoxL,lk])⟩
   .simp only[List.length_append,List.length_cons,List.length_nil];rw[show n+1-(path.length+(0+1))=F by omega];exact hend
   .simp only[List.length_append,List.length_cons,List.length_nil];omega
def fAt(far:List Int)(k:Int):Int:=far.getD k.toNat 0
def farS(thr:List Bool)(k:Int)(s:List Int × List Int)(i:Int):List Int × List Int:=if fAt s.1 i<0/\thr.getD i.toNat false=true then (s.1.set i.toNat (fAt s.1 k+1),s.2++[i]) else s
def farN(pv:List (List Int))(thr:List Bool):Nat->List Int->List Int->List Int
 | _,far,[]=>far
 | 0,far,_::_=>far
 | n+1,far,k::q=>farN pv thr n ((pv.getD k.toNat []).foldl (farS thr k) (far,q)).1 ((pv.getD k.toNat []).foldl (farS thr k) (far,q)).2
def negs(l:List Int):Nat:=l.countP fun v=>decide (v<0)
def farM(s:List Int × List Int):Nat:=negs s.1+s.2.length
def far0(g:List Bool):List Int:=g.map fun b=>if b=true then 0 else -1
theorem negs_set{l:List Int}:∀{i:Nat} (h:i<l.length) {v:Int},l[i]<0->0<=v->negs (l.set i v)+1=negs l:=by
 induction l with
 | nil=>intro i h;simp at h
 | cons b l ih =>
  intro i h v he hv;cases i with
  | zero =>
   simp at he;have h1:¬v<0:=by omega
   simp[negs,List.countP_cons,he,h1]
  | succ i =>
   simp at he h;have:=ih h he hv
   simp only[negs] at this;simp only[negs,List.set_cons_succ,List.countP_cons];omega
theorem fAt_set{far:List Int}{i j:Int}{n:Nat}(hn:far.length=n)(hi:inR n i)(hj:inR n j)(v:Int):fAt (far.set i.toNat v) j=if j=i then v else fAt far j:=by
 obtain⟨h1,h2⟩:=hi;obtain⟨h3,h4⟩:=hj;have h5:i.toNat<far.length:=by omega
 unfold fAt;by_cases h:j=i
 .subst h;simp[h5]
 .have:¬i.toNat=j.toNat:=by omega
  simp[h,List.getElem?_set_ne this]
structure FarI (n:Nat) (nx:List (List Int)) (s:List Int × List Int):Prop where
 len:s.1.length=n
 q:∀k∈s.2,inR n k/\0<=fAt s.1 k
 lo:∀i,inR n i -> -1<=fAt s.1 i
 hi:∀i,inR n i->fAt s.1 i+(negs s.1:Int)<=(n:Int)
 down:∀i,inR n i->0<fAt s.1 i->∃j∈nx.getD i.toNat [],inR n j/\fAt s.1 j=fAt s.1 i-1
theorem farS_i{n:Nat}{nx:List (List Int)}{thr:List Bool}{s:List Int × List Int}(h:FarI n nx s){k i:Int}(hk:inR n k)(hk0:0<=fAt s.1 k)(hi:inR n i)(hc:k∈nx.getD i.toNat []):FarI n nx (farS thr k s i)/\farM (farS thr k s i)=farM s/\0<=fAt (farS thr k s i).1 k:=by
 unfold farS;split
 .rename_i hcond;obtain⟨hneg,_⟩:=hcond;have hil:i.toNat<s.1.length:=by have:=h.len;have:=hi.1;have:=hi.2;omega
  have hgi:fAt s.1 i=s.1[i.toNat]:=by simp[fAt,hil]
  have hng:=negs_set hil (v:=fAt s.1 k+1) (by rw[<-hgi];exact hneg) (by omega);have hset:=fun j hj=>fAt_set (j:=j) h.len hi hj (fAt s.1 k+1)
  have hki:¬k=i:=fun e=>by subst e;omega
  have hkk:fAt (s.1.set i.toNat (fAt s.1 k+1)) k=fAt s.1 k:=by rw[hset k hk,if_neg hki]
  refine⟨⟨by simp[h.len],fun x hx=>?_,fun x hx=>?_,fun x hx=>?_,fun x hx h0=>?_⟩,?_,by simp only;omega⟩
  .simp only;rcases List.mem_append.1 hx with hx|hx
   .obtain⟨e1,e2⟩:=h.q x hx;refine⟨e1,?_⟩;rw[hset x e1];split<;>omega
   .simp at hx;subst hx;refine⟨hi,?_⟩;rw[hset _ hi,if_pos rfl];omega
  .simp only;rw[hset x hx];have:=h.lo x hx
   split<;>omega
  .simp only;rw[hset x hx];have h1:=h.hi x hx;have h2:=h.hi k hk;split<;>omega
  .simp only at h0 ⊢;rw[hset x hx] at h0 ⊢;by_cases e:x=i
   .subst e;rw[if_pos rfl] at h0 ⊢;exact⟨k,hc,hk,by rw[hkk];omega⟩
   .rw[if_neg e] at h0 ⊢;obtain⟨j,e1,e2,e3⟩:=h.down x hx h0;refine⟨j,e1,e2,?_⟩;rw[hset j e2,if_neg (fun e4=>by subst e4;omega)];exact e3
  .simp only[farM,List.length_append,List.length_cons,List.length_nil];omega
 .exact⟨h,rfl,hk0⟩
theorem farF_i{n:Nat}{nx:List (List Int)}{thr:List Bool}{k:Int}(hk:inR n k):∀(r:List Int) (s:List Int × List Int),FarI n nx s->0<=fAt s.1 k->(∀i∈r,inR n i/\k∈nx.getD i.toNat [])->FarI n nx (r.foldl (farS thr k) s)/\farM (r.foldl (farS thr k) s)=farM s
 | [],s,h,_,_=>⟨h,rfl⟩
 | i::r,s,h,h0,hr=>by
  obtain⟨e1,e2⟩:=hr i (by simp);obtain⟨k1,k2,k3⟩:=farS_i (thr:=thr) h hk h0 e1 e2;obtain⟨m1,m2⟩:=farF_i hk r _ k1 k3 fun j hj=>hr j (by simp[hj])
  exact⟨m1,m2.trans k2⟩
theorem farN_nil(pv:List (List Int))(thr:List Bool)(b:Nat)(far:List Int):farN pv thr b far []=far:=by cases b<;>rfl
theorem fAt_far0{g:List Bool}{i:Int}(h:inR g.length i):fAt (far0 g) i=if g.getD i.toNat false=true then 0 else -1:=by
 obtain⟨h1,h2⟩:=h;have h3:i.toNat<g.length:=by omega
 simp[fAt,far0,h3]
theorem negs_far0:∀g:List Bool,negs (far0 g)=g.count false
 | []=>rfl
 | b::g=>by
  have:=negs_far0 g
  simp only[negs,far0] at this;simp only[negs,far0,List.map_cons,List.countP_cons,this,List.count_cons];cases b<;>simp
theorem far0_m(g:List Bool):farM (far0 g,trueIx g)=g.length:=by
 have:=trueIx_len g
 simp only[bfM] at this;simp only[farM,negs_far0];exact this
theorem trueIx_at{g:List Bool}{k:Int}(h:k∈trueIx g):g.getD k.toNat false=true:=by
 obtain⟨j,hj,rfl⟩:=List.mem_map.1 h;simpa using (List.mem_filter.1 hj).2
theorem far0_i(g:List Bool)(nx:List (List Int)):FarI g.length nx (far0 g,trueIx g):=by
 have hin:=trueTo_in (g:=g) (nr _);rw[trueTo_all] at hin;refine⟨by simp[far0],fun k hk=>⟨hin k hk,?_⟩,fun i hi=>?_,fun i hi=>?_,fun i hi h=>?_⟩
 .rw[fAt_far0 (hin k hk),if_pos (trueIx_at hk)];exact Int.le_refl _
 .rw[fAt_far0 hi];split<;>omega
 .have h1:=negs_far0 g;have h2:=count_tf g;rw[fAt_far0 hi];simp only;split<;>omega
 .simp only at h;rw[fAt_far0 hi] at h;split at h<;>omega
def pthS(nx:List (List Int))(far:List Int)(a:Int):Int:=(nx.getD a.toNat []).getD (findI (fun i=>decide (fAt far i=fAt far a-1)) (nx.getD a.toNat [])).toNat 0
def pthN(nx:List (List Int))(far:List Int):Nat->Int->List Int->List Int
 | 0,_,p=>p
 | n+1,a,p=>pthN nx far n (pthS nx far a) (p++[pthS nx far a])
def farR(m:Mdl)(thr g:List Bool):List Int:=farN m.prev thr g.length (far0 g) (trueIx g)
def shortR(m:Mdl)(thr g:List Bool):List Int:=if fAt (farR m thr g) 0<0 then [] else pthN m.next (farR m thr g) (fAt (farR m thr g) 0).toNat 0 [0]
def f1(g:List Bool)(i:Nat):List Int:=(far0 g).take i++List.replicate (g.length-i) 0
theorem far0_len(g:List Bool):(far0 g).length=g.length:=by simp[far0]
theorem f1_zero(g:List Bool):f1 g 0=List.replicate g.length 0:=by simp[f1]
theorem f1_all(g:List Bool):f1 g g.length=far0 g:=by simp[f1];exact List.take_of_length_le (by rw[far0_len];exact nr _)
theorem f1_len{g:List Bool}{i:Nat}(h:i<=g.length):(f1 g i).length=g.length:=by simp[f1,far0_len];omega
theorem f1_set{g:List Bool}{i:Nat}(h:i<g.length){v:Int}(hv:(if g[i]=true then (0:Int) else -1)=v):(f1 g i).set i v=f1 g (i+1) :=
 take_set (by rw[far0_len];exact h) (by rw[far0_len]) (by simpa[far0] using hv)
structure ShA where
 i:Nat
 sz:Nat
 own:Own
 tok:Nat->Bool
 nt:Nat
def stShA(m:Mdl)(q:Qn)(g:List Bool)(n:Nat)(nb:Nat)(box:Bxs)(a:ShA):AS :=
 ⟨tl [(19,I n),(20,I a.i),(6,.osl a.sz (rI (trueTo g a.i)) a.own),(5,.ptr (nb+5) 0 0),(3,.ptr (nb+3) 0 0),(2,.ptr (nb+2) 0 0)],lb nb box [(17,rowsI (f1 g a.i)),(5,[[.msl (nb+17) 0 n 1]]),(3,[q.row]),(2,[m.row])],a.tok,a.nt⟩
structure ShB where
 far:List Int
 q:List Int
 t:Nat
 tok:Nat->Bool
 nt:Nat
def stShB(m:Mdl)(qn:Qn)(n:Nat)(nb:Nat)(box:Bxs)(a:ShB):AS :=
 ⟨tl [(6,.que a.t 1 (rI a.q)),(5,.ptr (nb+5) 0 0),(3,.ptr (nb+3) 0 0),(2,.ptr (nb+2) 0 0)],lb nb box [(17,rowsI a.far),(5,[[.msl (nb+17) 0 n 1]]),(3,[qn.row]),(2,[m.row])],a.tok,a.nt⟩
structure ShC where
 j:Nat
 far:List Int
 q:List Int
 t:Nat
 tok:Nat->Bool
 nt:Nat
def stShC(m:Mdl)(qn:Qn)(n:Nat)(k:Int)(r:List Int)(nb:Nat)(box:Bxs)(a:ShC):AS :=
 ⟨tl [(8,I k),(51,.d (ints r)),(52,I r.length),(53,I a.j),(6,.que a.t 1 (rI a.q)),(5,.ptr (nb+5) 0 0),(3,.ptr (nb+3) 0 0),(2,.ptr (nb+2) 0 0)],lb nb box [(17,rowsI a.far),(5,[[.msl (nb+17) 0 n 1]]),(3,[qn.row]),(2,[m.row])],a.tok,a.nt⟩
theorem FarI.tail{n:Nat}{nx:List (List Int)}{far:List Int}{k:Int}{q:List Int}(h:FarI n nx (far,k::q)):FarI n nx (far,q):=⟨h.len,fun x hx=>h.q x (by simp only at hx ⊢;exact List.mem_cons_of_mem _ hx),h.lo,h.hi,h.down⟩
theorem shc_c(far:List Int)(n:Nat)(hn:far.length=n)(a k:Int)(ha:inR n a)(hk:inR n k)(hw:IntKind.i64.wrap (fAt far a-1)=fAt far a-1)(k5 k12 k17 nb:Nat)(box:Bxs)(tok:Tks)(nt:Nat)(h5:box k5=some [[.msl k17 0 n 1]])(h12:box k12=some [[I a]])(h17:box k17=some (rowsI far)):
  ACalls prog 165 [I k,.ptr k5 0 0,.ptr k12 0 0] ⟨box,nb,tok,nt⟩ fun v m=>v=B (decide (fAt far k=fAt far a-1))/\m=⟨box,nb,tok,nt⟩:=by
 obtain⟨h1,h2⟩:=hk;obtain⟨h3,h4⟩:=ha;have h6:k.toNat<far.length:=by omega
 have h7:a.toNat<far.length:=by omega
 have hg1:fAt far k=far[k.toNat]:=by simp[fAt,h6]
 have hg2:fAt far a=far[a.toNat]:=by simp[fAt,h7]
 rw[hg2] at hw;rw[hg1,hg2];have hbd:(far[k.toNat]==far[a.toNat]-1)=decide (far[k.toNat]=far[a.toNat]-1):=by rw[Bool.eq_iff_iff];simp
 refine sI func165 ntmps165 fun Hb Ht=>?_
 have hkn5:=key_lt Hb h5;have hkn12:=key_lt Hb h12;have hkn17:=key_lt Hb h17;repeat first|simp|refine sR ?_
 repeat first|simp[lO hkn5,lO hkn12,lO hkn17,h5,h12,h17,h1,h2,h3,h4,h6,h7,hw]|refine sR ?_
 refine sT (sH Hb Ht ?_);simp[hbd]
structure ShD where
 a:Int
 path:List Int
 own:Own
 tok:Nat->Bool
 nt:Nat
def stShD(m:Mdl)(far:List Int)(n:Nat)(nb:Nat)(box:Bxs)(x:ShD):AS :=
 ⟨tl [(12,.ptr (nb+12) 0 0),(11,.osl 1 (rI x.path) x.own),(5,.ptr (nb+5) 0 0),(2,.ptr (nb+2) 0 0)],lb nb box [(12,[[I x.a]]),(17,rowsI far),(5,[[.msl (nb+17) 0 n 1]]),(2,[m.row])],x.tok,x.nt⟩
theorem pth_step{m:Mdl}{n:Nat}(hm:m.Ok n){far q:List Int}(hI:FarI n m.next (far,q)){a:Int}(ha:inR n a)(h0:0<fAt far a):
  ∃k:Nat,∃h1:a.toNat<m.next.length,∃h2:k<m.next[a.toNat].length,findI (fun i=>decide (fAt far i=fAt far a-1)) m.next[a.toNat]=(k:Int)/\pthS m.next far a=m.next[a.toNat][k]/\inR n m.next[a.toNat][k]/\fAt far m.next[a.toNat][k]=fAt far a-1:=by
 obtain⟨e1,e2⟩:=ha;have h1:a.toNat<m.next.length:=by rw[hm.next];omega
 have hg:m.next.getD a.toNat []=m.next[a.toNat]:=by simp[h1]
 obtain⟨j,hj1,hj2,hj3⟩:=hI.down a ⟨e1,e2⟩ h0;rw[hg] at hj1;simp only at hj3;obtain⟨k,hk,hf,hp⟩:=findI_at (fun i:Int=>decide (fAt far i=fAt far a-1)) m.next[a.toNat] ⟨j,hj1,by simpa using hj3⟩;refine⟨k,h1,hk,hf,?_,hm.nextR _ (List.getElem_mem h1) _ (List.getElem_mem hk),by simpa using hp⟩;unfold pthS;rw[hg,hf];simp[hk]
set_option maxRecDepth 100000 in
theorem shortestT_c(m:Mdl)(n:Nat)(hm:m.Ok n)(thr g:List Bool)(ht:thr.length=n)(hg:g.length=n)(e v:Bool)(hcv:∀k,inR n k->∀i∈m.prev.getD k.toNat [],k∈m.next.getD i.toNat []):DC 95 [m.av,(Qn.mk thr (some g) e v).av] (pathA (shortR m thr g)):=by
 intro tok nt box nb;have hle:=hm.le;have hpos:=hm.pos;have hnl:=hm.next;obtain⟨Res,hRes⟩:∃Res,shortR m thr g=Res:=⟨_,rfl⟩
 rw[hRes];unfold shortR at hRes;obtain⟨Far,hFar⟩:∃Far,farR m thr g=Far:=⟨_,rfl⟩
 rw[hFar] at hRes;unfold farR at hFar;refine sI func95 ntmps95 fun Hb Ht=>?_
 repeat first|simp|refine sR ?_
 refine⟨by omega,?_⟩;repeat first|simp|refine sR ?_
 refine sN ?_;refine sL (stShA m ⟨thr,some g,e,v⟩ g n nb box) (fun a=>a.i<=g.length/\TK tok nt a.tok a.nt [a.own]/\((a.sz=1/\∃t,a.own=.tok t)∨trueTo g a.i=[]/\a.own=.full)) (fun a=>g.length-a.i) ⟨0,0,.full,tok,nt⟩ ⟨Nat.zero_le _,(TK.start Ht).full,.inr ⟨by simp[trueTo],rfl⟩⟩ (wM (nr _) rfl (by simp[ToL,lk,trueTo,hnl]) (by simp[BoxL,lk,f1_zero,hnl,hg])) ?_;rintro⟨i,sz,own,tok3,nt3⟩ S ⟨hi,htk,hsz⟩ hS;simp only[stShA] at hS hi htk hsz;subst hS;have hw:=sW (i:=i) (by omega);repeat first|simp|refine sR ?_|refine sC ?_
 refine⟨fun hlt=>?_,fun hge=>?_⟩
 .have hts:=trueTo_succ (g:=g) (i:=i) (by omega);have htl:=trueTo_len g i;have hi1:i<g.length:=by omega
  have hi2:i<(f1 g i).length:=by rw[f1_len hi];exact hi1
  have hi3:i<((f1 g i).set i (-1)).length:=by simpa using hi2
  have hset:=fun v=>f1_set (v:=v) hi1
  cases e1:g[i]
  .rw[e1] at hts hset;simp only[Bool.false_eq_true,↓reduceIte] at hts hset;have hset:=hset _ rfl;try (simp[hlt,hi1,hi2,e1,hset,hw])
   repeat ((first|refine sR ?_|refine sC ?_|refine sX ?_);simp[hlt,hi1,hi2,e1,hset,hw])
   refine sE ?_;exact⟨⟨i+1,sz,own,tok3,nt3⟩,⟨hi1,htk,by simpa[hts] using hsz⟩,by simp only;omega,wM htk.le rfl (by simp[ToL,lk,hts]) (by simp[BoxL,lk])⟩
  .rw[e1] at hts hset;simp only[↓reduceIte] at hts hset;have hset:=hset _ rfl;have hss:((f1 g i).set i (-1)).set i 0=f1 g (i+1):=by rw[List.set_set];exact hset
   try (simp[hlt,hi1,hi2,hi3,e1,hss])
   repeat ((first|refine sR ?_|refine sC ?_|refine sX ?_);simp[hlt,hi1,hi2,hi3,e1,hss])
   refine⟨⟨hsz.imp (fun h=>h.1) (fun h=>⟨h.1,h.2⟩),by omega,htk.live⟩,?_⟩;try (simp[hw])
   repeat ((first|refine sR ?_|refine sC ?_|refine sX ?_);simp[hw])
   refine sE ?_;exact⟨⟨i+1,1,.tok nt3,_,nt3+1⟩,⟨hi1,htk.app,.inl ⟨rfl,_,rfl⟩⟩,by simp only;omega,wM (Nat.le_succ_of_le htk.le) rfl (by simp[ToL,lk,hts]) (by simp[BoxL,lk])⟩
 .refine sX ?_;simp only[AU,↓reduceIte];have:i=g.length:=by omega
  subst this;have hini:farN m.prev thr (farM (far0 g,trueIx g)) (far0 g) (trueIx g)=Far:=by rw[far0_m];exact hFar
  have hI:=far0_i g m.next;have hmM:farM (far0 g,trueIx g)<=n:=by rw[far0_m];omega
  rw[trueTo_all,f1_all] at *;have hlen0:=far0_len g;generalize far0 g=fr0 at *;generalize trueIx g=q0 at *;obtain⟨tq,htkq,htr⟩:∃tq,TK tok nt (upd tok3 nt3 true) (nt3+1) [.tok tq]/\QuTo nt3 1 (.osl sz (rI q0) own) (.que tq 1 (rI q0)):=by
   rcases hsz with ⟨h,t,h2⟩|⟨h1,h2⟩
   .subst h;subst h2;exact⟨t,htk.full.app.tail,.tok⟩
   .subst h1;subst h2;exact⟨nt3,htk.app,.nil⟩
  refine AL.trans (Trans.que (l':=[(21,.bot),(19,.bot),(20,.bot),(6,.que tq 1 (rI q0)),(5,.ptr (nb+5) 0 0),(3,.ptr (nb+3) 0 0),(2,.ptr (nb+2) 0 0)]) (loc':=[(17,rowsI fr0),(5,[[.msl (nb+17) 0 n 1]]),(3,[(Qn.mk thr (some g) e v).row]),(2,[m.row])]) 1 ⟨rfl,.bot,rfl,.bot,rfl,.bot,rfl,htr,rfl,.same,rfl,.same,rfl,.same,trivial⟩ (cvB_refl (fun _=>.same) _)) ?_;generalize upd tok3 nt3 true=tok4 at *;generalize hnt4:nt3+1=nt4 at *;rw[hg] at hI;refine sN ?_;refine sL (stShB m ⟨thr,some g,e,v⟩ n nb box) (fun a=>TK tok nt a.tok a.nt [.tok a.t]/\FarI n m.next (a.far,a.q)/\farM (a.far,a.q)<=n/\farN m.prev thr (farM (a.far,a.q)) a.far a.q=Far) (fun a=>farM (a.far,a.q)) ⟨fr0,q0,tq,tok4,nt4⟩ ⟨htkq,hI,hmM,hini⟩ (wM htkq.le rfl (by simp[ToL,lk,lb_at]) (by simp[BoxL,lk])) ?_;rintro⟨far,q,t,tok5,nt5⟩ S ⟨htk5,hI,hfm,hfn⟩ hS;simp only[stShB] at hS htk5 hI hfm hfn;subst hS;cases q with
  | nil =>
   rw[farN_nil] at hfn;subst hfn;have hl:=hI.len;simp only at hl;have h0:0<far.length:=by omega
   have h0n:(0:Int)<(n:Int):=by omega
   have hg0:fAt far 0=far[0]:=by simp[fAt,h0]
   rw[hg0] at hRes;by_cases c0:far[0]<0
   .have b0:decide (far[0]<0)=true:=by simpa using c0
    rw[if_pos c0] at hRes;subst hRes;try (simp[h0,h0n,hpos,c0,b0])
    repeat ((first|refine sR ?_|refine sC ?_|refine sX ?_);simp[h0,h0n,hpos,c0,b0])
    refine sT (sG Hb Ht htk5.old htk5.le ?_);simp[pathA]
   .have b0:decide (far[0]<0)=false:=by simpa using c0
    rw[if_neg c0] at hRes;try (simp[h0,h0n,hpos,c0,b0])
    repeat ((first|refine sR ?_|refine sC ?_|refine sX ?_);simp[h0,h0n,hpos,c0,b0])
    rw[<-hg0] at hRes;have hhi0:=hI.hi 0 ⟨Int.le_refl _,h0n⟩;simp only at hhi0;refine sN ?_;refine sL (stShD m far n nb box) (fun x=>TK tok nt x.tok x.nt [x.own]/\inR n x.a/\0<=fAt far x.a/\(x.path.length:Int)+fAt far x.a<=n+1/\pthN m.next far (fAt far x.a).toNat x.a x.path=Res/\x.path≠[]) (fun x=>(fAt far x.a).toNat) ⟨0,[0],.full,tok5,nt5⟩ ⟨htk5.tail.full,⟨Int.le_refl _,h0n⟩,by simp only;omega,by simp only[List.length_cons,List.length_nil];omega,hRes,by simp⟩ (wM htk5.le rfl (by simp[ToL,lk,lb_at]) (by simp[BoxL,lk])) ?_;rintro⟨a,path,own,tok6,nt6⟩ S ⟨htk6,har,ha0,hpl6,hpn,hpne⟩ hS;simp only[stShD] at hS htk6 har ha0 hpl6 hpn hpne;subst hS;obtain⟨ha1,ha2⟩:=har;have ha3:a.toNat<far.length:=by omega
    have hga:fAt far a=far[a.toNat]:=by simp[fAt,ha3]
    have hhi:=hI.hi a ⟨ha1,ha2⟩;simp only at hhi;by_cases c6:0<fAt far a
    .obtain⟨k,h1,h2,hf,hes,hkr,hkt⟩:=pth_step hm hI ⟨ha1,ha2⟩ c6;have ha4:a<(m.next.length:Int):=by omega
     have hrR:=hm.nextR _ (List.getElem_mem h1);have hrL:=hm.nextL _ (List.getElem_mem h1);have hwk:IntKind.i64.wrap (fAt far a-1)=fAt far a-1:=wrap_in (by omega) (by omega)
     obtain⟨F,hF⟩:∃F,(fAt far a).toNat=F+1:=⟨(fAt far a).toNat-1,by omega⟩
     rw[hF,pthN,hes] at hpn;have hix:=indexFunc_c m.next[a.toNat] 165 [.ptr (nb+5) 0 0,.ptr (nb+12) 0 0] (fun i=>decide (fAt far i=fAt far a-1)) (by omega) (lb nb box [(12,[[I a]]),(17,rowsI far),(5,[[.msl (nb+17) 0 n 1]]),(2,[m.row])]) (nb+113) tok6 nt6 (by simp[lb_at,lk]) (fun k hk box' nb' he=>shc_c far n hl a k ⟨ha1,ha2⟩ (hrR k hk) hwk (nb+5) (nb+12) (nb+17) nb' box' tok6 nt6 (he _ _ (by simp[lb_at,lk])) (he _ _ (by simp[lb_at,lk])) (he _ _ (by simp[lb_at,lk])));rw[hf] at hix;have c7:0<far[a.toNat]:=by omega
     have b7:decide (0<far[a.toNat])=true:=by simpa using c7
     try (simp[ha1,ha2,ha3,ha4,h1,c7,b7])
     repeat ((first|refine sR ?_|refine sC ?_|refine sX ?_);simp[ha1,ha2,ha3,ha4,h1,c7,b7])
     refine Stop.of_b (hix) ?_;simp;obtain⟨a',ha'⟩:∃a',m.next[a.toNat][k]=a':=⟨_,rfl⟩
     rw[ha'] at hpn hkr hkt;try (simp[ha1,ha2,ha4,h1,h2,ha'])
     repeat ((first|refine sR ?_|refine sC ?_|refine sX ?_);simp[ha1,ha2,ha4,h1,h2,ha'])
     refine⟨⟨by omega,htk6.live⟩,?_⟩;refine sR ?_;simp;refine sN ?_;refine AL.weak (wM (l':=[(111,I a'),(11,.osl 1 (rI (path++[a'])) (.tok nt6)),(5,.ptr (nb+5) 0 0),(2,.ptr (nb+2) 0 0)]) (loc':=[(17,rowsI far),(5,[[.msl (nb+17) 0 n 1]]),(2,[m.row])]) (Nat.le_succ_of_le htk6.le) rfl (by simp[ToL,lk,lb_at]) (by simp[BoxL,lk])) ?_;try (simp)
     repeat ((first|refine sR ?_|refine sC ?_|refine sX ?_);simp)
     refine sE ?_;have hF':(fAt far a').toNat=F:=by omega
     exact⟨⟨a',path++[a'],.tok nt6,_,nt6+1⟩,⟨htk6.app,hkr,by simp only;omega,by simp only[List.length_append,List.length_cons,List.length_nil];omega,by simp only;rw[hF'];exact hpn,by simp⟩,by simp only;omega,wM (Nat.le_succ_of_le htk6.le) rfl (by simp[ToL,lk,lb_at]) (by simp[BoxL,lk])⟩
    .have c7:¬0<far[a.toNat]:=by omega
     have b7:decide (0<far[a.toNat])=false:=by simpa using c7
     have hz:(fAt far a).toNat=0:=by omega
     rw[hz,pthN] at hpn;subst hpn;try (simp[ha1,ha2,ha3,c7,b7])
     repeat ((first|refine sR ?_|refine sC ?_|refine sX ?_);simp[ha1,ha2,ha3,c7,b7])
     have hpa:=pathA_ne hpne;refine sT (sG Hb Ht htk6.old htk6.le ?_);simp[ints,hpa]
  | cons k q =>
   obtain⟨hkr,hk0⟩:=hI.q k (by simp);obtain⟨hk1,hk2⟩:=hkr;simp only at hk0;have hpl:=hm.prev;have hk3:k.toNat<m.prev.length:=by omega
   have hk4:k<(m.prev.length:Int):=by omega
   have hcvk:=hcv k ⟨hk1,hk2⟩;have hrd:m.prev.getD k.toNat []=m.prev[k.toNat]:=by simp[hk3]
   obtain⟨r,hr⟩:∃r,m.prev[k.toNat]=r:=⟨_,rfl⟩
   have hrR:=hm.prevR _ (List.getElem_mem hk3);have hrL:=hm.prevL _ (List.getElem_mem hk3);rw[hrd] at hcvk;rw[hr] at hrR hrL hrd hcvk;have hms:farM (far,k::q)=farM (far,q)+1:=by simp[farM];omega
   rw[hms,farN,hrd] at hfn;have hIt:=hI.tail;have hFi:=farF_i (thr:=thr) (k:=k) ⟨hk1,hk2⟩ r (far,q) hIt hk0 (fun i hi=>⟨hrR i hi,hcvk i hi⟩);obtain⟨F,hF⟩:∃F,r.foldl (farS thr k) (far,q)=F:=⟨_,rfl⟩
   rw[hF] at hfn hFi;have hql:q.length<=n:=by
    have:=hfm
    simp[farM] at this;omega
   try (simp[hk1,hk3,hk4,hr])
   repeat ((first|refine sR ?_|refine sC ?_|refine sX ?_);simp[hk1,hk3,hk4,hr])
   refine sN ?_;refine sL (stShC m ⟨thr,some g,e,v⟩ n k r nb box) (fun a=>a.j<=r.length/\TK tok nt a.tok a.nt [.tok a.t]/\FarI n m.next (a.far,a.q)/\0<=fAt a.far k/\(r.drop a.j).foldl (farS thr k) (a.far,a.q)=F/\farM (a.far,a.q)=farM (far,q)) (fun a=>r.length-a.j) ⟨0,far,q,t,tok5,nt5⟩ ⟨Nat.zero_le _,htk5,hIt,hk0,hF,rfl⟩ (wM htk5.le rfl (by simp[ToL,lk,lb_at]) (by simp[BoxL,lk])) ?_;rintro⟨j,far2,q2,t2,tok6,nt6⟩ S ⟨hj,htk6,hI2,hk02,hF2,hm2⟩ hS;simp only[stShC] at hS hj htk6 hI2 hk02 hF2 hm2;subst hS;have hw2:=sW (i:=j) (by omega);repeat first|simp|refine sR ?_|refine sC ?_
   refine⟨fun hlt=>?_,fun hge=>?_⟩
   .have hxr:=hrR _ (List.getElem_mem hlt);have hxc:=hcvk _ (List.getElem_mem hlt);obtain⟨hx1,hx2⟩:=hxr;rw[List.drop_eq_getElem_cons hlt,List.foldl_cons] at hF2;obtain⟨hs1,hs2,hs3⟩:=farS_i (thr:=thr) hI2 ⟨hk1,hk2⟩ hk02 ⟨hx1,hx2⟩ hxc;have hl2:=hI2.len;simp only at hl2;have hx3:r[j].toNat<far2.length:=by omega
    have hx4:r[j]<(n:Int):=hx2
    have hx5:r[j].toNat<thr.length:=by omega
    have hx6:r[j]<(thr.length:Int):=by omega
    have hk5:k.toNat<far2.length:=by omega
    have hk6:k<(n:Int):=hk2
    have hg1:fAt far2 r[j]=far2[r[j].toNat]:=by simp[fAt,hx3]
    have hg2:thr.getD r[j].toNat false=thr[r[j].toNat]:=by simp[hx5]
    have hg3:fAt far2 k=far2[k.toNat]:=by simp[fAt,hk5]
    have hhi:=hI2.hi k ⟨hk1,hk2⟩;simp only at hhi;have hwk:IntKind.i64.wrap (far2[k.toNat]+1)=far2[k.toNat]+1:=wrap_in (by omega) (by omega)
    unfold farS at hF2 hs1 hs2 hs3;rw[hg1,hg2,hg3] at hF2 hs1 hs2 hs3;repeat first|simp[hlt,hx1,hx3,hx4]|refine sR ?_
    by_cases c1:far2[r[j].toNat]<0
    .have b1:decide (far2[r[j].toNat]<0)=true:=by simpa using c1
     cases e2:thr[r[j].toNat]
     .simp only[c1,e2,Bool.false_eq_true,and_false,↓reduceIte] at hF2 hs1 hs2 hs3;try (simp[c1,b1,hx1,hx3,hx4,hx5,hx6,e2,hw2])
      repeat ((first|refine sR ?_|refine sC ?_|refine sX ?_);simp[c1,b1,hx1,hx3,hx4,hx5,hx6,e2,hw2])
      refine sE ?_;exact⟨⟨j+1,far2,q2,t2,tok6,nt6⟩,⟨hlt,htk6,hI2,hk02,hF2,hm2⟩,by simp only;omega,wM htk6.le rfl (by simp[ToL,lk,lb_at]) (by simp[BoxL,lk])⟩
     .simp only[c1,e2,and_self,↓reduceIte] at hF2 hs1 hs2 hs3;have hq2l:q2.length<=n:=by
       have h1:farM (far2,q2)<=n:=by omega
       simp[farM] at h1;omega
      try (simp[c1,b1,hx1,hx3,hx4,hx5,hx6,e2,hk1,hk5,hk6,hwk,hw2])
      repeat ((first|refine sR ?_|refine sC ?_|refine sX ?_);simp[c1,b1,hx1,hx3,hx4,hx5,hx6,e2,hk1,hk5,hk6,hwk,hw2])
      refine⟨⟨by omega,htk6.live⟩,?_⟩;try (simp[hw2])
      repeat ((first|refine sR ?_|refine sC ?_|refine sX ?_);simp[hw2])
      refine sE ?_;exact⟨⟨j+1,far2.set r[j].toNat (far2[k.toNat]+1),q2++[r[j]],nt6,_,nt6+1⟩,⟨hlt,htk6.app,hs1,hs3,hF2,hs2.trans hm2⟩,by simp only;omega,wM (Nat.le_succ_of_le htk6.le) rfl (by simp[ToL,lk,lb_at]) (by simp[BoxL,lk])⟩
    .have b1:decide (far2[r[j].toNat]<0)=false:=by simpa using c1
     simp only[c1,false_and,↓reduceIte] at hF2 hs1 hs2 hs3;try (simp[c1,b1,hw2])
     repeat ((first|refine sR ?_|refine sC ?_|refine sX ?_);simp[c1,b1,hw2])
     refine sE ?_;exact⟨⟨j+1,far2,q2,t2,tok6,nt6⟩,⟨hlt,htk6,hI2,hk02,hF2,hm2⟩,by simp only;omega,wM htk6.le rfl (by simp[ToL,lk,lb_at]) (by simp[BoxL,lk])⟩
   .refine sX ?_;simp only[AU,↓reduceIte];have:j=r.length:=by omega
    subst this;rw[List.drop_length,List.foldl_nil] at hF2;rw[<-hF2] at hfn hFi;try (simp)
    repeat ((first|refine sR ?_|refine sC ?_|refine sX ?_);simp)
    refine sE ?_;refine⟨⟨far2,q2,t2,tok6,nt6⟩,⟨htk6,hI2,by simp only;omega,by simp only;rw[hm2];exact hfn⟩,by simp only;omega,wM htk6.le rfl (by simp[ToL,lk,lb_at]) (by simp[BoxL,lk])⟩
theorem DCall.subv{P:Program}{f:FuncId}{args:List AV}{tok:Nat->Bool}{nt:Nat}{v v':AV}{tok':Nat->Bool}{nt':Nat}(h:DCall P f args tok nt v tok' nt')(hs:Sub v v'):DCall P f args tok nt v' tok' nt' :=
 fun box nb=>⟨(h box nb).1,fun G w vals hm hr=>((h box nb).2 G w vals hm hr).mono fun e w' ⟨u,av,m',G',h1,⟨h2,h3⟩,h4,h5,h6,h7⟩=>⟨u,v',m',G',h1,⟨rfl,h3⟩,h4,h5,hs _ _ _ (h2 ▸ h6),h7⟩⟩
def pathV:List Int->AV
 | []=>.d (.raw nilV)
 | a::r=>.d (ints (a::r))
theorem pathAV(l:List Int):Sub (pathA l) (pathV l):=by
 cases l with
 | nil=>exact Sub.nilv
 | cons a r=>exact Sub.refl _
def pathQ(m:Mdl)(q:Qn):List Int:=if q.endless=true then endR m q.through else shortR m q.through (q.goal.getD [])
def traceA(m:Mdl)(f:Fo):AV:=match askR m f with
 | none=>.tup [.osl 0 [] .full,B false,I 8]
 | some q=>if pathQ m q=[] then .tup [.osl 0 [] .full,B false,I 10] else .tup [.d (ints (pathQ m q)),B q.verdict,I 0]
theorem askR_ok{m:Mdl}{n:Nat}(hm:m.Ok n){f:Fo}(hf:f.Hok m){q:Qn}(h:askR m f=some q):q.through.length=n/\(q.endless=false->∃g,q.goal=some g/\g.length=n):=by
 obtain⟨ho1,ho2,ho3⟩:=hf.one;have hln:=fun x (hx:x∈f.kids)=>Fo.holds_len hm f.size x (Fo.kid_size hx) (hf.kid hx)
 have hk:∀i,i<f.kids.length->(kidV m f i).length=n:=fun i hi=>by
  have:kidV m f i=f.kids[i].holds m:=by simp[kidV,hi]
  rw[this];exact hln _ (List.getElem_mem hi)
 have hnl:=hm.next;unfold askR at h;split at h
 .rename_i c;cases h;exact⟨by simp[hnl],fun _=>⟨_,rfl,hk 0 (ho2 (by rw[c];decide))⟩⟩
 split at h
 .rename_i c;cases h;exact⟨by simp[hnl],fun _=>⟨_,rfl,by simp only[notR_len];exact hk 0 (ho2 (by rw[c];decide))⟩⟩
 split at h
 .rename_i c;cases h;have h2:2<=f.kids.length:=ho3 (by rw[c];decide) (by rw[c];decide) (by rw[c];decide) (by rw[c];decide) (by rw[c];decide) (by rw[c];decide) (by rw[c];decide) (by rw[c];decide) (by rw[c];decide) (by rw[c];decide)
  exact⟨hk 0 (by omega),fun _=>⟨_,rfl,hk 1 (by omega)⟩⟩
 split at h
 .rename_i c;cases h;exact⟨hk 0 (ho2 (by rw[c];decide)),fun h=>by cases h⟩
 split at h
 .rename_i c;cases h;exact⟨by simp only[notR_len];exact hk 0 (ho2 (by rw[c];decide)),fun h=>by cases h⟩
 .cases h
set_option maxRecDepth 100000 in
theorem trace_c(m:Mdl)(n:Nat)(hm:m.Ok n)(hcv:∀k,inR n k->∀i∈m.prev.getD k.toNat [],k∈m.next.getD i.toNat [])(f:Fo)(hsz:f.size<=1000000)(hf:f.Hok m)(t1 t2 s1 s2 L:D)(tok:Tks)(nt:Nat)(hgv:DCall prog 90 [.agg [.d t1,.d t2],.agg [.d s1,.d s2],f.av,.d L] tok nt (.tup [m.av,I 0]) tok nt):
  DCall prog 39 [.agg [.d t1,.d t2],.agg [.d s1,.d s2],f.av,.d L] tok nt (traceA m f) tok nt:=by
 intro box nb;have hask:=askT_c m n hm f hsz hf;obtain⟨Res,hRes⟩:∃Res,traceA m f=Res:=⟨_,rfl⟩
 rw[hRes];unfold traceA at hRes;refine sI func39 ntmps39 fun Hb Ht=>?_
 repeat first|simp|refine sR ?_
 refine sD (hgv) ?_;simp;cases hq:askR m f with
 | none =>
  rw[hq] at hask hRes;simp only at hRes;subst hRes;try (simp)
  repeat ((first|refine sR ?_|refine sC ?_|refine sX ?_);simp)
  refine sD (hask _ _) ?_;simp[askA];try (simp)
  repeat ((first|refine sR ?_|refine sC ?_|refine sX ?_);simp)
  refine sT (sH Hb Ht ?_);simp
 | some q =>
  rw[hq] at hask hRes;obtain⟨hth,hgo⟩:=askR_ok hm hf hq;simp only at hRes;try (simp)
  repeat ((first|refine sR ?_|refine sC ?_|refine sX ?_);simp)
  refine sD (hask _ _) ?_;simp[askA];cases e:q.endless
  .obtain⟨g,hg1,hg2⟩:=hgo e;obtain⟨thr,go,en,ve⟩:=q;simp only at e hg1 hth;subst e;subst hg1;have hsh:=fun tok nt=>(shortestT_c m n hm thr g hth hg2 false ve hcv tok nt).subv (pathAV _)
   have hp:pathQ m ⟨thr,some g,false,ve⟩=shortR m thr g:=rfl
   rw[hp] at hRes;try (simp)
   repeat ((first|refine sR ?_|refine sC ?_|refine sX ?_);simp)
   refine sD (hsh _ _) ?_;simp;generalize shortR m thr g=path at *;cases path with
   | nil =>
    simp only[↓reduceIte] at hRes;subst hRes;try (simp[pathV])
    repeat ((first|refine sR ?_|refine sC ?_|refine sX ?_);simp[pathV])
    refine sT (sH Hb Ht ?_);simp
   | cons a r =>
    simp only[reduceCtorEq,↓reduceIte] at hRes;subst hRes;try (simp[pathV])
    repeat ((first|refine sR ?_|refine sC ?_|refine sX ?_);simp[pathV])
    refine sT (sH Hb Ht ?_);simp
  .obtain⟨thr,go,en,ve⟩:=q;simp only at e hth;subst e;have hen:=fun tok nt=>(endlessT_c m n hm ⟨thr,go,true,ve⟩ hth tok nt).subv (pathAV _)
   have hp:pathQ m ⟨thr,go,true,ve⟩=endR m thr:=rfl
   rw[hp] at hRes;try (simp)
   repeat ((first|refine sR ?_|refine sC ?_|refine sX ?_);simp)
   refine sD (hen _ _) ?_;simp;generalize endR m thr=path at *;cases path with
   | nil =>
    simp only[↓reduceIte] at hRes;subst hRes;try (simp[pathV])
    repeat ((first|refine sR ?_|refine sC ?_|refine sX ?_);simp[pathV])
    refine sT (sH Hb Ht ?_);simp
   | cons a r =>
    simp only[reduceCtorEq,↓reduceIte] at hRes;subst hRes;try (simp[pathV])
    repeat ((first|refine sR ?_|refine sC ?_|refine sX ?_);simp[pathV])
    refine sT (sH Hb Ht ?_);simp
set_option maxRecDepth 100000 in
theorem holds50_c(m:Mdl)(n:Nat)(hm:m.Ok n)(f:Fo)(hsz:f.size<=1000000)(hf:f.Hok m)(t1 t2 s1 s2 L:D)(tok:Tks)(nt:Nat)(hgv:DCall prog 90 [.agg [.d t1,.d t2],.agg [.d s1,.d s2],f.av,.d L] tok nt (.tup [m.av,I 0]) tok nt):
  DCall prog 35 [.agg [.d t1,.d t2],.agg [.d s1,.d s2],f.av,.d L] tok nt (.tup [.d (bools (f.holds m)),I 0]) tok nt:=by
 intro box nb;have hh:=holdsT_c m n hm (f.size+1) f (Nat.lt_succ_self _) hsz hf;have hl:=Fo.holds_len hm (f.size+1) f (Nat.lt_succ_self _) hf;have hle:=hm.le;have hpos:=hm.pos;generalize f.holds m=R at *;have hne:R≠[]:=fun h=>by rw[h] at hl;simp at hl;omega
 have hcl:=cloneB_c R hne (by omega) tok nt;refine sI func35 ntmps35 fun Hb Ht=>?_
 repeat first|simp|refine sR ?_
 refine sD (hgv) ?_;simp;try (simp)
 repeat ((first|refine sR ?_|refine sC ?_|refine sX ?_);simp)
 refine sD (hh _ _) ?_;simp;refine sD (hcl) ?_;repeat first|simp|refine sR ?_
 have htk0:TK tok nt (upd (upd (upd tok nt true) nt false) (nt+1) true) (nt+2) [.tok (nt+1)]:=(((TK.start Ht).full.app).app:TK _ _ _ _ _)
 generalize (upd (upd (upd tok nt true) nt false) (nt+1) true)=tok1 at *;refine AL.weak (wM (l':=[(9,I 0),(8,.stk (nt+1) 1 (rBo R))]) (loc':=[]) (by omega) rfl (by simp[ToL,lk]) (by simp[BoxL,lk])) ?_;refine AL.stkD (nt+1) htk0.live ?_;simp only[List.map_cons,List.map_nil,AV.sdT,↓reduceIte];have htk1:TK tok nt (upd tok1 (nt+1) false) (nt+2) [.full]:=by
  have:=htk0
  refine(TK.full ⟨fun t ht=>?_,this.lt,this.le,by simp,.nil⟩);have hlt:=Ht t ht;rw[uO _ _ (by omega)];exact this.old t ht
 refine sT (sG Hb Ht htk1.old htk1.le ?_);simp
end Go.AM
