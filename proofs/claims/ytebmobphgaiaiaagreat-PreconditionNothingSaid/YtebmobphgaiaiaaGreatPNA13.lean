/-
 Parts of the proof, as merged from many texts: a machine over data, what the functions compute, plain laws.
-/
import Derived.Test.YtebmobphgaiaiaaGreatPNA12
import Derived.WalkKit
import Derived.ProofKit
import Derived.OpenShut
import Derived.ChangeStays
import Derived.SizedLaws
set_option linter.unusedSimpArgs false
set_option linter.unusedVariables false
namespace Go.AM
open Go Go.Proofs
open Go.Proofs.Tryz
variable {P:Program}
def IdxK(P:Program)(T E:TypeId)(x i:Operand)(d1 d2:Tmp)(K:AS->Prop)(S:AS):Prop:=match S.ev x,S.ev i with
 | .stk t sz es,.d (.raw (.int k q))=>match es[q.toNat]? with
  | some [.raw v]=>0<=q/\S.tok t=true/\K ⟨putT (putT S.tmps (some d1) .bot) (some d2) (.d (.raw v)),S.box,S.tok,S.nt⟩
  | _=>False
 | _,_=>False
theorem pend_no{base:Nat}{o:Oper}{G:Gh}{box:Bxs}(h:isAlloc o.op=false):Pend P base o G box:=by
 unfold Pend;split
 .rename_i h1 _;rw[h1] at h;cases h
 .trivial
theorem Op1.mono{cx:Cx}{o:Oper}{S:AS}{K K':AS->Prop}(hk:∀S,K S->K' S)(h:Op1 P cx o S K):Op1 P cx o S K':=by
 unfold Op1 at h ⊢;split at h
 .exact h.mono fun _ _ q=>hk _ q
 .rcases h with ⟨S1,a,b⟩|⟨t,es,a,b⟩
  .exact .inl ⟨S1,a,hk _ b⟩
  .exact .inr ⟨t,es,a,fun x y=>hk _ (b x y)⟩
theorem AOps.mono{cx:Cx}{ops:Array Oper}{K K':AS->Prop}(hk:∀S,K S->K' S):∀(l:List Oper) (S:AS),AOps P cx ops l S K->AOps P cx ops l S K'
 | [],S,h=>hk S h
 | o::r,S,h=>by
  unfold AOps at h ⊢;split at h
  .exact h.mono fun S1 q=>AOps.mono hk r S1 q
  .split at h
   .exact⟨fun e=>(h.1 e).mono fun S1 q=>AOps.mono hk r S1 q,fun e=>AOps.mono hk r _ (h.2 e)⟩
   .exact h
theorem IdxK.mono{T E:TypeId}{x i:Operand}{d1 d2:Tmp}{K K':AS->Prop}(hk:∀S,K S->K' S){S:AS}(h:IdxK P T E x i d1 d2 K S):IdxK P T E x i d1 d2 K' S:=by
 unfold IdxK at h ⊢;split at h
 .split at h
  .exact⟨h.1,h.2.1,hk _ h.2.2⟩
  .exact h
 .exact h
theorem wpOps_glueG{ops ops':Array Oper}{Q:Exit->Act->World->Prop}{l2:List Nat}:∀(l:List Nat),(∀i∈l,∃o,ops[i]?=some o/\ops'[i]?=some o/\∀tm,Region.wanted o (yielded ops' tm)=Region.wanted o (yielded ops tm))->∀(a:Act) (w:World),
  wpOps P ops' (fun e a w=>match e with|.normal=>wpOps P ops Q l2 a w|e=>Q e a w) l a w->wpOps P ops Q (l++l2) a w
 | [],_,a,w,h=>h
 | i::l,hl,a,w,h=>by
  obtain⟨o,h1,h2,h3⟩:=hl i (by simp);have ih:=wpOps_glueG (Q:=Q) (l2:=l2) l fun j hj=>hl j (by simp[hj])
  rw[List.cons_append];unfold wpOps at h ⊢;rw[h2] at h;rw[h1];simp only at h ⊢;rw[h3] at h;have hlo:LetsOut (fun e a w=>match e with|.normal=>wpOps P ops Q l2 a w|e=>Q e a w)->LetsOut Q:=fun ⟨a,w,h⟩=>⟨a,w,h⟩
  split at h
  .rename_i hw;rw[if_pos hw];rcases h with h|⟨h,k⟩
   .left;unfold Oper.wp at h ⊢;generalize (execOp a.eval o).run P w=r at *;cases r with
    | ok n w' =>
     cases n<;>simp only[Oper.upon] at h ⊢ <;>
      first
       | exact ih _ _ h
       | exact Calls.mono h (fun e w'' he=>by cases e<;>first|exact ih _ _ he|exact hlo he|exact he)
       | exact Rows.mono h (fun _ _ he=>ih _ _ he)
    | halt x w'=>cases x<;>simp only[Oper.upon] at h ⊢<;>first|exact h|exact hlo h
   .exact .inr ⟨h,hlo k⟩
  .rename_i hw;rw[if_neg hw];exact ih _ _ h
def Seg(P:Program)(cx:Cx)(ops:Array Oper)(k:Nat)(K:AS->Prop)(S:AS):Prop:=∀(G0:Gh) (w0:World) (Q:Exit->Act->World->Prop),(∀S a w G,K S->RelS cx.n cx.nb G S a w->LeC cx G0 w0 G w S->Q .normal a w) ->
 ∀G a w,RelS cx.n cx.nb G S a w->LeC cx G0 w0 G w S->wpOps P ops Q (List.range' k (ops.size-k)) a w
def noAl(ops:Array Oper):Bool:=ops.toList.all fun o=>!isAlloc o.op
theorem noAl_spec{ops:Array Oper}(h:noAl ops=true){o:Oper}(ho:o∈ops):isAlloc o.op=false:=by
 have:=List.all_eq_true.1 h o (by simpa using ho)
 simpa using this
theorem regOk_two{n:Nat}{ops:Array Oper}(h:regionOk n ops false=true):allocOk ops=true/\dstOk n ops=true:=by
 simpa[regionOk] using h
def gdOk(ops:Array Oper)(p:Nat):Bool:=(ops.toList.take p).all fun o=>match o.guard with|none=>true|some (j,_)=>decide (j<p)
theorem Seg.pre{cx:Cx}{ops:Array Oper}{k:Nat}{K:AS->Prop}{S:AS}(p:Nat)(hkp:k<=p)(hps:p<=ops.size)(hnb:cx.base+cx.n<=cx.nb)(hok:regionOk cx.n (ops.extract 0 p) false=true)(hna:noAl ops=true)(hg:gdOk ops p=true){ops':Array Oper}{mid:List Oper}(hx:ops.extract 0 p=ops')(hm:ops'.toList.drop k=mid)(h:FOps P cx ops' false mid (Seg P cx ops p K) S):Seg P cx ops k K S:=by
 subst hx hm;intro G0 w0 Q hQ G a w hr hl;have hsplit:List.range' k (ops.size-k)=List.range' k (p-k)++List.range' p (ops.size-p):=by
  rw[show ops.size-k=(p-k)+(ops.size-p) by omega,<-List.range'_append_1,show k+(p-k)=p by omega]
 rw[hsplit];have hlook:∀j,j<p->(ops.extract 0 p)[j]?=ops[j]?:=fun j hj=>by
  rw[Array.getElem?_extract];have:j<min p ops.size:=by omega
  simp[this]
 refine wpOps_glueG (ops':=ops.extract 0 p) (List.range' k (p-k)) (fun j hj=>?_) a w ?_
 .have hj':j<p:=by simp at hj;omega
  have hjs:j<ops.size:=by omega
  refine⟨ops[j],by simp[hjs],by rw[hlook j hj'];simp[hjs],fun tm=>?_⟩;have h5:=List.all_eq_true.1 hg ops[j] (by rw[List.mem_take_iff_getElem];exact⟨j,by simp;omega,by simp⟩);unfold Region.wanted;cases hgu:ops[j].guard with
  | none=>rfl
  | some g =>
   obtain⟨q,want⟩:=g;rw[hgu] at h5;have hq:q<p:=by simpa using h5
   simp only;unfold yielded;rw[hlook q hq]
 have hmem:∀o,o∈(ops.extract 0 p).toList.drop k->o∈ops:=fun o ho=>by
  have:=List.mem_of_mem_drop ho
  rw[Array.toList_extract,List.extract_eq_take_drop] at this;simpa using List.mem_of_mem_take this
 have:=aops_sound (ops:=ops.extract 0 p) (G0:=G0) (w0:=w0) (K:=Seg P cx ops p K) (Q:=fun e a' w'=>match e with|.normal=>wpOps P ops Q (List.range' p (ops.size-p)) a' w'|e=>Q e a' w')
  (dstOk_spec (regOk_two hok).2) hnb (regOk_two hok).1 (fun S1 a1 w1 G1 hK hr1 hl1=>hK G0 w0 Q hQ G1 a1 w1 hr1 hl1) ((ops.extract 0 p).toList.drop k) k S a w G rfl (fun o ho=>pend_no (noAl_spec hna (hmem o ho))) hr hl (fOps_false _ _ h)
 have hlen:((ops.extract 0 p).toList.drop k).length=p-k:=by simp;omega
 rw[hlen] at this;exact this
variable {P:Program}
theorem RelM.conv{R:AV->AV->Prop}{G G':Gh}{w w':World}{base nb nt nt':Nat}{out:Bxs}{loc loc':List (Nat × List (List AV))}{tok tok':Nat->Bool}(hm:RelM G ⟨lb base out loc,nb,tok,nt⟩ w)(hm':RelM G' ⟨lb base out loc,nb,tok',nt'⟩ w')(hbx:G'.bx=G.bx)(hto:∀x y v,R x y->RV G w x v->RV G' w' y v)(hh:∀b,G.kind b=.box->w'.heap[b]?=w.heap[b]?)(hb:CvB R loc loc'):
  RelM G' ⟨lb base out loc',nb,tok',nt'⟩ w':=by
 constructor
 case box =>
  intro k rows b z hk hbk;simp only at hk;by_cases hkb:k<base
  .rw[lO hkb] at hk;exact hm'.box k rows b z (by simp only;rw[lO hkb];exact hk) hbk
  .have hkk:k=base+(k-base):=by omega
   rw[hkk,lb_at] at hk;rcases hb.at (k-base) with ⟨_,h2⟩|⟨r0,r',h1,h2,h3⟩
   .rw[h2] at hk;cases hk
   .rw[h2] at hk;cases hk;obtain⟨g0,cs,e,g2,g3,g4,g5⟩:=hm.box k r0 b z (by simp only;rw[hkk,lb_at];exact h1) (by rw[<-hbx];exact hbk);obtain⟨g1,_⟩:=hm'.box k r0 b z (by simp only;rw[hkk,lb_at];exact h1) hbk;refine⟨g1,cs,e,(hh b g0).trans g2,fun q hq=>?_,⟨h3.flat.1.symm.trans g4.1,fun i h1 h2=>hto _ _ _ (h3.flat.2 i (by rw[h3.flat.1];exact h1) h1) (g4.2 i _ h2)⟩,g5⟩;obtain⟨i,hi,rfl⟩:=List.getElem_of_mem hq;have hi0:i<r0.length:=by rw[h3.1];exact hi
    rw[<-(h3.2 i hi0 hi).1];exact g3 _ (List.getElem_mem _)
 case nobox =>
  intro k hk;refine hm'.nobox k ?_;simp only at hk ⊢;by_cases hkb:k<base
  .rw[lO hkb] at hk ⊢;exact hk
  .have hkk:k=base+(k-base):=by omega
   rw[hkk,lb_at] at hk ⊢;rcases hb.at (k-base) with ⟨h1,_⟩|⟨r0,r',_,h2,_⟩
   .exact h1
   .rw[h2] at hk;cases hk
 case inj=>exact hm'.inj
 case nb =>
  intro k hk;have h0:=hm'.nb k hk;simp only at h0 ⊢;by_cases hkb:k<base
  .rw[lO hkb] at h0 ⊢;exact h0
  .have hkk:k=base+(k-base):=by omega
   rw[hkk,lb_at] at h0 ⊢;rcases hb.at (k-base) with ⟨_,h2⟩|⟨r0,r',h1,_,_⟩
   .exact h2
   .rw[h1] at h0;cases h0
 case nt=>exact hm'.nt
 case toks=>exact hm'.toks
 case tokb=>exact hm'.tokb
 case tinj=>exact hm'.tinj
 case tnt=>exact hm'.tnt
 case glob=>exact hm'.glob
 case fresh=>exact hm'.fresh
def AV.mpF(t:Nat):AV->AV
 | .mp t' es=>if t'=t then .mpd (mpE es) else .mp t' es
 | x=>x
def World.setMap(w:World)(r:Nat)(en:Array MapEntry)(k:Nat):World:={ w with heap:=w.heap.setIfInBounds r (.map en k) }
theorem setMap_same{w:World}{r:Nat}{o:Obj}(h:w.heap[r]?=some o)(en:Array MapEntry)(k:Nat):(World.setMap w r en k).heap[r]?=some (.map en k):=by
 have:=heap_lt h
 simp[World.setMap,this]
theorem setMap_other{w:World}{r b:Nat}(h:b≠r)(en:Array MapEntry)(k:Nat):(World.setMap w r en k).heap[b]?=w.heap[b]?:=by
 simp[World.setMap,Ne.symm h]
theorem setMap_size(w:World)(r:Nat)(en:Array MapEntry)(k:Nat):(World.setMap w r en k).heap.size=w.heap.size:=by simp[World.setMap]
theorem Le.setMap{G:Gh}{w:World}{r:Nat}(hk:G.kind r=.ex)(ht:∀t,G.tk t≠some (some r)){en0:Array MapEntry}{k0:Nat}(hg:w.heap[r]?=some (.map en0 k0))(en:Array MapEntry)(k:Nat):Le G w G (World.setMap w r en k) where
 os:=rfl
 tape:=rfl
 output:=rfl
 size:=by rw[setMap_size];exact nr _
 whole b hb h:=⟨h,setMap_other (fun e=>by subst e;rw[hk] at h;cases h) en k⟩
 part b f0 c0 h:=⟨⟨f0,nr _,h⟩,fun a ha _=>World.cell?_of_block (setMap_other (fun e=>by
  have:G.kind r=.part f0 c0:=by rw[<-e,ha];exact h
  rw[hk] at this;cases this) en k)⟩
 bx _ _ h:=h
 nt:=nr _
 tk t _:=.inr ⟨rfl,fun j hj=>⟨rfl,fun _=>setMap_other (fun e=>by subst e;exact ht t hj) en k⟩⟩
 ty b c0 T f0 hb:=⟨c0,f0,by rw[setMap_other (fun e=>by subst e;rw[hg] at hb;cases hb) en k];exact hb⟩
theorem RelM.setMap{G:Gh}{m:AMem}{w:World}(h:RelM G m w){r:Nat}(hk:G.kind r=.ex)(ht:∀t,G.tk t≠some (some r)){en0:Array MapEntry}{k0:Nat}(hg:w.heap[r]?=some (.map en0 k0))(en:Array MapEntry)(k:Nat):RelM G m (World.setMap w r en k):=by
 have hle:=Le.setMap hk ht hg en k;constructor
 case box =>
  intro q rows b sz hkk hb;obtain⟨h1,cs,e',h2,h3,h4,h5⟩:=h.box q rows b sz hkk hb;exact⟨h1,cs,e',(setMap_other (fun e=>by subst e;rw[hk] at h1;cases h1) en k).trans h2,h3,h4.mono hle,h5⟩
 case nobox=>exact h.nobox
 case inj=>exact h.inj
 case nb=>exact h.nb
 case nt=>exact h.nt
 case toks=>exact h.toks
 case tokb =>
  intro t j hj;obtain⟨f0,cur0,e0,h1,h2⟩:=h.tokb t j hj;exact⟨f0,cur0,e0,h1,(setMap_other (fun e=>by subst e;exact ht t hj) en k).trans h2⟩
 case tinj=>exact h.tinj
 case tnt=>exact h.tnt
 case glob=>exact h.glob.mono hle.cells
 case fresh =>
  intro b hb;exact h.fresh b (by rw[setMap_size] at hb;exact hb)
def mpPut(es:List (ByteArray × List (List D) × Own))(s:ByteArray)(xs:List (List D))(o:Own):List (ByteArray × List (List D) × Own):=match es.findIdx? fun e=>decide (e.1=s) with
 | some i=>es.set i (s,xs,o)
 | none=>es++[(s,xs,o)]
theorem sameBits_str(n:Nat)(s:ByteArray):Instr.sameBits n (.string s) (.string s)=true:=by
 cases n<;>simp[Instr.sameBits,bs_dec]
theorem run_mapUpdate_str{w:World}{T:TypeId}{r:Nat}{en:Array MapEntry}{k:Nat}{c:Addr->Option Value}{ps:Addr->Prop}{es:List (ByteArray × List (List D))}(hT:mapT P T=true)(hb:w.heap[r]?=some (.map en k))(he:EnR c ps es en)(s:ByteArray)(v:Value):
  ∃en' k',(Instr.mapUpdate T (.map (some r)) (.string s) v).run P w=.ok () (World.setMap w r en' k')/\(match es.findIdx? fun e=>decide (e.1=s) with
   | some i=>en'.size=en.size/\(∀j (h:j<en'.size) (h2:j<en.size),j≠i->en'[j].key=en[j].key/\en'[j].val=en[j].val)/\∀h:i<en'.size,en'[i].key=.string s/\en'[i].val=v
   | none=>en'.size=en.size+1/\(∀j (h:j<en'.size) (h2:j<en.size),en'[j].key=en[j].key/\en'[j].val=en[j].val)/\∀h:en.size<en'.size,en'[en.size].key=.string s/\en'[en.size].val=v):=by
 obtain⟨kt,et,h1,h2,h3⟩:=mapT_spec hT;have hf:=findNow_str s en.toList (es.map (·.1)) 0 he.keys;have hc:(Instr.checkKey false 10000 kt (.string s)).run P w=.ok () w:=MapKept.run_checkKey (k:=.string s) h2 (by simp[MapKept.IsKey]) _ 9999
 have hk:=MapKept.run_findKey (w:=w) h2 hf;rw[find_map] at hk;cases hi:es.findIdx? fun e=>decide (e.1=s) with
 | none =>
  rw[hi] at hk;simp only[Option.bind_none] at hk;refine⟨en.push { key:=.string s,val:=v,born:=k },k+1,?_,by simp,fun j h h2=>?_,fun h=>by simp⟩
  .simp[Instr.mapUpdate,run_underlying h1,MapKept.run_getObj_map hb,hc,hk,MapKept.run_setObj_map _ hb,Result.andThen,World.setMap]
  .rw[Array.getElem_push_lt h2];exact⟨rfl,rfl⟩
 | some i =>
  have hlt:i<en.size:=by
   have:=(List.findIdx?_eq_some_iff_getElem.1 hi).1
   rw[he.1] at this;exact this
  have hkey:en[i].key=.string s:=by
   obtain⟨g1,g2,_⟩:=List.findIdx?_eq_some_iff_getElem.1 hi;rw[(he.2 i g1 hlt).1];simp at g2;rw[g2]
  rw[hi] at hk;have hg:en.toList[i]?=some en[i]:=by simp[hlt]
  simp only[Option.bind_some,hg,Option.map_some,Nat.zero_add] at hk;refine⟨en.modify i fun e=>{ e with key:=.string s,val:=v },k,?_,by simp,fun j h h2 hne=>?_,fun h=>?_⟩
  .simp[Instr.mapUpdate,run_underlying h1,MapKept.run_getObj_map hb,hc,hk,hlt,hkey,Instr.keyThatStays,sameBits_str,MapKept.run_setObj_map _ hb,Result.andThen,World.setMap]
  .rw[Array.getElem_modify,if_neg (Ne.symm hne)];exact⟨rfl,rfl⟩
  .rw[Array.getElem_modify,if_pos rfl];exact⟨rfl,rfl⟩
def AV.mpU(t nt:Nat)(es':List (ByteArray × List (List D) × Own)):AV->AV
 | .mp t' es=>if t'=t then .mp nt es' else .mp t' es
 | x=>x
def LastK(P:Program)(cx:Cx)(o:Oper)(S:AS)(K:AS->Prop):Prop:=∀(G0:Gh) (w0:World) (Q:Act->World->Prop) (E:Exit->Act->World->Prop),(∀S a w G,K S->RelS cx.n cx.nb G S a w->LeC cx G0 w0 G w S->Q a w) ->
 ∀G a w,RelS cx.n cx.nb G S a w->LeC cx G0 w0 G w S->o.wp P a w Q E
theorem LastK.put{cx:Cx}{o:Oper}{K:AS->Prop}{l:List (Nat × AV)}{out:Bxs}{loc:List (Nat × List (List AV))}{tok:Nat->Bool}{nt:Nat}{T:TypeId}{m k v:Operand}(t:Nat)(es:List (ByteArray × List (List D) × Own))(s:ByteArray)(xs:List (List D))(own:Own)(ho:o.op=.mapUpdate T m k v)(hd:o.dst=none)(hT:mapT P T=true)(ht:tok t=true)(hmv:AS.ev ⟨tl l,lb cx.base out loc,tok,nt⟩ m=.mp t es)(hkv:AS.ev ⟨tl l,lb cx.base out loc,tok,nt⟩ k=.d (.raw (.string s)))(hvv:AS.ev ⟨tl l,lb cx.base out loc,tok,nt⟩ v=.osl 1 xs own)(h:K ⟨tl (l.map fun q=>(q.1,q.2.mpU t nt (mpPut es s xs own))),lb cx.base out (loc.map fun q=>(q.1,q.2.map fun r=>r.map (AV.mpU t nt (mpPut es s xs own)))),upd (upd tok t false) nt true,nt+1⟩):
  LastK P cx o ⟨tl l,lb cx.base out loc,tok,nt⟩ K:=by
 intro G0 w0 Q E hQ G a w hS hL;have hm:=hS.mem;have hmr:=hS.ev m;have hkr:=hS.ev k;have hvr:=hS.ev v;rw[hmv] at hmr;rw[hkv] at hkr;rw[hvv] at hvr;generalize hmx:a.eval m=mx at hmr;generalize hkx:a.eval k=kx at hkr;generalize hvx:a.eval v=vx at hvr;have hk1:kx=.string s:=by cases hkr with|d h=>cases h;rfl
 subst hk1;cases hmr with
 | mp hmr =>
  obtain⟨htl,hts,r,rfl,hmr⟩:=hmr;obtain⟨_,x,hx⟩:=hm.toks t ht;obtain⟨rfl,hkr2,en,k0,hh,he,how⟩:=hmr x hx;obtain⟨en',k',hrun,hen⟩:=run_mapUpdate_str (P:=P) hT hh he s vx;have hnot:=kill_not hm hx;have hmk:=hm.kill (.tok t);have hlk:=Le.kill (G:=G) (w:=w) (.tok t);have hms:=hmk.setMap hkr2 hnot hh en' k';have hls:=Le.setMap (G:=G.kill (.tok t)) hkr2 hnot hh en' k';have hhe:(World.setMap w r en' k').heap[r]?=some (.map en' k'):=setMap_same hh en' k'
  have hmn:=hms.newtok (some r) (fun g hg=>by cases hg;exact⟨hnot,0, #[],_,.inr hkr2,hhe⟩);have hln:=Le.newtok (G:=G.kill (.tok t)) (w:=World.setMap w r en' k') (some r);have hle:=(hlk.trans hls).trans hln;have hgnt:G.nt=nt:=hm.nt
  have hvd:RVd w.cell? G.ps (.sl 1 xs) vx/\OwnR G 1 xs.length own vx:=by cases hvr with|osl h1 h2=>exact⟨h1,h2⟩
  have hown1:∀t',own=.tok t'->t'<G.nt:=fun t' e=>by subst e;exact hvd.2.1
  have hmp:MpR ((G.kill (.tok t)).newtok (some r)) (World.setMap w r en' k') nt (mpPut es s xs own) (.map (some r)):=by
   refine⟨by simp only[Gh.newtok,Gh.kill];omega,fun e he' t' e1=>?_,r,rfl,fun y hy=>?_⟩
   .have:t'<G.nt:=by
     unfold mpPut at he';split at he'
     .rcases List.mem_or_eq_of_mem_set he' with h5|h5
      .exact hts e h5 t' e1
      .subst h5;exact hown1 t' e1
     .rcases List.mem_append.1 he' with h5|h5
      .exact hts e h5 t' e1
      .simp at h5;subst h5;exact hown1 t' e1
    simp only[Gh.newtok,Gh.kill];omega
   .simp only[Gh.newtok,Gh.kill,hgnt,uS,Option.some.injEq] at hy;subst hy;refine⟨rfl,hkr2,en',k',hhe,?_⟩;have hfi:(mpE es).findIdx? (fun e=>decide (e.1=s))=es.findIdx? fun e=>decide (e.1=s):=by
     rw[mpE,List.findIdx?_map];rfl
    rw[hfi] at hen;have hsz:es.length=en.size:=by have:=he.1;simpa[mpE] using this
    cases hi:es.findIdx? fun e=>decide (e.1=s) with
    | some i =>
     rw[hi] at hen;simp only at hen;obtain⟨e1,e2,e3⟩:=hen;have hp:mpPut es s xs own=es.set i (s,xs,own):=by simp only[mpPut,hi]
     rw[hp];refine⟨⟨by simp[mpE,e1,hsz],fun j h1 h2=>?_⟩,fun j h1 h2=>?_⟩
     .have hj:j<es.length:=by simpa[mpE] using h1
      by_cases hji:j=i
      .subst hji;simp only[mpE,List.getElem_map,List.getElem_set_self];exact⟨(e3 h2).1,by rw[(e3 h2).2];exact hvd.1.mono hle.cells⟩
      .simp only[mpE,List.getElem_map,List.getElem_set_ne (Ne.symm hji)];obtain⟨q1,q2⟩:=e2 j h2 (by omega) hji;have:=he.2 j (by simpa[mpE] using hj) (by omega)
       simp only[mpE,List.getElem_map] at this;rw[q1,q2];exact⟨this.1,this.2.mono hle.cells⟩
     .have hj:j<es.length:=by simpa using h1
      by_cases hji:j=i
      .subst hji;simp only[List.getElem_set_self];rw[(e3 h2).2];exact hvd.2.mono hle
      .simp only[List.getElem_set_ne (Ne.symm hji)];rw[(e2 j h2 (by omega) hji).2];exact(how j hj (by omega)).mono hle
    | none =>
     rw[hi] at hen;simp only at hen;obtain⟨e1,e2,e3⟩:=hen;have hp:mpPut es s xs own=es++[(s,xs,own)]:=by simp only[mpPut,hi]
     rw[hp];have hval:∀j (h1:j<(es++[(s,xs,own)]).length),(es++[(s,xs,own)])[j]=if h:j<es.length then es[j] else (s,xs,own):=fun j h1=>by
      by_cases h:j<es.length
      .rw[dif_pos h,List.getElem_append_left h]
      .rw[dif_neg h];simp at h1;have:j=es.length:=by omega
       subst this;simp
     refine⟨⟨by simp[mpE,e1,hsz],fun j h1 h2=>?_⟩,fun j h1 h2=>?_⟩
     .simp only[mpE,List.getElem_map];rw[hval j (by simpa[mpE] using h1)];by_cases h:j<es.length
      .rw[dif_pos h];obtain⟨q1,q2⟩:=e2 j h2 (by omega);have:=he.2 j (by simpa[mpE] using h) (by omega)
       simp only[mpE,List.getElem_map] at this;rw[q1,q2];exact⟨this.1,this.2.mono hle.cells⟩
      .rw[dif_neg h];have:j=en.size:=by omega
       subst this;exact⟨(e3 h2).1,by rw[(e3 h2).2];exact hvd.1.mono hle.cells⟩
     .rw[hval j h1];by_cases h:j<es.length
      .rw[dif_pos h];rw[(e2 j h2 (by omega)).2];exact(how j h (by omega)).mono hle
      .rw[dif_neg h];have:j=en.size:=by omega
       subst this;rw[(e3 h2).2];exact hvd.2.mono hle
  have hto:∀x y v,y=AV.mpU t nt (mpPut es s xs own) x->RV G w x v->RV ((G.kill (.tok t)).newtok (some r)) (World.setMap w r en' k') y v:=fun x y v h hr=>by
   subst h;cases x with
   | mp t' es0 =>
    simp only[AV.mpU];split
    .rename_i h;subst h;cases hr with
     | mp hr =>
      obtain⟨_,_,r2,rfl,hr⟩:=hr;have:=(hr _ hx).1
      cases this;exact .mp hmp
    .exact hr.mono hle
   | _=>exact hr.mono hle
  have hS':RelS cx.n cx.nb ((G.kill (.tok t)).newtok (some r)) ⟨tl (l.map fun q=>(q.1,q.2.mpU t nt (mpPut es s xs own))),lb cx.base out (loc.map fun q=>(q.1,q.2.map fun r=>r.map (AV.mpU t nt (mpPut es s xs own)))),upd (upd tok t false) nt true,nt+1⟩ a (World.setMap w r en' k') :=
   ⟨hS.defers,hS.size,fun i=>hto _ _ _ (CvL.at (R:=fun x y=>y=AV.mpU t nt (mpPut es s xs own) x) rfl (cvL_map (R:=fun x y=>y=AV.mpU t nt (mpPut es s xs own) x) (fun _=>rfl) l) i) (hS.tmps i),
    hm.conv hmn rfl hto (fun b hb=>setMap_other (fun e=>by subst e;rw[hkr2] at hb;cases hb) en' k') (cvB_map (R:=fun x y=>y=AV.mpU t nt (mpPut es s xs own) x) (fun _=>rfl) loc)⟩
  unfold Oper.wp;have hex:(execOp a.eval o).run P w=.ok .skip (World.setMap w r en' k'):=by
   simp only[execOp,ho,hmx,hkx,hvx,Sem.run_bind,hrun,Result.andThen_ok,Sem.run_pure]
  rw[hex];simp only[Oper.upon,hd,Act.put];exact hQ _ _ _ _ h hS' (hL.step ⟨hle,fun k hkb hg=>⟨hg,by simp only;rw[lO hkb,lO hkb]⟩⟩)
inductive QuTo (t sz:Nat):AV->AV->Prop
 | bot {x}:QuTo t sz x .bot
 | same {x}:QuTo t sz x x
 | nil {n}:QuTo t sz (.osl n [] .full) (.que t sz [])
 | tok {t' s es}:QuTo t sz (.osl s es (.tok t')) (.que t' s es)
theorem QuTo.rv{G:Gh}{w:World}{t sz:Nat}(ht:t<G.nt)(hk:G.tk t=some none){x y:AV}{v:Value}(h:QuTo t sz x y)(hr:RV G w x v):RV G w y v:=by
 cases h with
 | bot=>exact .bot
 | same=>exact hr
 | nil =>
  cases hr with
  | osl _ ho =>
   obtain⟨A,rfl,_⟩:=ho;exact .que (.sl (es:=[]) (fun _ _=>default) (nr _) (Nat.zero_le _) (by simp) (by simp) (fun a _ i j hi _=>by simp at hi) (fun i j hi _=>by simp at hi)) ⟨ht,fun x hx=>.inl ⟨A,rfl⟩⟩
 | tok =>
  cases hr with
  | osl h1 ho =>
   refine .que h1 ⟨ho.1,fun x hx=>?_⟩;have:=ho.2 x hx
   cases x with
   | none=>exact .inl this
   | some g =>
    obtain⟨cap,hv,hk⟩:=this;exact .inr ⟨g,0,cap,rfl,hv,by simpa using hk⟩
theorem Trans.que{cx:Cx}{nt0 nt:Nat}{l l':List (Nat × AV)}{out:Bxs}{loc loc':List (Nat × List (List AV))}{tok:Nat->Bool}(sz:Nat)(hl:CvL (QuTo nt sz) l l')(hb:CvB (QuTo nt sz) loc loc'):
  Trans cx nt0 ⟨tl l,lb cx.base out loc,tok,nt⟩ ⟨tl l',lb cx.base out loc',upd tok nt true,nt+1⟩:=by
 intro G0 w0 G a w he hn0 hS hL;have hm:=hS.mem;have hgnt:G.nt=nt:=hm.nt
 have hle:=Le.newtok (G:=G) (w:=w) none;have hm':=hm.newtok none (fun g h=>by cases h)
 have h1:nt<(G.newtok none).nt:=by simp only[Gh.newtok];omega
 have h2:(G.newtok none).tk nt=some none:=by simp only[Gh.newtok];rw[<-hgnt,uS]
 refine⟨G.newtok none,⟨hS.defers,hS.size,fun i=>(hl.at .bot i).rv h1 h2 ((hS.tmps i).mono hle),hm'.rows (fun x y v h hr=>h.rv h1 h2 hr) hb⟩,?_⟩;refine hL.step ⟨hle,fun k hkb hg=>⟨hg,?_⟩⟩;simp only;rw[lO hkb,lO hkb]
section
variable {t sz:Nat}
@[simp] theorem quTo_bot(x:AV):QuTo t sz x .bot:=.bot
@[simp] theorem quTo_same(x:AV):QuTo t sz x x:=.same
@[simp] theorem quTo_nil(n:Nat):QuTo t sz (.osl n [] .full) (.que t sz []):=.nil
@[simp] theorem quTo_tok(t' s:Nat)(es:List (List D)):QuTo t sz (.osl s es (.tok t')) (.que t' s es):=.tok
end
section
variable {p:Nat->Prop} {fz:Option (Nat × Nat × List (List D))}
@[simp] theorem to_mp(t:Nat)(es:List (ByteArray × List (List D) × Own)):To p (fun _=>True) fz (.mp t es) (.mp t es):=.same (.mp trivial fun _ _ _ _=>trivial)
@[simp] theorem to_mpd{q:Nat->Prop}(es:List (ByteArray × List (List D))):To p q fz (.mpd es) (.mpd es):=.same .mpd
@[simp] theorem okIn_mpd{q:Nat->Prop}{es:List (ByteArray × List (List D))}:OkIn p q (.mpd es):=.mpd
end
attribute [simp] fM AV.mpF AV.mpU
variable {P:Program}
theorem Seg.opn{cx:Cx}{ops:Array Oper}{k nt:Nat}{K:AS->Prop}{l l':List (Nat × AV)}{out:Bxs}{loc loc':List (Nat × List (List AV))}{tok:Nat->Bool}(sz:Nat)(hl:CvL (OpTo nt sz) l l')(hb:CvB (OpTo nt sz) loc loc')(h:Seg P cx ops k K ⟨tl l',lb cx.base out loc',upd tok nt true,nt+1⟩):Seg P cx ops k K ⟨tl l,lb cx.base out loc,tok,nt⟩:=by
 intro G0 w0 Q hQ G a w hS hL;have hm:=hS.mem;have hgnt:G.nt=nt:=hm.nt
 have hle:=Le.newtok (G:=G) (w:=w) none;have hm':=hm.newtok none (fun g h=>by cases h)
 have h1:nt<(G.newtok none).nt:=by simp only[Gh.newtok];omega
 have h2:(G.newtok none).tk nt=some none:=by simp only[Gh.newtok];rw[<-hgnt,uS]
 refine h G0 w0 Q hQ (G.newtok none) a w ⟨hS.defers,hS.size,fun i=>(hl.at .bot i).rv h1 h2 ((hS.tmps i).mono hle),hm'.rows (fun x y v h hr=>h.rv h1 h2 hr) hb⟩ ?_;refine hL.step ⟨hle,fun k hkb hg=>⟨hg,?_⟩⟩;simp only;rw[lO hkb,lO hkb]
inductive Fo where
 | mk (kind:Int) (name:ByteArray) (kids:List Fo)
 deriving Inhabited
def Fo.kind:Fo->Int|.mk k _ _=>k
def Fo.name:Fo->ByteArray|.mk _ s _=>s
def Fo.kids:Fo->List Fo|.mk _ _ c=>c
mutual
def Fo.cells:Fo->List D
 | .mk k s c=>[.raw (.int .i64 k),.raw (.string s),.sl 3 (Fo.rows c)]
def Fo.rows:List Fo->List (List D)
 | []=>[]
 | x::r=>Fo.cells x::Fo.rows r
end
theorem Fo.rows_map:∀l:List Fo,Fo.rows l=l.map Fo.cells
 | []=>by simp[Fo.rows]
 | x::r=>by simp[Fo.rows,Fo.rows_map r]
abbrev fos(l:List Fo):D:=.sl 3 (l.map Fo.cells)
theorem Fo.cells_eq(c:Fo):c.cells=[.raw (.int .i64 c.kind),.raw (.string c.name),fos c.kids]:=by
 cases c;simp[Fo.cells,Fo.rows_map,Fo.kind,Fo.name,Fo.kids]
abbrev Fo.row(c:Fo):List AV:=[I c.kind,Sb c.name,.d (fos c.kids)]
abbrev Fo.av(c:Fo):AV:=.agg c.row
theorem Fo.get{l:List Fo}{i:Nat}(h:i<l.length):(l.map Fo.cells)[i]?=some [.raw (.int .i64 l[i].kind),.raw (.string l[i].name),fos l[i].kids]:=by
 simp[h,Fo.cells_eq l[i]]
mutual
def Fo.size:Fo->Nat
 | .mk _ _ c=>1+Fo.sizeL c
def Fo.sizeL:List Fo->Nat
 | []=>0
 | x::r=>Fo.size x+Fo.sizeL r
end
mutual
def Fo.depth:Fo->Nat
 | .mk _ _ c=>1+Fo.depthL c
def Fo.depthL:List Fo->Nat
 | []=>0
 | x::r=>max (Fo.depth x) (Fo.depthL r)
end
structure Mdl where
 next:List (List Int)
 prev:List (List Int)
 atoms:List (ByteArray × List Bool)
def inR(n:Nat)(k:Int):Prop:=0<=k/\k<n
structure Mdl.Ok (m:Mdl) (n:Nat):Prop where
 pos:0<n
 le:n<=300
 next:m.next.length=n
 prev:m.prev.length=n
 nextR:∀r∈m.next,∀k∈r,inR n k
 prevR:∀r∈m.prev,∀k∈r,inR n k
 nextL:∀r∈m.next,r.length<=n
 prevL:∀r∈m.prev,r.length<=n
 atoms:∀a∈m.atoms,a.2.length=n
def notR(l:List Bool):List Bool:=l.map fun b=>!b
def allR(n:Nat):List Bool:=notR (List.replicate n false)
@[simp] theorem notR_len(l:List Bool):(notR l).length=l.length:=by simp[notR]
@[simp] theorem allR_len(n:Nat):(allR n).length=n:=by simp[allR]
def someR(nx:List (List Int))(l:List Bool):List Bool:=nx.map fun r=>r.any fun k=>l.getD k.toNat false
@[simp] theorem someR_len(nx:List (List Int))(l:List Bool):(someR nx l).length=nx.length:=by simp[someR]
abbrev rBo(xs:List Bool):List (List D):=xs.map fun b=>[D.raw (.bool b)]
abbrev lls(l:List (List Int)):D:=.sl 1 (l.map fun r=>[ints r])
abbrev Mdl.row(m:Mdl):List AV:=[.d (lls m.next),.d (lls m.prev),.mpd (m.atoms.map fun a=>(a.1,rBo a.2))]
abbrev Mdl.av(m:Mdl):AV:=.agg m.row
structure Hs where
 g:Gr
 vals:List (List Int)
abbrev Hs.av(h:Hs):AV:=.agg [.d (ints h.g.nodes),.d (AM.edges h.g.edges),.d (lls h.vals)]
abbrev b2s(l:List (Int × Int)):D:=.sl 2 (l.map fun x=>[u8 x.1,u8 x.2])
def U82(l:List (Int × Int)):Prop:=∀x∈l,(0<=x.1/\x.1<256)/\0<=x.2/\x.2<256
def abcS:ByteArray:=⟨#[65,66,67,68,69,70]⟩
def uvwS:ByteArray:=⟨#[117,118,119,120,121,122]⟩
def efgS:ByteArray:=⟨#[101,102,103,104,105]⟩
def offS:ByteArray:=⟨#[111,102,102]⟩
def onS:ByteArray:=⟨#[111,110]⟩
def mtO(i:Nat)(b:Int):List At:=if b % 4=1 then [⟨uvwS.extract i (i+1), -3,3+(b / 4) % 9,[]⟩] else if b % 4=2 then [⟨uvwS.extract i (i+1),0,1,[offS,onS]⟩] else []
def mtN(i:Nat)(x:Int × Int):NT:=⟨abcS.extract i (i+1),x.1 % (i+1)-1,decide (x.1 / 16 % 4=3),mtO i x.2⟩
def mtNs(ns:List (Int × Int))(i:Nat):List NT:=(List.range i).map fun j=>mtN j (ns.getD j (0,0))
def mtE(n:Nat)(j:Nat)(x:Int × Int):ET:=⟨efgS.extract j (j+1),x.1 % n,x.2 % n,0, -1,0, -1⟩
def mtEs(n:Nat)(es:List (Int × Int))(i:Nat):List ET:=(List.range i).map fun j=>mtE n j (es.getD j (0,0))
def mtn(ns:List (Int × Int)):Nat:=max 1 (min ns.length 6)
def mtT(ns es:List (Int × Int)):Ty:=⟨mtNs ns (mtn ns),mtEs (mtn ns) es (min es.length 5)⟩
def stMa(ns es:List (Int × Int))(nb:Nat)(box:Bxs)(x:Acc):AS :=
 ⟨tl [(6,I x.i),(0,.d (b2s ns)),(1,.d (b2s es)),(5,.ptr (nb+5) 0 0),(4,.ptr (nb+4) 0 0)],lb nb box [(5,[[.osl 4 ((mtNs ns x.i).map NT.cells) x.own,nilS]]),(4,[[nilS,nilS]])],x.tok,x.nt⟩
def stMb(ns es:List (Int × Int))(n:Nat)(ND:List NT)(nb:Nat)(box:Bxs)(x:Acc):AS :=
 ⟨tl [(10,I x.i),(1,.d (b2s es)),(5,.ptr (nb+5) 0 0),(4,.ptr (nb+4) 0 0)],lb nb box [(5,[[.d (nts ND),.osl 7 ((mtEs n es x.i).map ET.cells) x.own]]),(4,[[nilS,nilS]])],x.tok,x.nt⟩
set_option maxRecDepth 100000 in
theorem madeT_c(ns es:List (Int × Int))(h1:U82 ns)(h2:U82 es)(n1:ns.length<=200000000000000)(n2:es.length<=200000000000000):DC 51 [.d (b2s ns),.d (b2s es)] (mtT ns es).av:=by
 intro tok nt box nb;refine sI func51 ntmps51 fun Hb Ht=>?_
 repeat first|simp|refine sR ?_
 refine sN ?_;refine sL (stMa ns es nb box) (fun x=>x.i<=mtn ns/\TK tok nt x.tok x.nt [x.own]) (fun x=>mtn ns-x.i) ⟨0,.full,tok,nt⟩ ⟨Nat.zero_le _,(TK.start Ht).full⟩ (wM (nr _) rfl (by simp[ToL,lk]) (by simp[BoxL,lk,mtNs])) ?_;rintro⟨i,own,tok',nt'⟩ S ⟨hi,htk⟩ hS;simp only[stMa] at hS hi htk;subst hS;have h6:mtn ns<=6:=by unfold mtn;omega
 have hw:=sW (i:=i) (by omega);have hw2:IntKind.i64.wrap (↑i+1)=(i:Int)+1:=by rw[wrap_in (by omega) (by omega)]
 by_cases hc:i<mtn ns
 .have hb0:i=0∨(i≠0/\i<ns.length/\i<6):=by unfold mtn at hc;omega
  have hx:∃x:Int × Int,ns.getD i (0,0)=x:=⟨_,rfl⟩
  obtain⟨x,hx⟩:=hx;have hxr:(0<=x.1/\x.1<256)/\0<=x.2/\x.2<256:=by
   by_cases hl:i<ns.length
   .have:x=ns[i]:=by rw[<-hx];simp[hl]
    rw[this];exact h1 _ (List.getElem_mem hl)
   .have:x=(0,0):=by rw[<-hx];simp[hl]
    rw[this];decide
  have hs:mtNs ns (i+1)=mtNs ns i++[mtN i x]:=by unfold mtNs;rw[List.range_succ,List.map_append,<-hx];rfl
  have hln:(mtNs ns i).length=i:=by simp[mtNs]
  have z1:(⟨#[65,66,67,68,69,70]⟩:ByteArray).size=6:=rfl
  have z2:(⟨#[117,118,119,120,121,122]⟩:ByteArray).size=6:=rfl
  have z3:i+1<=6:=by omega
  have z4:¬(i:Int)+1=0:=by omega
  have z5:0<=(i:Int)+1:=by omega
  have e1:IntKind.i64.wrap x.1=x.1:=wrap_in (by omega) (by omega)
  have e2:x.1.tmod ((i:Int)+1)=x.1 % ((i:Int)+1):=Int.tmod_eq_emod_of_nonneg hxr.1.1
  have e2r:=Int.emod_nonneg x.1 (b:=(i:Int)+1) (by omega);have e2s:=Int.emod_lt_of_pos x.1 (b:=(i:Int)+1) (by omega);have e3:IntKind.i64.wrap (x.1 % ((i:Int)+1)-1)=x.1 % ((i:Int)+1)-1:=wrap_in (by omega) (by omega)
  have e4:x.1.tdiv 16=x.1 / 16:=Int.tdiv_eq_ediv_of_nonneg hxr.1.1
  have e4w:IntKind.u8.wrap (x.1 / 16)=x.1 / 16:=wrapU8 (by omega) (by omega)
  have e5:(x.1 / 16).tmod 4=x.1 / 16 % 4:=Int.tmod_eq_emod_of_nonneg (by omega)
  have f1:x.2.tmod 4=x.2 % 4:=Int.tmod_eq_emod_of_nonneg hxr.2.1
  have f2:x.2.tdiv 4=x.2 / 4:=Int.tdiv_eq_ediv_of_nonneg hxr.2.1
  have f2w:IntKind.u8.wrap (x.2 / 4)=x.2 / 4:=wrapU8 (by omega) (by omega)
  have f3:IntKind.i64.wrap (x.2 / 4)=x.2 / 4:=wrap_in (by omega) (by omega)
  have f4:(x.2 / 4).tmod 9=x.2 / 4 % 9:=Int.tmod_eq_emod_of_nonneg (by omega)
  have f5:IntKind.i64.wrap (3+x.2 / 4 % 9)=3+x.2 / 4 % 9:=wrap_in (by omega) (by omega)
  have key:AL prog ⟨nb,nb+124,124,box⟩ nt=AL prog ⟨nb,nb+124,124,box⟩ nt:=rfl
  rcases (by omega:(i=0/\¬0<ns.length)∨(i=0/\0<ns.length)∨i≠0) with ⟨h0,hl⟩|⟨h0,hl⟩|h0
  case' inl =>
   have hne:ns=[]:=List.length_eq_zero_iff.1 (by omega)
   have hx2:x=(0,0):=by rw[<-hx,hne];rfl
   have b0:((i:Int)==0)=true:=by simp[h0]
   refine sR ?_;simp[b0];refine sC ?_;simp;refine sR ?_;simp;have hlt:¬i<ns.length:=by omega
   refine sR ?_;simp[hlt];refine sC ?_;simp
  case' inr.inl =>
   have hx2:ns[i]'(by omega)=x:=by rw[<-hx];simp[h0,hl]
   have b0:((i:Int)==0)=true:=by simp[h0]
   have hlt:i<ns.length:=by omega
   refine sR ?_;simp[b0];refine sC ?_;simp;refine sR ?_;simp;refine sR ?_;simp[hlt];refine sC ?_;simp;refine sR ?_;simp[hlt,hx2]
  case' inr.inr =>
   have hlt:i<ns.length:=by omega
   have h6i:(i:Int)<6:=by omega
   have hx2:ns[i]=x:=by rw[<-hx];simp[hlt]
   have b0:((i:Int)==0)=false:=by simp;omega
   refine sR ?_;simp[b0,hlt,h6i];refine sC ?_;simp;refine sR ?_;simp;refine sR ?_;simp[hlt];refine sC ?_;simp;refine sR ?_;simp[hlt,hx2]
  all_goals refine AL.weak (wM (l':=[(6,I i),(0,.d (b2s ns)),(1,.d (b2s es)),(7,.ptr (nb+7) 0 0),(5,.ptr (nb+5) 0 0),(4,.ptr (nb+4) 0 0)]) (loc':=[(7,[[.d (u8 x.1),.d (u8 x.2)]]),(5,[[.osl 4 ((mtNs ns i).map NT.cells) own,nilS]]),(4,[[nilS,nilS]])]) htk.le rfl (by simp[ToL,lk]) (by simp[BoxL,lk,hx2])) ?_
  all_goals
   try (simp[hw2,e1,e2,e3,e4,e4w,e5,z1,z2,z3,z4,z5])
   repeat (first|(refine sR ?_;simp[hw2,e1,e2,e3,e4,e4w,e5,z1,z2,z3,z4,z5])|(refine sC ?_;simp[hw2,e1,e2,e3,e4,e4w,e5,z1,z2,z3,z4,z5])|(refine sX ?_;simp only[AU,↓reduceIte]))
   by_cases c1:x.2 % 4=1
   .try (simp[hw2,f1,f2,f2w,f3,f4,f5,c1,z2,z3,z5])
    repeat (first|(refine sR ?_;simp[hw2,f1,f2,f2w,f3,f4,f5,c1,z2,z3,z5])|(refine sC ?_;simp[hw2,f1,f2,f2w,f3,f4,f5,c1,z2,z3,z5])|(refine sX ?_;simp only[AU,↓reduceIte]))
    refine⟨⟨by omega,htk.live⟩,?_⟩;try (simp[hw])
    repeat (first|(refine sR ?_;simp[hw])|(refine sC ?_;simp[hw])|(refine sX ?_;simp only[AU,↓reduceIte]))
    refine sE ?_;refine⟨⟨i+1,_,_,_⟩,⟨hc,htk.app⟩,by simp only;omega,wM htk.app.le rfl (by simp[ToL,lk]) ?_⟩;simp[BoxL,lk,hs,mtN,mtO,c1,NT.cells];refine to_snoc ?_ _;simp[dsub_one,atts,At.cells,strs,abcS,uvwS,beqD]
   by_cases c2:x.2 % 4=2
   .try (simp[hw2,f1,c1,c2,z2,z3,z5])
    repeat (first|(refine sR ?_;simp[hw2,f1,c1,c2,z2,z3,z5])|(refine sC ?_;simp[hw2,f1,c1,c2,z2,z3,z5])|(refine sX ?_;simp only[AU,↓reduceIte]))
    refine⟨by decide,?_⟩;try (simp[hw2,f1,c1,c2,z2,z3,z5])
    repeat (first|(refine sR ?_;simp[hw2,f1,c1,c2,z2,z3,z5])|(refine sC ?_;simp[hw2,f1,c1,c2,z2,z3,z5])|(refine sX ?_;simp only[AU,↓reduceIte]))
    refine⟨⟨by omega,htk.live⟩,?_⟩;try (simp[hw])
    repeat (first|(refine sR ?_;simp[hw])|(refine sC ?_;simp[hw])|(refine sX ?_;simp only[AU,↓reduceIte]))
    refine sE ?_;refine⟨⟨i+1,_,_,_⟩,⟨hc,htk.app⟩,by simp only;omega,wM htk.app.le rfl (by simp[ToL,lk]) ?_⟩;simp[BoxL,lk,hs,mtN,mtO,c1,c2,offS,onS,NT.cells];refine to_snoc ?_ _;simp[dsub_one,atts,At.cells,strs,abcS,uvwS,beqD]
   .try (simp[hw2,f1,c1,c2,z2,z3,z5])
    repeat (first|(refine sR ?_;simp[hw2,f1,c1,c2,z2,z3,z5])|(refine sC ?_;simp[hw2,f1,c1,c2,z2,z3,z5])|(refine sX ?_;simp only[AU,↓reduceIte]))
    refine⟨⟨by omega,htk.live⟩,?_⟩;try (simp[hw])
    repeat (first|(refine sR ?_;simp[hw])|(refine sC ?_;simp[hw])|(refine sX ?_;simp only[AU,↓reduceIte]))
    refine sE ?_;refine⟨⟨i+1,_,_,_⟩,⟨hc,htk.app⟩,by simp only;omega,wM htk.app.le rfl (by simp[ToL,lk]) ?_⟩;simp[BoxL,lk,hs,mtN,mtO,c1,c2,NT.cells];refine to_snoc ?_ _;simp[dsub_one,atts,At.cells,strs,abcS,uvwS,beqD]
 .have:i=mtn ns:=by omega
  subst this;have hn1:1<=mtn ns:=by unfold mtn;omega
  have hb0:(¬mtn ns<ns.length∨¬mtn ns<6)/\((mtn ns:Int)==0)=false:=by
   refine⟨by unfold mtn;omega,by simp;omega⟩
  have hln:(mtNs ns (mtn ns)).length=mtn ns:=by simp[mtNs]
  have hT:mtT ns es=⟨mtNs ns (mtn ns),mtEs (mtn ns) es (min es.length 5)⟩:=rfl
  obtain⟨hb1,hb2⟩:=hb0;rw[hT];generalize mtNs ns (mtn ns)=ND at *;generalize mtn ns=n at *;rcases (by omega:¬n<ns.length∨(n<ns.length/\¬n<6)) with hb3|⟨hb3,hb4⟩
  case' inl =>
   try (simp[hb2,hb3])
   repeat (first|(refine sR ?_;simp[hb2,hb3])|(refine sC ?_;simp[hb2,hb3])|(refine sX ?_;simp only[AU,↓reduceIte]))
  case' inr =>
   have hb5:¬(n:Int)<6:=by omega
   try (simp[hb2,hb3,hb5])
   repeat (first|(refine sR ?_;simp[hb2,hb3,hb5])|(refine sC ?_;simp[hb2,hb3,hb5])|(refine sX ?_;simp only[AU,↓reduceIte]))
  all_goals
   refine sN ?_;refine sL (stMb ns es n ND nb box) (fun x=>x.i<=min es.length 5/\TK tok nt x.tok x.nt [x.own]) (fun x=>min es.length 5-x.i) ⟨0,.full,tok',nt'⟩ ⟨Nat.zero_le _,htk.tail.full⟩ (wM htk.le rfl (by simp[ToL,lk]) (by simp[BoxL,lk,mtEs])) ?_;rintro⟨j,own2,tok2,nt2⟩ S ⟨hj,htk2⟩ hS;simp only[stMb] at hS hj htk2;subst hS;have hwj:=sW (i:=j) (by omega);have hwj2:IntKind.i64.wrap (↑j+1)=(j:Int)+1:=by rw[wrap_in (by omega) (by omega)]
   by_cases hlj:j<min es.length 5
   .have g1:j<es.length:=by omega
    have g2:(j:Int)<5:=by omega
    have hs:mtEs n es (j+1)=mtEs n es j++[mtE n j es[j]]:=by unfold mtEs;rw[List.range_succ,List.map_append];simp[g1]
    have hle:(mtEs n es j).length=j:=by simp[mtEs]
    obtain⟨⟨r1,r2⟩,r3,r4⟩:=h2 _ (List.getElem_mem g1);obtain⟨y,hy⟩:∃y,es[j]=y:=⟨_,rfl⟩
    rw[hy] at hs r1 r2 r3 r4;have z1:(⟨#[101,102,103,104,105]⟩:ByteArray).size=5:=rfl
    have z3:j+1<=5:=by omega
    have z4:¬(n:Int)=0:=by omega
    have z5:0<=(j:Int)+1:=by omega
    have e1:IntKind.i64.wrap y.1=y.1:=wrap_in (by omega) (by omega)
    have e2:IntKind.i64.wrap y.2=y.2:=wrap_in (by omega) (by omega)
    have e3:y.1.tmod (n:Int)=y.1 % (n:Int):=Int.tmod_eq_emod_of_nonneg r1
    have e4:y.2.tmod (n:Int)=y.2 % (n:Int):=Int.tmod_eq_emod_of_nonneg r3
    have e5:=Int.emod_nonneg y.1 (b:=(n:Int)) (by omega);have e6:=Int.emod_lt_of_pos y.1 (b:=(n:Int)) (by omega);have e7:=Int.emod_nonneg y.2 (b:=(n:Int)) (by omega);have e8:=Int.emod_lt_of_pos y.2 (b:=(n:Int)) (by omega);have e9:IntKind.i64.wrap (y.1 % (n:Int))=y.1 % (n:Int):=wrap_in (by omega) (by omega)
    have e10:IntKind.i64.wrap (y.2 % (n:Int))=y.2 % (n:Int):=wrap_in (by omega) (by omega)
    try (simp[hwj2,g1,g2,hy,e1,e2,e3,e4,e9,e10,z1,z3,z4,z5,hln,hle])
    repeat (first|(refine sR ?_;simp[hwj2,g1,g2,hy,e1,e2,e3,e4,e9,e10,z1,z3,z4,z5,hln,hle])|(refine sC ?_;simp[hwj2,g1,g2,hy,e1,e2,e3,e4,e9,e10,z1,z3,z4,z5,hln,hle])|(refine sX ?_;simp only[AU,↓reduceIte]))
    refine⟨by omega,⟨by omega,htk2.live⟩,?_⟩;try (simp[hwj])
    repeat (first|(refine sR ?_;simp[hwj])|(refine sC ?_;simp[hwj])|(refine sX ?_;simp only[AU,↓reduceIte]))
    refine sE ?_;refine⟨⟨j+1,_,_,_⟩,⟨hlj,htk2.app⟩,by simp only;omega,wM htk2.app.le rfl (by simp[ToL,lk]) ?_⟩;simp[BoxL,lk,hs,mtE,ET.cells];refine to_snoc ?_ _;simp[dsub_one,efgS]
   .have:j=min es.length 5:=by omega
    subst this;rcases (by omega:¬min es.length 5<es.length∨(min es.length 5<es.length/\¬((min es.length 5:Nat):Int)<5)) with g1|⟨g1,g2⟩
    case' inl =>
     generalize mtEs n es (min es.length 5)=ED at *;generalize min es.length 5=M at *;try (simp[g1])
     repeat (first|(refine sR ?_;simp[g1])|(refine sC ?_;simp[g1])|(refine sX ?_;simp only[AU,↓reduceIte]))
    case' inr =>
     generalize mtEs n es (min es.length 5)=ED at *;generalize min es.length 5=M at *;try (simp[g1,g2])
     repeat (first|(refine sR ?_;simp[g1,g2])|(refine sC ?_;simp[g1,g2])|(refine sX ?_;simp only[AU,↓reduceIte]))
    all_goals
     refine sT (sG Hb Ht htk2.old htk2.le ?_);simp
abbrev b3s(l:List (Int × Int × Int)):D:=.sl 3 (l.map fun x=>[u8 x.1,u8 x.2.1,u8 x.2.2])
def U83(l:List (Int × Int × Int)):Prop:=∀x∈l,(0<=x.1/\x.1<256)/\(0<=x.2.1/\x.2.1<256)/\0<=x.2.2/\x.2.2<256
def lfN(t:Ty)(n:Nat):List Int:=((List.range n).filter fun (i:Nat)=>leafB t (i:Int)).map fun (i:Nat)=>(i:Int)
def lfs(t:Ty):List Int:=lfN t t.nodes.length
theorem lfN_succ(t:Ty)(n:Nat):lfN t (n+1)=lfN t n++(if leafB t (n:Int)=true then [(n:Int)] else []):=by
 unfold lfN;rw[List.range_succ,List.filter_append,List.map_append];by_cases h:leafB t (n:Int)=true<;>simp[h]
theorem lfN_len(t:Ty)(n:Nat):(lfN t n).length<=n:=by
 unfold lfN;rw[List.length_map];have:=List.length_filter_le (fun i:Nat=>leafB t (i:Int)) (List.range n)
 rwa [List.length_range] at this
def lgN(L ns:List Int)(j:Nat):List Int:=(ns.take j).map fun n=>L.getD (n.toNat % L.length) 0
theorem lgN_succ{L ns:List Int}{j:Nat}(h:j<ns.length):lgN L ns (j+1)=lgN L ns j++[L.getD (ns[j].toNat % L.length) 0]:=by
 unfold lgN;rw[List.take_succ_eq_append_getElem h,List.map_append];rfl
theorem lgN_len(L ns:List Int)(j:Nat):(lgN L ns j).length<=j:=by unfold lgN;rw[List.length_map,List.length_take];omega
def lgX(te:Nat)(N:List Int)(e:Int × Int × Int):E:=⟨e.1 % te,e.2.1 % N.length,e.2.2 % N.length⟩
def lgOk(t:Ty)(N:List Int)(x:E):Bool:=fitB t x.ty (N.getD x.fr.toNat 0) (N.getD x.to.toNat 0)
def lgE(t:Ty)(N:List Int)(es:List (Int × Int × Int))(j:Nat):List E:=((es.take j).map (lgX t.edges.length N)).filter (lgOk t N)
theorem lgE_succ{t:Ty}{N:List Int}{es:List (Int × Int × Int)}{j:Nat}(h:j<es.length):lgE t N es (j+1)=lgE t N es j++(if lgOk t N (lgX t.edges.length N es[j])=true then [lgX t.edges.length N es[j]] else []):=by
 unfold lgE;rw[List.take_succ_eq_append_getElem h,List.map_append,List.filter_append];by_cases e:lgOk t N (lgX t.edges.length N es[j])=true<;>simp[e]
theorem lgE_len(t:Ty)(N:List Int)(es:List (Int × Int × Int))(j:Nat):(lgE t N es j).length<=j:=by
 unfold lgE;refine Nat.le_trans (List.length_filter_le _ _) ?_;rw[List.length_map,List.length_take];omega
def lgJ(t:Ty)(N:List Int)(es:List (Int × Int × Int)):Nat:=if 0<N.length/\0<t.edges.length then min es.length 8 else 0
def lgR(t:Ty)(ns:List Int)(es:List (Int × Int × Int))(most:Nat):Gr:=⟨lgN (lfs t) ns most,lgE t (lgN (lfs t) ns most) es (lgJ t (lgN (lfs t) ns most) es)⟩
def stLfA(t:Ty)(ns:List Int)(es:List (Int × Int × Int))(most:Nat)(nb:Nat)(box:Bxs)(x:Acc):AS :=
 ⟨tl [(10,I x.i),(9,.osl 1 (rI (lfN t x.i)) x.own),(1,.d (bytes ns)),(2,.d (b3s es)),(3,I most),(4,.ptr (nb+4) 0 0),(8,.ptr (nb+8) 0 0)],lb nb box [(8,[[nilS,nilS]]),(4,[[.d (nts t.nodes),.d (ets t.edges)]])],x.tok,x.nt⟩
def stLfB(t:Ty)(L ns:List Int)(es:List (Int × Int × Int))(most:Nat)(nb:Nat)(box:Bxs)(x:Acc):AS :=
 ⟨tl [(12,I x.i),(11,.ptr (nb+11) 0 0),(9,.d (ints L)),(1,.d (bytes ns)),(2,.d (b3s es)),(3,I most),(4,.ptr (nb+4) 0 0),(8,.ptr (nb+8) 0 0)],lb nb box [(11,[[.osl 1 (rI (lgN L ns x.i)) x.own,nilS]]),(8,[[nilS,nilS]]),(4,[[.d (nts t.nodes),.d (ets t.edges)]])],x.tok,x.nt⟩
def stLfC(t:Ty)(N:List Int)(es:List (Int × Int × Int))(nb:Nat)(box:Bxs)(x:Acc):AS :=
 ⟨tl [(13,I x.i),(11,.ptr (nb+11) 0 0),(2,.d (b3s es)),(4,.ptr (nb+4) 0 0),(8,.ptr (nb+8) 0 0)],lb nb box [(11,[[.d (ints N),.osl 3 (rE (lgE t N es x.i)) x.own]]),(8,[[nilS,nilS]]),(4,[[.d (nts t.nodes),.d (ets t.edges)]])],x.tok,x.nt⟩
set_option maxRecDepth 100000 in
theorem leafG_c(t:Ty)(ht:t.Fit)(hL:0<(lfs t).length)(ns:List Int)(h8:U8s ns)(hns:ns.length<=200000000000000)(es:List (Int × Int × Int))(h83:U83 es)(hes:es.length<=200000000000000)(most:Nat)(hm:most<=1000):DC 52 [t.av,.d (bytes ns),.d (b3s es),I most] (.agg [.d (ints (lgR t ns es most).nodes),.d (AM.edges (lgR t ns es most).edges)]):=by
 intro tok nt box nb;have htn:=ht.n;have hte:=ht.e;have hl:=leafS_c t (by omega);have hf:=fits04_c t ht;refine sI func52 ntmps52 fun Hb Ht=>?_
 repeat first|simp|refine sR ?_
 refine sN ?_;refine sL (stLfA t ns es most nb box) (fun x=>x.i<=t.nodes.length/\TK tok nt x.tok x.nt [x.own]) (fun x=>t.nodes.length-x.i) ⟨0,.full,tok,nt⟩ ⟨Nat.zero_le _,(TK.start Ht).full⟩ (wM (nr _) rfl (by simp[ToL,lk,lfN]) (by simp[BoxL,lk])) ?_;rintro⟨i,own,tok',nt'⟩ S ⟨hi,htk⟩ hS;simp only[stLfA] at hS hi htk;subst hS;have hw:=sW (i:=i) (by omega);by_cases hlt:i<t.nodes.length
 .have hs:=lfN_succ t i;have hln:=lfN_len t i;try (simp[hlt])
  repeat (first|(refine sR ?_;simp[hlt])|(refine sC ?_;simp[hlt])|(refine sX ?_;simp only[AU,↓reduceIte]))
  refine sD (hl i _ _) ?_;simp;cases e1:leafB t i
  .simp only[e1,Bool.false_eq_true,if_false,List.append_nil] at hs;try (simp[hw])
   repeat (first|(refine sR ?_;simp[hw])|(refine sC ?_;simp[hw])|(refine sX ?_;simp only[AU,↓reduceIte]))
   refine sE ?_;exact⟨⟨i+1,_,_,_⟩,⟨hlt,htk⟩,by simp only;omega,wM htk.le rfl (by simp[ToL,lk,hs]) (by simp[BoxL,lk])⟩
  .simp only[e1,if_true] at hs;try (simp[hw])
   repeat (first|(refine sR ?_;simp[hw])|(refine sC ?_;simp[hw])|(refine sX ?_;simp only[AU,↓reduceIte]))
   refine⟨⟨by omega,htk.live⟩,?_⟩;try (simp[hw])
   repeat (first|(refine sR ?_;simp[hw])|(refine sC ?_;simp[hw])|(refine sX ?_;simp only[AU,↓reduceIte]))
   refine sE ?_;exact⟨⟨i+1,_,_,_⟩,⟨hlt,htk.app⟩,by simp only;omega,wM htk.app.le rfl (by simp[ToL,lk,hs]) (by simp[BoxL,lk])⟩
 .have:i=t.nodes.length:=by omega
  subst this;have hLd:lfN t t.nodes.length=lfs t:=rfl
  have hLn:=lfN_len t t.nodes.length;rw[hLd] at hLn ⊢;obtain⟨R,hR⟩:∃R,lgR t ns es most=R:=⟨_,rfl⟩
  rw[hR];unfold lgR at hR;generalize lfs t=L at *;try (simp)
  repeat (first|(refine sR ?_;simp)|(refine sC ?_;simp)|(refine sX ?_;simp only[AU,↓reduceIte]))
  refine sN ?_;refine sL (stLfB t L ns es most nb box) (fun x=>x.i<=min ns.length most/\TK tok nt x.tok x.nt [x.own]) (fun x=>min ns.length most-x.i) ⟨0,.full,tok',nt'⟩ ⟨Nat.zero_le _,htk.tail.full⟩ (wM htk.le rfl (by simp[ToL,lk]) (by simp[BoxL,lk,lgN])) ?_;rintro⟨j,own2,tok2,nt2⟩ S ⟨hj,htk2⟩ hS;simp only[stLfB] at hS hj htk2;subst hS;have hwj:=sW (i:=j) (by omega);by_cases hlj:j<min ns.length most
  .have g1:j<ns.length:=by omega
   have g2:j<most:=by omega
   have hs:=lgN_succ (L:=L) g1;have hln:=lgN_len L ns j;obtain⟨n,hn⟩:∃n,ns[j]=n:=⟨_,rfl⟩
   have hnr:=h8 _ (List.getElem_mem g1);rw[hn] at hs hnr;have e1:IntKind.i64.wrap n=n:=wrap_in (by omega) (by omega)
   have e2:n.tmod (L.length:Int)=n % (L.length:Int):=Int.tmod_eq_emod_of_nonneg hnr.1
   have e3:n % (L.length:Int)=((n.toNat % L.length:Nat):Int):=by rw[Int.natCast_emod,Int.toNat_of_nonneg hnr.1]
   have e4:n.toNat % L.length<L.length:=Nat.mod_lt _ hL
   have e5:L.getD (n.toNat % L.length) 0=L[n.toNat % L.length]:=by simp[e4]
   rw[e5] at hs;have e6:IntKind.i64.wrap ((n.toNat % L.length:Nat):Int)=((n.toNat % L.length:Nat):Int):=wrap_in (by omega) (by omega)
   generalize n.toNat % L.length=q at *;try (simp[g1,g2,hn,e1,e2,e3,e6,e4])
   repeat (first|(refine sR ?_;simp[g1,g2,hn,e1,e2,e3,e6,e4])|(refine sC ?_;simp[g1,g2,hn,e1,e2,e3,e6,e4])|(refine sX ?_;simp only[AU,↓reduceIte]))
   refine⟨fun h=>by rw[h] at hL;simp at hL,⟨by omega,htk2.live⟩,?_⟩;try (simp[hwj])
   repeat (first|(refine sR ?_;simp[hwj])|(refine sC ?_;simp[hwj])|(refine sX ?_;simp only[AU,↓reduceIte]))
   refine sE ?_;exact⟨⟨j+1,_,_,_⟩,⟨hlj,htk2.app⟩,by simp only;omega,wM htk2.app.le rfl (by simp[ToL,lk]) (by simp[BoxL,lk,hs])⟩
  .have hjm:j=min ns.length most:=by omega
   have hN:lgN L ns j=lgN L ns most:=by
    rw[hjm];unfold lgN;rcases (by omega:ns.length<=most∨most<=ns.length) with h|h
    .rw[Nat.min_eq_left h,List.take_length,List.take_of_length_le h]
    .rw[Nat.min_eq_right h]
   have hNl:=lgN_len L ns j;rw[hN] at hNl ⊢;obtain⟨g1,g2⟩:(¬j<ns.length∨(j<ns.length/\¬j<most))/\j<=1000:=by omega
   generalize lgN L ns most=N at *;have hNl2:N.length<=1000:=by omega
   rcases g1 with g1|⟨g1,g3⟩
   case' inl =>
    try (simp[g1])
    repeat (first|(refine sR ?_;simp[g1])|(refine sC ?_;simp[g1])|(refine sX ?_;simp only[AU,↓reduceIte]))
   case' inr =>
    try (simp[g1,g3])
    repeat (first|(refine sR ?_;simp[g1,g3])|(refine sC ?_;simp[g1,g3])|(refine sX ?_;simp only[AU,↓reduceIte]))
   all_goals
    refine sN ?_;refine sL (stLfC t N es nb box) (fun x=>x.i<=lgJ t N es/\TK tok nt x.tok x.nt [x.own]) (fun x=>lgJ t N es-x.i) ⟨0,.full,tok2,nt2⟩ ⟨Nat.zero_le _,htk2.tail.full⟩ (wM htk2.le rfl (by simp[ToL,lk]) (by simp[BoxL,lk,lgE])) ?_;rintro⟨k,own3,tok3,nt3⟩ S ⟨hk,htk3⟩ hS;simp only[stLfC] at hS hk htk3;subst hS;have hJ:lgJ t N es<=8:=by unfold lgJ;split<;>omega
    have hwk:=sW (i:=k) (by omega);by_cases hlk:k<lgJ t N es
    .have hJ2:lgJ t N es=min es.length 8/\0<N.length/\0<t.edges.length:=by
      unfold lgJ at hlk ⊢;split at hlk
      .rename_i h;rw[if_pos h];exact⟨rfl,h⟩
      .omega
     obtain⟨hJ3,n0,t0⟩:=hJ2;have g4:k<es.length:=by omega
     have g5:(k:Int)<8:=by omega
     have hs:=lgE_succ (t:=t) (N:=N) g4;have hle:=lgE_len t N es k;obtain⟨x,hx⟩:∃x,es[k]=x:=⟨_,rfl⟩
     obtain⟨⟨r1,r2⟩,⟨r3,r4⟩,r5,r6⟩:=h83 _ (List.getElem_mem g4);rw[hx] at hs r1 r2 r3 r4 r5 r6;have e1:IntKind.i64.wrap x.1=x.1:=wrap_in (by omega) (by omega)
     have e2:IntKind.i64.wrap x.2.1=x.2.1:=wrap_in (by omega) (by omega)
     have e3:IntKind.i64.wrap x.2.2=x.2.2:=wrap_in (by omega) (by omega)
     have m1:x.1.tmod (t.edges.length:Int)=x.1 % (t.edges.length:Int):=Int.tmod_eq_emod_of_nonneg r1
     have m2:x.2.1.tmod (N.length:Int)=x.2.1 % (N.length:Int):=Int.tmod_eq_emod_of_nonneg r3
     have m3:x.2.2.tmod (N.length:Int)=x.2.2 % (N.length:Int):=Int.tmod_eq_emod_of_nonneg r5
     have q1:=Int.emod_nonneg x.1 (b:=(t.edges.length:Int)) (by omega);have q2:=Int.emod_lt_of_pos x.1 (b:=(t.edges.length:Int)) (by omega);have q3:=Int.emod_nonneg x.2.1 (b:=(N.length:Int)) (by omega);have q4:=Int.emod_lt_of_pos x.2.1 (b:=(N.length:Int)) (by omega);have q5:=Int.emod_nonneg x.2.2 (b:=(N.length:Int)) (by omega);have q6:=Int.emod_lt_of_pos x.2.2 (b:=(N.length:Int)) (by omega);obtain⟨y,hy⟩:∃y,lgX t.edges.length N x=y:=⟨_,rfl⟩
     have y1:x.1 % (t.edges.length:Int)=y.ty:=by rw[<-hy];rfl
     have y2:x.2.1 % (N.length:Int)=y.fr:=by rw[<-hy];rfl
     have y3:x.2.2 % (N.length:Int)=y.to:=by rw[<-hy];rfl
     rw[y1] at q1 q2 m1;rw[y2] at q3 q4 m2;rw[y3] at q5 q6 m3;rw[hy] at hs;have w1:IntKind.i64.wrap y.ty=y.ty:=wrap_in (by omega) (by omega)
     have w2:IntKind.i64.wrap y.fr=y.fr:=wrap_in (by omega) (by omega)
     have w3:IntKind.i64.wrap y.to=y.to:=wrap_in (by omega) (by omega)
     have ne1:N≠[]:=fun h=>by rw[h] at n0;simp at n0
     have ne2:t.edges≠[]:=fun h=>by rw[h] at t0;simp at t0
     have u1:y.fr.toNat<N.length:=by omega
     have u2:y.to.toNat<N.length:=by omega
     have hok:lgOk t N y=fitB t y.ty N[y.fr.toNat] N[y.to.toNat]:=by unfold lgOk;simp[u1,u2]
     have hf:=hf y.ty N[y.fr.toNat] N[y.to.toNat];rw[hok] at hs;try (simp[g4,g5,n0,t0,hx,e1,e2,e3,m1,m2,m3,w1,w2,w3,ne1,ne2,u1,u2,q3,q4,q5,q6])
     repeat (first|(refine sR ?_;simp[g4,g5,n0,t0,hx,e1,e2,e3,m1,m2,m3,w1,w2,w3,ne1,ne2,u1,u2,q3,q4,q5,q6])|(refine sC ?_;simp[g4,g5,n0,t0,hx,e1,e2,e3,m1,m2,m3,w1,w2,w3,ne1,ne2,u1,u2,q3,q4,q5,q6])|(refine sX ?_;simp only[AU,↓reduceIte]))
     refine sD (hf _ _) ?_;simp;cases ef:fitB t y.ty N[y.fr.toNat] N[y.to.toNat]
     .simp only[ef,Bool.false_eq_true,if_false,List.append_nil] at hs;try (simp[hwk])
      repeat (first|(refine sR ?_;simp[hwk])|(refine sC ?_;simp[hwk])|(refine sX ?_;simp only[AU,↓reduceIte]))
      refine sE ?_;exact⟨⟨k+1,_,_,_⟩,⟨hlk,htk3⟩,by simp only;omega,wM htk3.le rfl (by simp[ToL,lk]) (by simp[BoxL,lk,hs])⟩
     .simp only[ef,if_true] at hs;try (simp[hwk])
      repeat (first|(refine sR ?_;simp[hwk])|(refine sC ?_;simp[hwk])|(refine sX ?_;simp only[AU,↓reduceIte]))
      refine⟨⟨by omega,htk3.live⟩,?_⟩;try (simp[hwk])
      repeat (first|(refine sR ?_;simp[hwk])|(refine sC ?_;simp[hwk])|(refine sX ?_;simp only[AU,↓reduceIte]))
      refine sE ?_;exact⟨⟨k+1,_,_,_⟩,⟨hlk,htk3.app⟩,by simp only;omega,wM htk3.app.le rfl (by simp[ToL,lk]) (by simp[BoxL,lk,hs])⟩
    .have hkm:k=lgJ t N es:=by omega
     have hR2:R=⟨N,lgE t N es k⟩:=by rw[hkm,<-hR]
     have hcs:¬k<es.length∨(k<es.length/\¬(k:Int)<8)∨(k<es.length/\(k:Int)<8/\¬0<N.length)∨(k<es.length/\(k:Int)<8/\0<N.length/\¬0<t.edges.length):=by
      unfold lgJ at hkm;split at hkm<;>omega
     rw[hR2];generalize lgE t N es k=ED at *;rcases hcs with h1|⟨h1,h2⟩|⟨h1,h2,h3⟩|⟨h1,h2,h3,h4⟩
     case' inl =>
      try (simp[h1])
      repeat (first|(refine sR ?_;simp[h1])|(refine sC ?_;simp[h1])|(refine sX ?_;simp only[AU,↓reduceIte]))
     case' inr.inl =>
      try (simp[h1,h2])
      repeat (first|(refine sR ?_;simp[h1,h2])|(refine sC ?_;simp[h1,h2])|(refine sX ?_;simp only[AU,↓reduceIte]))
     case' inr.inr.inl =>
      have h5:N=[]:=List.length_eq_zero_iff.1 (by omega)
      subst h5;try (simp[h1,h2])
      repeat (first|(refine sR ?_;simp[h1,h2])|(refine sC ?_;simp[h1,h2])|(refine sX ?_;simp only[AU,↓reduceIte]))
     case' inr.inr.inr =>
      have h5:t.edges=[]:=List.length_eq_zero_iff.1 (by omega)
      have h6:¬N=[]:=fun h=>by rw[h] at h3;simp at h3
      try (simp[h1,h2,h3,h5,h6])
      repeat (first|(refine sR ?_;simp[h1,h2,h3,h5,h6])|(refine sC ?_;simp[h1,h2,h3,h5,h6])|(refine sX ?_;simp only[AU,↓reduceIte]))
     all_goals
      refine sT (sG Hb Ht htk3.old htk3.le ?_);simp
structure Lg (t:Ty) (g:Gr):Prop where
 ty:tyE t=0
 n:g.nodes.length<=6
 e:g.edges.length<=8
 lf:∀x∈g.nodes,(0<=x/\x<t.nodes.length)/\leafB t x=true
 fr:∀e∈g.edges,(0<=e.fr/\e.fr<g.nodes.length)/\(0<=e.to/\e.to<g.nodes.length)/\fitB t e.ty (g.nodes.getD e.fr.toNat 0) (g.nodes.getD e.to.toNat 0)=true
theorem fit_iff{t:Ty}(h0:tyE t=0){e a b:Int}:fitB t e a b=true↔(0<=a/\a<t.nodes.length)/\(0<=b/\b<t.nodes.length)/\(0<=e/\e<t.edges.length)/\isB t a (t.ed e.toNat).fr=true/\isB t b (t.ed e.toNat).to=true:=by
 unfold fitB;constructor
 .intro h;split at h
  .rename_i h1;have hg:=(givE_in h1).2;split at h
   .split at h
    .split at h
     .exact⟨hg a (by simp),hg b (by simp),⟨by assumption,by assumption⟩,by assumption,h⟩
     .cases h
    .cases h
   .cases h
  .cases h
 .rintro⟨h1,h2,h3,h4,h5⟩;have:givE t [a,b]=0:=by simp[givE,h0,anyB,insB,h1,h2]
  rw[if_pos this,if_pos h3.1,if_pos h3.2,if_pos h4,h5]
theorem tyE_len{t:Ty}(h0:tyE t=0):0<t.nodes.length/\t.nodes.length<=12/\t.edges.length<=20:=by
 unfold tyE at h0;split at h0
 .cases h0
 .split at h0
  .cases h0
  .split at h0
   .cases h0
   .omega
theorem Lg.valid{t:Ty}{g:Gr}(h:Lg t g):vG g=0:=by
 have hl:=tyE_len h.ty;have hn:=h.n;have he:=h.e;unfold vG;rw[if_neg (by omega),if_neg,if_neg]
 .simp only[anyB,List.any_eq_true,not_exists,not_and];intro e hm;obtain⟨h1,h2,h3⟩:=h.fr e hm;have:=(fit_iff h.ty).1 h3
  simp[fitsB,withinB];omega
 .simp only[anyB,List.any_eq_true,not_exists,not_and];intro n hm;have:=h.lf n hm
  simp[withinB];omega
theorem Lg.small{t:Ty}{g:Gr}(h:Lg t g):lrgB g=false:=by
 have hn:=h.n;have he:=h.e;unfold lrgB;rw[if_neg (by omega)];simpa using he
theorem Lg.leaves{t:Ty}{g:Gr}(h:Lg t g):lvsB t g=true:=by
 unfold lvsB;rw[if_pos]
 .unfold allP;rw[List.all_eq_true];intro e he;exact(h.fr e he).2.2
 .unfold allP;rw[List.all_eq_true];intro x hx;have:=h.lf x hx
  unfold lvN;rw[if_neg (by omega),this.2]
def Sd.fa(s:Sd)(e:E):Int:=if s.o=true then e.to else e.fr
theorem nodup_subL{α:Type}[DecidableEq α]:∀{L M:List α},L.Nodup->(∀x∈L,x∈M)->L.length<=M.length
 | [],M,_,_=>Nat.zero_le _
 | x::L,M,hn,hs=>by
  have hx:=hs x (by simp);rw[List.nodup_cons] at hn;have:=nodup_subL (L:=L) (M:=M.erase x) hn.2 fun y hy=>by
   have hne:y≠x:=fun e=>hn.1 (e ▸ hy)
   exact(List.mem_erase_of_ne hne).2 (hs y (by simp[hy]))
  rw[List.length_erase_of_mem hx] at this;have:=List.length_pos_of_mem hx
  simp only[List.length_cons];omega
theorem getD_memI{l:List Int}{i:Nat}(h:i<l.length):l.getD i 0∈l:=by
 rw[List.getD_eq_getElem?_getD,List.getElem?_eq_getElem h,Option.getD_some];exact List.getElem_mem h
theorem mtT_len(ns es:List (Int × Int)):(mtT ns es).nodes.length=mtn ns/\(mtT ns es).edges.length=min es.length 5:=by simp[mtT,mtNs,mtEs]
theorem mtT_nd{ns es:List (Int × Int)}{i:Nat}(h:i<mtn ns):(mtT ns es).nd i=mtN i (ns.getD i (0,0)):=by
 unfold Ty.nd mtT mtNs;simp[h]
theorem abc_ok:∀i,i<6->nameB (abcS.extract i (i+1))=true/\(abcS.extract i (i+1)).size<=1/\∀j,j<i->abcS.extract j (j+1)≠abcS.extract i (i+1):=by decide
theorem efg_ok:∀i,i<5->nameB (efgS.extract i (i+1))=true/\(efgS.extract i (i+1)).size<=1/\∀j,j<i->efgS.extract j (j+1)≠efgS.extract i (i+1):=by decide
theorem firstE_zeroI{f:Nat->Int}:∀{n:Nat},(∀i,i<n->f i=0)->firstE f n=0
 | 0,_=>rfl
 | n+1,h=>by
  rw[firstE,if_pos (firstE_zeroI fun i hi=>h i (by omega)),h n (by omega)]
theorem lfs_mem{t:Ty}{x:Int}:x∈lfs t↔(0<=x/\x<t.nodes.length)/\leafB t x=true:=by
 unfold lfs lfN;rw[List.mem_map];constructor
 .rintro⟨n,hn,rfl⟩;obtain⟨a,b⟩:=List.mem_filter.1 hn;have a:=List.mem_range.1 a;exact⟨by omega,b⟩
 .rintro⟨a,b⟩;have hx:((x.toNat:Nat):Int)=x:=by omega
  exact⟨x.toNat,List.mem_filter.2 ⟨List.mem_range.2 (by omega),by rw[hx];exact b⟩,hx⟩
theorem lfs_pos{t:Ty}(h0:tyE t=0):0<(lfs t).length:=by
 have hl:=tyE_len h0;refine List.length_pos_of_mem (a:=((t.nodes.length-1:Nat):Int)) (lfs_mem.2 ⟨by omega,?_⟩);unfold leafB anyB;rw[Bool.not_eq_true',<-Bool.not_eq_true,List.any_eq_true];rintro⟨x,hx,e⟩;obtain⟨i,hi,rfl⟩:=List.getElem_of_mem hx;have:=tyE_par h0 i hi
 have e:t.nodes[i].par=((t.nodes.length-1:Nat):Int):=by simpa using e
 have h2:(t.nd i).par=t.nodes[i].par:=by unfold Ty.nd;simp[hi]
 omega
theorem uvw_ok:∀i,i<6->nameB (uvwS.extract i (i+1))=true/\(uvwS.extract i (i+1)).size<=1/\∀j,j<i->uvwS.extract j (j+1)≠uvwS.extract i (i+1):=by decide
theorem offon_ok:nmsE [offS,onS]=0:=by decide
theorem mtO_mem{i:Nat}{b:Int}(hb:0<=b/\b<256){a:At}(h:a∈mtO i b):a.name=uvwS.extract i (i+1)/\nmsE a.names=0/\rngA a=true/\a.names.length<=2/\∀x∈a.names,x.size<=3:=by
 unfold mtO at h;split at h
 .rw[List.mem_singleton] at h;subst h;refine⟨rfl,rfl,?_,by simp,by simp⟩;show decide ((-1000000:Int) <= -3/\(-3:Int)<=3+b / 4 % 9/\3+b / 4 % 9<=1000000)=true
  exact decide_eq_true (by omega)
 .split at h
  .rw[List.mem_singleton] at h;subst h;refine⟨rfl,offon_ok,by show decide ((0:Int)=0/\(1:Int)=((2:Nat):Int)-1)=true;decide,by simp,?_⟩;intro x hx;simp only[List.mem_cons,List.not_mem_nil,or_false] at hx;rcases hx with rfl|rfl<;>decide
  .simp at h
theorem mtO_len(i:Nat)(b:Int):(mtO i b).length<=1:=by
 unfold mtO;split
 .simp
 .split<;>simp
theorem mt_in{ns:List (Int × Int)}(h1:U82 ns)(i:Nat):(0<=(ns.getD i (0,0)).1/\(ns.getD i (0,0)).1<256)/\0<=(ns.getD i (0,0)).2/\(ns.getD i (0,0)).2<256:=by
 by_cases h:i<ns.length
 .rw[List.getD_eq_getElem?_getD,List.getElem?_eq_getElem h,Option.getD_some];exact h1 _ (List.getElem_mem h)
 .rw[List.getD_eq_getElem?_getD,List.getElem?_eq_none (by omega)];decide
theorem mt_par{ns es:List (Int × Int)}{i:Nat}(h:i<mtn ns): -1<=((mtT ns es).nd i).par/\((mtT ns es).nd i).par<i:=by
 rw[mtT_nd h];have hp1:=Int.emod_nonneg (ns.getD i (0,0)).1 (b:=(i:Int)+1) (by omega);have hp2:=Int.emod_lt_of_pos (ns.getD i (0,0)).1 (b:=(i:Int)+1) (by omega);show -1<=(ns.getD i (0,0)).1 % ((i:Int)+1)-1/\(ns.getD i (0,0)).1 % ((i:Int)+1)-1<i
 omega
theorem mt_atsL{ns es:List (Int × Int)}(h1:U82 ns):∀(n i:Nat),i<n->i<mtn ns->((atsL (mtT ns es) i).length<=i+1)/\∀a∈atsL (mtT ns es) i,∃j,j<=i/\a∈mtO j (ns.getD j (0,0)).2
 | 0,i,hi,_=>absurd hi (Nat.not_lt_zero _)
 | n+1,i,hi,him=>by
  have hown:((mtT ns es).nd i).own=mtO i (ns.getD i (0,0)).2:=by rw[mtT_nd him];rfl
  have hlen:=mtO_len i (ns.getD i (0,0)).2;have hp:=mt_par (es:=es) him;by_cases h0:0<=((mtT ns es).nd i).par
  .obtain⟨a1,a2⟩:=mt_atsL (es:=es) h1 n ((mtT ns es).nd i).par.toNat (by omega) (by omega);rw[atsL_up h0 (by omega),hown];refine⟨by rw[List.length_append];omega,fun a ha=>?_⟩;rcases List.mem_append.1 ha with ha|ha
   .obtain⟨j,j1,j2⟩:=a2 a ha;exact⟨j,by omega,j2⟩
   .exact⟨i,nr _,ha⟩
  .rw[atsL_top h0,hown];exact⟨by omega,fun a ha=>⟨i,nr _,ha⟩⟩
theorem mt_own{ns es:List (Int × Int)}(h1:U82 ns){i:Nat}(h:i<mtn ns):ownE (atsL (mtT ns es) i) ((mtT ns es).nd i).own.length=0:=by
 have h6:mtn ns<=6:=by unfold mtn;omega
 have hown:((mtT ns es).nd i).own=mtO i (ns.getD i (0,0)).2:=by rw[mtT_nd h];rfl
 have hlen:=mtO_len i (ns.getD i (0,0)).2;have hp:=mt_par (es:=es) h;have hin:=mt_in h1;obtain⟨A,hA,hAm⟩:∃A,atsL (mtT ns es) i=A++mtO i (ns.getD i (0,0)).2/\∀a∈A,∃j,j<i/\a∈mtO j (ns.getD j (0,0)).2:=by
  by_cases h0:0<=((mtT ns es).nd i).par
  .obtain⟨a1,a2⟩:=mt_atsL (es:=es) h1 (i+1) ((mtT ns es).nd i).par.toNat (by omega) (by omega);refine⟨_,by rw[atsL_up h0 (by omega),hown],fun a ha=>?_⟩;obtain⟨j,j1,j2⟩:=a2 a ha;exact⟨j,by omega,j2⟩
  .exact⟨[],by rw[atsL_top h0,hown];rfl,fun a ha=>by simp at ha⟩
 unfold ownE;refine firstE_zeroI fun k hk=>?_
 unfold ownAt;split
 .rfl
 .rename_i hkM;rw[hown] at hkM;rw[hA] at hk hkM ⊢;rw[List.length_append] at hk hkM;have hko:k=A.length:=by omega
  have hpos:0<(mtO i (ns.getD i (0,0)).2).length:=by omega
  obtain⟨a,ha⟩:∃a,mtO i (ns.getD i (0,0)).2=[a]:=List.length_eq_one_iff.1 (by omega)
  have hm:=mtO_mem (hin i).2 (show a∈mtO i (ns.getD i (0,0)).2 by rw[ha];simp);obtain⟨u1,u2,u3⟩:=uvw_ok i (by omega);rw[ha];unfold atAt;have e1:(A++[a]).getD k ⟨eB,0,0,[]⟩=a:=by subst hko;simp
  have e2:(A++[a]).take k=A:=by subst hko;simp
  rw[e1,e2];unfold attE;rw[if_neg (by rw[hm.1];simp[u1]),if_neg,if_neg (by simp[hm.2.1]),if_pos hm.2.2.1];simp only[anyB,List.any_eq_true,not_exists,not_and];intro y hy;obtain⟨j,j1,j2⟩:=hAm y hy;have hy1:=(mtO_mem (hin j).2 j2).1;rw[hm.1,hy1];simpa using u3 j j1
theorem mtT_ed{ns es:List (Int × Int)}{k:Nat}(h:k<min es.length 5):(mtT ns es).ed k=mtE (mtn ns) k (es.getD k (0,0)):=by
 show (mtEs (mtn ns) es (min es.length 5)).getD k default=_
 unfold mtEs;rw[List.getD_eq_getElem?_getD,List.getElem?_map,List.getElem?_range h];rfl
theorem mtT_tyE{ns es:List (Int × Int)}(h1:U82 ns)(h2:U82 es):tyE (mtT ns es)=0:=by
 obtain⟨l1,l2⟩:=mtT_len ns es;have hmt:1<=mtn ns/\mtn ns<=6:=by unfold mtn;omega
 have hN:∀i,i<mtn ns->nodE (mtT ns es) i=0:=by
  intro i hi;obtain⟨a1,a2,a3⟩:=abc_ok i (by omega);have hp:=mt_par (es:=es) hi;have hl:=(mt_atsL (es:=es) h1 (i+1) i (by omega) hi).1;have ho:=mt_own (es:=es) h1 hi;have hnm:((mtT ns es).nd i).name=abcS.extract i (i+1):=by rw[mtT_nd hi];rfl
  have hown:((mtT ns es).nd i).own.length<=1:=by rw[mtT_nd hi];exact mtO_len _ _
  unfold nodE;rw[if_neg (by rw[hnm];simp[a1]),if_neg,if_neg (by omega),if_neg (by omega),if_neg (by omega)]
  .exact ho
  .simp only[anyB,List.any_eq_true,not_exists,not_and];intro y hy;obtain⟨j,hj,e⟩:=List.mem_take_iff_getElem.1 hy;have hj2:j<mtn ns:=by omega
   have:(mtT ns es).nd j=y:=by rw[<-e];unfold Ty.nd;simp[show j<(mtT ns es).nodes.length by omega]
   rw[mtT_nd hj2] at this;rw[<-this,hnm];simpa[mtN] using a3 j (by omega)
 have hE:∀i,i<min es.length 5->edgE (mtT ns es) i=0:=by
  intro i hi;obtain⟨a1,a2,a3⟩:=efg_ok i (by omega);have hil:i<es.length:=by omega
  have hm:=h2 _ (List.getElem_mem hil);have hg:es.getD i (0,0)=es[i]:=by simp[hil]
  have e5:=Int.emod_nonneg es[i].1 (b:=(mtn ns:Int)) (by omega);have e6:=Int.emod_lt_of_pos es[i].1 (b:=(mtn ns:Int)) (by omega);have e7:=Int.emod_nonneg es[i].2 (b:=(mtn ns:Int)) (by omega);have e8:=Int.emod_lt_of_pos es[i].2 (b:=(mtn ns:Int)) (by omega);unfold edgE;rw[mtT_ed hi,hg];show (if nameB (efgS.extract i (i+1))=false then (2:Int) else if anyE ((mtT ns es).edges.take i) (efgS.extract i (i+1))=true then 5 else edR (mtT ns es) (mtE (mtn ns) i es[i]))=0
  rw[if_neg (by simp[a1]),if_neg]
  .unfold edR;have i1:insB (mtT ns es) (mtE (mtn ns) i es[i]).fr=true:=decide_eq_true (by rw[l1];exact⟨e5,e6⟩)
   have i2:insB (mtT ns es) (mtE (mtn ns) i es[i]).to=true:=decide_eq_true (by rw[l1];exact⟨e7,e8⟩)
   have i3:bndB (mtE (mtn ns) i es[i]).ol (mtE (mtn ns) i es[i]).oh=true:=by simp[bndB,mtE]
   have i4:bndB (mtE (mtn ns) i es[i]).il (mtE (mtn ns) i es[i]).ih=true:=by simp[bndB,mtE]
   simp[i1,i2,i3,i4]
  .simp only[anyE,anyB,List.any_eq_true,not_exists,not_and];intro z hz;obtain⟨j,hj,e⟩:=List.mem_take_iff_getElem.1 hz;have hj2:j<min es.length 5:=by omega
   have:(mtT ns es).ed j=z:=by rw[<-e];unfold Ty.ed;simp[show j<(mtT ns es).edges.length by omega]
   rw[mtT_ed hj2] at this;rw[<-this];simpa[mtE] using a3 j (by omega)
 unfold tyE;rw[if_neg (by omega),if_neg (by omega),if_neg (by omega),l1,l2,firstE_zeroI hN,firstE_zeroI hE];rfl
theorem mtT_fit{ns es:List (Int × Int)}(h1:U82 ns):(mtT ns es).Fit:=by
 obtain⟨l1,l2⟩:=mtT_len ns es;have hmt:1<=mtn ns/\mtn ns<=6:=by unfold mtn;omega
 refine⟨by omega,by omega,fun x hx=>?_,fun x hx=>?_,fun x hx=>?_⟩
 .obtain⟨i,hi,e⟩:=List.getElem_of_mem hx;have:(mtT ns es).nd i=x:=by rw[<-e];unfold Ty.nd;simp[hi]
  rw[mtT_nd (by omega)] at this;rw[<-this];have:=(abc_ok i (by omega)).2.1
  show (abcS.extract i (i+1)).size<=_
  omega
 .obtain⟨i,hi,e⟩:=List.getElem_of_mem hx;have:(mtT ns es).ed i=x:=by rw[<-e];unfold Ty.ed;simp[hi]
  rw[mtT_ed (by omega)] at this;rw[<-this];have:=(efg_ok i (by omega)).2.1
  show (efgS.extract i (i+1)).size<=_
  omega
 .obtain⟨i,hi,e⟩:=List.getElem_of_mem hx;have:(mtT ns es).nd i=x:=by rw[<-e];unfold Ty.nd;simp[hi]
  rw[mtT_nd (by omega)] at this;have ho:x.own=mtO i (ns.getD i (0,0)).2:=by rw[<-this];rfl
  have hl:=mtO_len i (ns.getD i (0,0)).2;rw[ho];refine⟨by omega,fun y hy=>?_⟩;have hm:=mtO_mem (mt_in h1 i).2 hy;have hu:=(uvw_ok i (by omega)).2.1;refine⟨?_,?_⟩;all_goals first|(rw[hm.1];omega)|exact⟨by omega,fun z hz=>by have:=hm.2.2.2.2 z hz;omega⟩
theorem foldl_lenB{α:Type}{f:List Ov->α->List Ov}{B:Nat}(hf:∀out k,(f out k).length<=out.length+B):∀(l:List α) (out:List Ov),(l.foldl f out).length<=out.length+l.length*B
 | [],out=>by simp
 | x::l,out=>by
  have h1:=foldl_lenB hf l (f out x);have h2:=hf out x;rw[List.foldl_cons,List.length_cons,Nat.add_mul];omega
theorem foldl_memB{α:Type}{f:List Ov->α->List Ov}{p:Ov->Prop}(hf:∀out k,∀o∈f out k,o∈out∨p o):∀(l:List α) (out:List Ov),∀o∈l.foldl f out,o∈out∨p o
 | [],out,o,h=>.inl h
 | x::l,out,o,h=>by
  rw[List.foldl_cons] at h;rcases foldl_memB hf l (f out x) o h with h|h
  .exact hf out x o h
  .exact .inr h
theorem ovE_lenB(a b:Gr)(nodes:List Int):∀(n:Nat) (es:List Int) (out:List Ov),(ovE a b nodes n es out).length<=out.length+(1+a.edges.length) ^ n
 | 0,es,out=>by
  unfold ovE;split<;>simp
 | n+1,es,out=>by
  unfold ovE;split
  .omega
  .have h1:=ovE_lenB a b nodes n (es++[-1]) out;have h2:=foldl_lenB (f:=fun (out:List Ov) (k:Nat)=>if a.edges.getD k default=wantE b nodes es/\(k:Int)∉es then ovE a b nodes n (es++[(k:Int)]) out else out) (B:=(1+a.edges.length) ^ n) (fun out k=>by
    split
    .exact ovE_lenB a b nodes n _ out
    .omega) (List.range a.edges.length) (ovE a b nodes n (es++[-1]) out)
   rw[List.length_range] at h2;rw[Nat.pow_succ,Nat.mul_comm,Nat.add_mul];omega
theorem ovE_memB(a b:Gr)(nodes:List Int):∀(n:Nat) (es:List Int) (out:List Ov),∀o∈ovE a b nodes n es out,o∈out∨o.l=idM a
 | 0,es,out,o,h=>by
  unfold ovE at h;split at h
  .exact .inl h
  .rcases List.mem_append.1 h with h|h
   .exact .inl h
   .rw[List.mem_singleton.1 h];exact .inr rfl
 | n+1,es,out,o,h=>by
  unfold ovE at h;split at h
  .exact .inl h
  .rcases foldl_memB (p:=fun o=>o.l=idM a) (fun out k o h=>by
    split at h
    .exact ovE_memB a b nodes n _ out o h
    .exact .inl h) _ _ o h with h|h
   .exact ovE_memB a b nodes n _ out o h
   .exact .inr h
theorem ovN_lenB(a b:Gr):∀(n:Nat) (l:List Int) (out:List Ov),(ovN a b n l out).length<=out.length+(1+a.nodes.length) ^ n*(1+a.edges.length) ^ b.edges.length
 | 0,l,out=>by
  unfold ovN;split
  .omega
  .have:=ovE_lenB a b l b.edges.length [] out
   simpa using this
 | n+1,l,out=>by
  unfold ovN;split
  .omega
  .have h1:=ovN_lenB a b n (l++[-1]) out;have h2:=foldl_lenB (f:=ovStepN a b (ovN a b n) l) (B:=(1+a.nodes.length) ^ n*(1+a.edges.length) ^ b.edges.length) (fun out k=>by
    unfold ovStepN;split
    .exact ovN_lenB a b n _ out
    .omega) (List.range a.nodes.length) (ovN a b n (l++[-1]) out)
   rw[List.length_range] at h2;rw[Nat.pow_succ,Nat.mul_comm ((1+a.nodes.length) ^ n),Nat.mul_assoc,Nat.add_mul];omega
theorem ovN_memB(a b:Gr):∀(n:Nat) (l:List Int) (out:List Ov),∀o∈ovN a b n l out,o∈out∨o.l=idM a
 | 0,l,out,o,h=>by
  unfold ovN at h;split at h
  .exact .inl h
  .exact ovE_memB a b l _ _ _ o h
 | n+1,l,out,o,h=>by
  unfold ovN at h;split at h
  .exact .inl h
  .rcases foldl_memB (p:=fun o=>o.l=idM a) (fun out k o h=>by
    unfold ovStepN at h;split at h
    .exact ovN_memB a b n _ out o h
    .exact .inl h) _ _ o h with h|h
   .exact ovN_memB a b n _ out o h
   .exact .inr h
theorem ov_few{a b:Gr}(va:vG a=0)(vb:vG b=0)(h1:a.nodes.length<=3)(h2:a.edges.length<=4)(h3:b.nodes.length<=3)(h4:b.edges.length<=2):(oR a b).2=0/\∀o∈(oR a b).1,o.l=idM a:=by
 have hl:(ovN a b b.nodes.length [] []).length<=2000:=by
  have h:=ovN_lenB a b b.nodes.length [] [];have e1:(1+a.nodes.length) ^ b.nodes.length<=4 ^ b.nodes.length:=Nat.pow_le_pow_left (by omega) _
  have e2:(4:Nat) ^ b.nodes.length<=4 ^ 3:=Nat.pow_le_pow_right (by decide) h3
  have e3:(1+a.edges.length) ^ b.edges.length<=5 ^ b.edges.length:=Nat.pow_le_pow_left (by omega) _
  have e4:(5:Nat) ^ b.edges.length<=5 ^ 2:=Nat.pow_le_pow_right (by decide) h4
  have e5:=Nat.mul_le_mul (Nat.le_trans e1 e2) (Nat.le_trans e3 e4);have e6:(4:Nat) ^ 3*5 ^ 2=1600:=by decide
  simp only[List.length_nil] at h;omega
 unfold oR;rw[if_neg (by simp[va]),if_neg (by simp[vb]),if_neg (by omega),if_neg (by omega)];refine⟨rfl,fun o ho=>?_⟩;rcases ovN_memB a b _ _ _ o ho with h|h
 .simp at h
 .exact h
theorem iota_memB{n j:Nat}(h:j<n):(j:Int)∈iota n:=by
 unfold iota;exact List.mem_map.2 ⟨j,List.mem_range.2 h,rfl⟩
theorem keep_none{r:Ru}{o:Ov}(ho:o.l=idM r.rg)(hi:r.i=idM r.rg):keepO r o=false:=by
 have h:∀n (x:List Int),meetsB (iota n) x (iota n)=false:=fun n x=>meets_no fun j hj=>by
  unfold hitB;rw[if_pos (decide_eq_true (iota_memB (by simpa[iota] using hj)))]
 unfold keepO;rw[ho,hi];show (if meetsB (iota r.rg.nodes.length) o.r.nodes (iota r.rg.nodes.length)=true then true else meetsB (iota r.rg.edges.length) o.r.edges (iota r.rg.edges.length))=false
 rw[h,h];rfl
theorem always_ok{a:Gr}(va:vG a=0):validC a (cdOf 1 [])=0:=by
 unfold validC;have h1:(cdOf 1 []).ovr a=0:=by
  simp[cdOf,Cd.ovr,shapeC,okC,plainC,unusedC,ovrStep,Cd.ovrL,Cd.kind,Cd.kids,Cd.sl,Cd.vars,Cd.te,Cd.m,Cd.g,z0]
 have h2:smallC (cdOf 1 [])=0:=by
  simp[cdOf,smallC,Cd.meas,Cd.measL]
 rw[if_neg (by simp[va]),if_neg (by simp[h1]),h2]
theorem no_ways{t:Ty}{r:Ru}{c:Co}(hg:givP t r c=0)(hk:c.kind=1)(hi:r.i=idM r.rg)(vr:vG r.rg=0)(vc:vG c.g=0)(h1:r.rg.nodes.length<=3)(h2:r.rg.edges.length<=4)(h3:c.g.nodes.length<=3)(h4:c.g.edges.length<=2):
  waysR t r c=([],0)/\presR t r c=(cdOf 1 [],0):=by
 obtain⟨o1,o2⟩:=ov_few vr vc h1 h2 h3 h4;have hw:waysR t r c=([],0):=by
  unfold waysR;rw[if_neg (by simp[hg]),if_pos hk,if_neg (by simp[o1])];rw[Prod.mk.injEq];exact⟨List.filter_eq_nil_iff.2 fun o ho=>by rw[keep_none (o2 o ho) hi];simp,rfl⟩
 refine⟨hw,?_⟩;have hs:strR r=0:=by
  unfold givP at hg;split at hg
  .rename_i h;exact absurd hg h
  .split at hg
   .rename_i h;exact absurd hg h
   .rename_i h;simpa using h
 have hl:(cdOf 1 []).lft r.sp=(cdOf 1 [],0):=by
  simp[cdOf,Cd.lft,lftStep,Cd.lftL]
 obtain⟨_,v1,v2⟩:=strR_zero hs;unfold presR;rw[hw];simp only[ne_eq,not_true_eq_false,if_false];have:presC []=cdOf 1 []:=rfl
 rw[this];unfold leftR;rw[if_neg (by simp[hs])];unfold movR;rw[hl];have e1:validC r.sp.r (cdOf 1 [])=0:=always_ok v2
 have e2:validC r.sp.l (cdOf 1 [])=0:=always_ok v1
 simp[e1,e2]
def gwN(ns cs:List Int)(i:Nat):List Int:=((cs.take i).drop 1).foldl (fun s c=>if c % 2=1 then s++[c / 2 % 3] else s) ns
def gwE(n:Nat)(es:List E)(cs:List Int)(i:Nat):List E:=((cs.take i).drop 4).foldl (fun s c=>s++[⟨c % 2,c / 2 % n,c / 16 % n⟩]) es
theorem drop_snoc{l:List Int}{i k:Nat}(h:i<l.length)(hk:k<=i):(l.take (i+1)).drop k=(l.take i).drop k++[l[i]]:=by
 rw[List.take_succ_eq_append_getElem h,List.drop_append_of_le_length (by simp;omega)]
theorem gwN_more{ns cs:List Int}{i:Nat}(h:i<cs.length)(h1:1<=i):gwN ns cs (i+1)=if cs[i] % 2=1 then gwN ns cs i++[cs[i] / 2 % 3] else gwN ns cs i:=by
 rw[gwN,drop_snoc h h1,List.foldl_append];rfl
theorem gwE_more{n:Nat}{es:List E}{cs:List Int}{i:Nat}(h:i<cs.length)(h1:4<=i):gwE n es cs (i+1)=gwE n es cs i++[⟨cs[i] % 2,cs[i] / 2 % n,cs[i] / 16 % n⟩]:=by
 rw[gwE,drop_snoc h h1,List.foldl_append];rfl
def gwG(g:Gr)(cs:List Int):Gr :=
 ⟨gwN g.nodes cs (min cs.length 4),if (gwN g.nodes cs (min cs.length 4)).length=0 then g.edges else gwE (gwN g.nodes cs (min cs.length 4)).length g.edges cs (min cs.length 8)⟩
def mkL(b:Nat->Bool)(n:Nat):List Int:=((List.range n).filter b).map fun (k:Nat)=>(k:Int)
theorem mkL_succ(b:Nat->Bool)(n:Nat):mkL b (n+1)=if b n=true then mkL b n++[(n:Int)] else mkL b n:=by
 unfold mkL;rw[List.range_succ,List.filter_append,List.map_append];by_cases h:b n=true
 .simp[h]
 .simp[h]
theorem mkL_len(b:Nat->Bool)(n:Nat):(mkL b n).length<=n:=by
 unfold mkL;rw[List.length_map];have:=List.length_filter_le b (List.range n)
 simpa using this
theorem mkL_mem{b:Nat->Bool}{n:Nat}{x:Int}:x∈mkL b n↔∃k:Nat,k<n/\b k=true/\(k:Int)=x:=by
 simp only[mkL,List.mem_map,List.mem_filter,List.mem_range];constructor
 .rintro⟨k,⟨h1,h2⟩,h3⟩;exact⟨k,h1,h2,h3⟩
 .rintro⟨k,h1,h2,h3⟩;exact⟨k,⟨h1,h2⟩,h3⟩
theorem mkL_pw(b:Nat->Bool)(n:Nat):(mkL b n).Pairwise (· < ·):=by
 unfold mkL;rw[List.pairwise_map];refine List.Pairwise.filter _ (List.Pairwise.imp (R:=(· < ·)) (fun h=>by omega) List.pairwise_lt_range)
theorem mkL_ext{b c:Nat->Bool}{n:Nat}(h:∀k,k<n->b k=c k):mkL b n=mkL c n:=by
 unfold mkL;congr 1
 exact List.filter_congr fun k hk=>h k (List.mem_range.1 hk)
def lsK(N E:List Bool)(fs ts:Nat->Nat):Nat->List Bool
 | 0=>N
 | i+1=>if E.getD i false=true then ((lsK N E fs ts i).set (fs i) true).set (ts i) true else lsK N E fs ts i
theorem lsK_len(N E:List Bool)(fs ts:Nat->Nat):∀i,(lsK N E fs ts i).length=N.length
 | 0=>rfl
 | i+1=>by
  unfold lsK;split
  .rw[List.length_set,List.length_set];exact lsK_len N E fs ts i
  .exact lsK_len N E fs ts i
theorem lsK_yes{N E:List Bool}{fs ts:Nat->Nat}{i:Nat}(h:E.getD i false=true):lsK N E fs ts (i+1)=((lsK N E fs ts i).set (fs i) true).set (ts i) true:=by rw[lsK,if_pos h]
theorem lsK_no{N E:List Bool}{fs ts:Nat->Nat}{i:Nat}(h:E.getD i false=false):lsK N E fs ts (i+1)=lsK N E fs ts i:=by rw[lsK,if_neg (by rw[h];decide)]
def lsN(g:Gr)(bn be:Nat->Bool)(i k:Nat):Bool:=bn k||(List.range i).any fun (j:Nat)=>be j&&(decide ((g.edges.getD j default).fr=(k:Int))||decide ((g.edges.getD j default).to=(k:Int)))
theorem lsN_succ(g:Gr)(bn be:Nat->Bool)(i k:Nat):lsN g bn be (i+1) k=(lsN g bn be i k||(be i&&(decide ((g.edges.getD i default).fr=(k:Int))||decide ((g.edges.getD i default).to=(k:Int))))):=by
 unfold lsN;rw[List.range_succ,List.any_append,Bool.or_assoc];simp
def lstP(g:Gr)(bn be:Nat->Bool):Mo:=⟨mkL (lsN g bn be g.edges.length) g.nodes.length,mkL be g.edges.length⟩
theorem lstP_vp{g:Gr}{bn be:Nat->Bool}(hv:vG g=0):VP g (lstP g bn be):=by
 refine⟨hv,fun x hx=>?_,fun x hx=>?_,pw_getD (mkL_pw _ _),pw_getD (mkL_pw _ _),fun x hx=>?_⟩
 .obtain⟨k,hk,_,rfl⟩:=mkL_mem.1 hx;omega
 .obtain⟨k,hk,_,rfl⟩:=mkL_mem.1 hx;omega
 .obtain⟨k,hk,hb,rfl⟩:=mkL_mem.1 hx;obtain⟨b1,b2,b3,b4⟩:=validG_edges hv (g.edges.getD k default) (getD_mem hk);have key:∀y:Int,0<=y->y<g.nodes.length->((g.edges.getD k default).fr=y∨(g.edges.getD k default).to=y)->y∈mkL (lsN g bn be g.edges.length) g.nodes.length:=fun y h0 h1 h=>by
   refine mkL_mem.2 ⟨y.toNat,by omega,?_,by omega⟩;unfold lsN;rw[Bool.or_eq_true,List.any_eq_true];refine .inr ⟨k,List.mem_range.2 hk,?_⟩;rw[hb,show ((y.toNat:Nat):Int)=y by omega];simpa using h
  rw[Int.toNat_natCast];exact⟨key _ b1 b2 (.inl rfl),key _ b3 b4 (.inr rfl)⟩
structure Gw (l g:Gr) (n m:Nat):Prop where
 ex:∃T U,g.nodes=l.nodes++T/\g.edges=l.edges++U/\T.length<=n/\U.length<=m/\(∀a∈T,0<=a/\a<3)/\∀e∈U,(0<=e.ty/\e.ty<2)/\(0<=e.fr/\e.fr<g.nodes.length)/\0<=e.to/\e.to<g.nodes.length
theorem Gw.refl(l:Gr):Gw l l 0 0:=⟨[],[],by simp,by simp,by simp,by simp,by simp,by simp⟩
theorem Gw.mono{l g:Gr}{n m n' m':Nat}(h:Gw l g n m)(h1:n<=n')(h2:m<=m'):Gw l g n' m':=by
 obtain⟨T,U,k1,k2,k3,k4,k5,k6⟩:=h.ex;exact⟨T,U,k1,k2,by omega,by omega,k5,k6⟩
theorem Gw.len{l g:Gr}{n m:Nat}(h:Gw l g n m):l.nodes.length<=g.nodes.length/\g.nodes.length<=l.nodes.length+n/\g.edges.length<=l.edges.length+m:=by
 obtain⟨T,U,k1,k2,k3,k4,k5,k6⟩:=h.ex;rw[k1,k2,List.length_append,List.length_append];omega
theorem Gw.pre{l g:Gr}{n m:Nat}(h:Gw l g n m)(hv:vG l=0)(h1:l.nodes.length+n<=40)(h2:l.edges.length+m<=80):Pre l g:=by
 have hl:=h.len;obtain⟨T,U,k1,k2,k3,k4,k5,k6⟩:=h.ex;obtain⟨v0,v1,v2⟩:=validG_types hv;refine⟨hv,validG_of (by omega) (fun x hx=>?_) (fun e he=>?_),⟨T,k1⟩,⟨U,k2⟩⟩
 .rw[k1] at hx;rcases List.mem_append.1 hx with hx|hx
  .exact v1 x hx
  .have:=k5 x hx
   exact within_of this.1 (by omega)
 .rw[k2] at he;rcases List.mem_append.1 he with he|he
  .have:=v2 e he
   rw[fitsB_iff] at this ⊢;exact⟨this.1,by omega,by omega⟩
  .obtain⟨t1,t2,t3⟩:=k6 e he;rw[fitsB_iff];exact⟨within_of t1.1 (by omega),t2,t3⟩
structure InK (g:Gr):Prop where
 n:∀a∈g.nodes,0<=a/\a<3
 e:∀x∈g.edges,0<=x.ty/\x.ty<2
theorem madeG_in(x:Dr):InK (madeG x):=by
 refine⟨fun a ha=>?_,fun e he=>?_⟩
 .simp only[madeG,mN,List.mem_map] at ha;obtain⟨k,hk,rfl⟩:=ha;omega
 .simp only[madeG] at he;split at he
  .simp at he
  .simp only[mE,List.mem_map] at he;obtain⟨k,hk,rfl⟩:=he;simp only;omega
theorem gwN_ex(ns cs:List Int):∀i,∃T,gwN ns cs i=ns++T/\T.length<=i/\∀a∈T,0<=a/\a<3
 | 0=>⟨[],by simp[gwN],by simp,by simp⟩
 | i+1=>by
  obtain⟨T,h1,h2,h3⟩:=gwN_ex ns cs i;by_cases h:i<cs.length
  .by_cases h0:1<=i
   .rw[gwN_more h h0];split
    .refine⟨T++[cs[i] / 2 % 3],by rw[h1,List.append_assoc],by simp;omega,fun a ha=>?_⟩;rcases List.mem_append.1 ha with ha|ha
     .exact h3 a ha
     .rw[List.mem_singleton.1 ha];omega
    .exact⟨T,h1,by omega,h3⟩
   .refine⟨[],?_,by simp,by simp⟩;rw[gwN,List.drop_eq_nil_of_le (by simp;omega)];simp
  .refine⟨T,?_,by omega,h3⟩;rw[<-h1];unfold gwN;rw[List.take_of_length_le (by omega),List.take_of_length_le (by omega)]
theorem gwE_ex{n:Nat}(hn:0<n)(es:List E)(cs:List Int):∀i,∃U,gwE n es cs i=es++U/\U.length<=i/\∀e∈U,(0<=e.ty/\e.ty<2)/\(0<=e.fr/\e.fr<n)/\0<=e.to/\e.to<n
 | 0=>⟨[],by simp[gwE],by simp,by simp⟩
 | i+1=>by
  obtain⟨T,h1,h2,h3⟩:=gwE_ex hn es cs i;by_cases h:i<cs.length
  .by_cases h0:4<=i
   .rw[gwE_more h h0];refine⟨T++[⟨cs[i] % 2,cs[i] / 2 % n,cs[i] / 16 % n⟩],by rw[h1,List.append_assoc],by simp;omega,fun a ha=>?_⟩;rcases List.mem_append.1 ha with ha|ha
    .exact h3 a ha
    .rw[List.mem_singleton.1 ha];have hnz:(n:Int)≠0:=by omega
     have hp:(0:Int)<n:=by omega
     exact⟨by simp only;omega,⟨Int.emod_nonneg _ hnz,Int.emod_lt_of_pos _ hp⟩,Int.emod_nonneg _ hnz,Int.emod_lt_of_pos _ hp⟩
   .refine⟨[],?_,by simp,by simp⟩;rw[gwE,List.drop_eq_nil_of_le (by simp;omega)];simp
  .refine⟨T,?_,by omega,h3⟩;rw[<-h1];unfold gwE;rw[List.take_of_length_le (by omega),List.take_of_length_le (by omega)]
theorem gwG_gw(g:Gr)(cs:List Int):Gw g (gwG g cs) 4 8:=by
 obtain⟨T,h1,h2,h3⟩:=gwN_ex g.nodes cs (min cs.length 4);by_cases h0:(gwN g.nodes cs (min cs.length 4)).length=0
 .refine⟨T,[],h1,?_,by omega,by simp,h3,by simp⟩;simp only[gwG,if_pos h0,List.append_nil]
 .obtain⟨U,k1,k2,k3⟩:=gwE_ex (show 0<(gwN g.nodes cs (min cs.length 4)).length by omega) g.edges cs (min cs.length 8);refine⟨T,U,h1,?_,by omega,by omega,h3,k3⟩;simp only[gwG,if_neg h0];exact k1
open Go Go.ChangeShapes
open Go.Proofs.Tryz
variable {P:Program}
def Rd(w:World)(cs:List Value)(ds:List D):Prop:=cs.length=ds.length/\∀i (h1:i<cs.length) (h2:i<ds.length),RVd w.cell? (fun _=>True) ds[i] cs[i]
theorem Rd.append{w:World}{cs cs':List Value}{ds ds':List D}(h:Rd w cs ds)(k:Rd w cs' ds'):Rd w (cs++cs') (ds++ds'):=by
 refine⟨by simp[h.1,k.1],fun i h1 h2=>?_⟩;by_cases hi:i<cs.length
 .rw[List.getElem_append_left hi,List.getElem_append_left (by rw[<-h.1];exact hi)];exact h.2 i hi _
 .have hl:=h.1;rw[List.getElem_append_right (by omega),List.getElem_append_right (by omega)];have:=k.2 (i-cs.length) (by simp at h1;omega) (by have:=k.1;simp at h1;omega)
  simpa[hl] using this
theorem Rd.one{w:World}{c:Value}{d:D}(h:RVd w.cell? (fun _=>True) d c):Rd w [c] [d]:=⟨rfl,fun i h1 h2=>by
 have:i=0:=by simpa using h1
 subst this;exact h⟩
def Light{H:Type}(P:Program)(T:TypeId)(d:DataW H):Prop:=(d.weights P T).all (· <= reachBytes)=true
structure Rdr (P:Program) (T:TypeId) (α:Type) where
 enc:α->List D
 ok:α->Prop
 len:∀x,(enc x).length=P.cellsOf T
 sound:∀{H:Type} (e:TypeId × Value->H) (w:World) (base:Nat) (spare:Nat->Bool) (held:Bool) (fuel:Nat) (cs:List Value) (x:DataW H × List MemPlace),
  DataW.trod e P w base spare held fuel T cs=some x->∃y,Rd w cs (enc y)/\(Light P T x.1->ok y)
def Rdr.int{T:TypeId}{k:IntKind}(h:P.underlying T=some (.int k))(hc:P.cellsOf T=1):Rdr P T Int where
 enc n:=[.raw (.int k n)]
 ok n:=(Lit.int k n).wf=true
 len _:=by simp[hc]
 sound e w base spare held fuel cs x hx:=by
  cases fuel with
  | zero=>simp[DataW.trod] at hx
  | succ n =>
   unfold DataW.trod at hx;rw[h] at hx;split at hx<;>simp_all
   rename_i k' n' _;exact⟨n',Rd.one (.raw rfl),fun _=>hx.1.2⟩
theorem cells_spec{w:World}{base:Nat}{a:Addr}{n:Nat}{l:List Value}(h:w.cells? base a n=some l):l.length=n/\∀i (hi:i<l.length),w.cell? (a.add i)=some l[i]:=by
 unfold World.cells? at h;split at h
 .have h1:l.length=n:=by have:=mapM_some_length h;simpa using this
  refine⟨h1,fun i hi=>?_⟩;have hin:i<n:=by omega
  have:=mapM_some_get h i i (by simp[hin])
  rw[this];exact List.getElem?_eq_getElem hi
 .cases h
theorem light_slice{H:Type}{T E:TypeId}(h:P.underlying T=some (.slice E)){elems rest:List (DataW H)}(hl:Light P T (.slice elems rest)):elems.length*P.bytesOf E<=reachBytes/\∀d∈elems,Light P E d:=by
 unfold Light at hl ⊢;simp only[DataW.weights,h,List.all_cons,List.all_append,Bool.and_eq_true,decide_eq_true_eq] at hl;refine⟨Nat.le_trans (Nat.mul_le_mul_right _ (Nat.le_add_right _ _)) hl.1,?_⟩;have key:∀l:List (DataW H),(DataW.weightsAll P E l).all (· <= reachBytes)=true->∀d∈l,(d.weights P E).all (· <= reachBytes)=true:=by
  intro l;induction l with
  | nil=>intro _ d hd;simp at hd
  | cons x l ih =>
   intro hx d hd;simp only[DataW.weightsAll,List.all_append,Bool.and_eq_true] at hx;rcases List.mem_cons.1 hd with rfl|hd
   .exact hx.1
   .exact ih hx.2 d hd
 exact key elems hl.2.1
def Rdr.slice{T E:TypeId}{α:Type}(r:Rdr P E α)(h:P.underlying T=some (.slice E))(hc:P.cellsOf T=1):Rdr P T (List α) where
 enc l:=[.sl (P.cellsOf E) (l.map r.enc)]
 ok l:=(∀x∈l,r.ok x)/\l.length*P.bytesOf E<=reachBytes
 len _:=by simp[hc]
 sound e w base spare held fuel cs x hx:=by
  rcases DataW.trod_slice h hx with ⟨rfl,rfl⟩|⟨a,len,cap,elems,rest,n,rfl,rfl,rfl,hb,hl,hm,hel,hat,_⟩
  .exact⟨[],Rd.one (.sl (es:=[]) (fun _ _=>default) (nr _) (by decide) (by simp) (by simp) (by simp) (by simp)),fun _=>⟨by simp,by simp⟩⟩
  .have key:∀i (hi:i<elems.length),∃cs y,cs.length=P.cellsOf E/\(∀j (hj:j<cs.length),w.cell? (a.add (i*P.cellsOf E+j))=some cs[j])/\Rd w cs (r.enc y)/\(Light P E elems[i].1->r.ok y):=by
    intro i hi;have h1:=hat i (by omega);have h2:elems[i]?=some elems[i]:=List.getElem?_eq_getElem hi
    rw[h2,Option.bind_eq_some_iff] at h1;obtain⟨cs,hcs,htr⟩:=h1;obtain⟨hcl,hcc⟩:=cells_spec hcs;obtain⟨y,hy,hok⟩:=r.sound e w base spare held n cs _ htr;refine⟨cs,y,hcl,fun j hj=>?_,hy,hok⟩;rw[<-Addr.add_add];exact hcc j hj
   have pick:∀m,m<=elems.length->∃ys:List α,ys.length=m/\(∀i (hi:i<ys.length) (hi2:i<elems.length),∃cs,cs.length=P.cellsOf E/\(∀j (hj:j<cs.length),w.cell? (a.add (i*P.cellsOf E+j))=some cs[j])/\Rd w cs (r.enc ys[i])/\(Light P E elems[i].1->r.ok ys[i])):=by
    intro m;induction m with
    | zero=>intro _;exact⟨[],rfl,fun i hi=>by simp at hi⟩
    | succ m ih =>
     intro hm';obtain⟨ys,hys,hall⟩:=ih (by omega);obtain⟨cs,y,g1,g2,g3,g4⟩:=key m (by omega);refine⟨ys++[y],by simp[hys],fun i hi hi2=>?_⟩;by_cases him:i<ys.length
     .rw[List.getElem_append_left him];exact hall i him hi2
     .have:i=m:=by simp at hi;omega
      subst this;have e1:(ys++[y])[i]=y:=by
       rw[List.getElem_append_right (by omega)];simp
      rw[e1];exact⟨cs,g1,g2,g3,g4⟩
   obtain⟨ys,hys,hall⟩:=pick elems.length (nr _);refine⟨ys,Rd.one ?_,fun hli=>?_⟩
   .have hlen:len=ys.length:=by omega
    subst hlen;have hml:ys.length=(ys.map r.enc).length:=by simp
    rw[hml];refine .sl (fun i j=>(w.cell? (a.add (i*P.cellsOf E+j))).getD default) (by simpa using hl) hm (fun e he=>?_) (fun _=>⟨a,rfl⟩) (fun a' ha' i j hi hj=>?_) (fun i j hi hj=>?_)
    .obtain⟨y,_,rfl⟩:=List.mem_map.1 he;exact r.len y
    .cases ha'
     obtain⟨cs,g1,g2,_⟩:=hall i (by simpa using hi) (by simp at hi;omega);rw[g2 j (by omega)];exact⟨trivial,rfl⟩
    .obtain⟨cs,g1,g2,g3,_⟩:=hall i (by simpa using hi) (by simp at hi;omega);simp only[List.getElem_map] at hj ⊢;have hjc:j<cs.length:=by rw[g3.1];exact hj
     rw[g2 j hjc];exact g3.2 j hjc hj
   .obtain⟨w1,w2⟩:=light_slice h hli;refine⟨fun y hy=>?_,by simpa[hys] using w1⟩;obtain⟨i,hi,rfl⟩:=List.getElem_of_mem hy;obtain⟨_,_,_,_,h4⟩:=hall i hi (by omega);exact h4 (w2 _ (List.mem_map.2 ⟨_,List.getElem_mem _,rfl⟩))
def Rdr.map{T:TypeId}{α β:Type}(r:Rdr P T α)(f:α->β)(enc:β->List D)(ok:β->Prop)(he:∀x,enc (f x)=r.enc x)(hok:∀x,r.ok x->ok (f x))(hl:∀y,(enc y).length=P.cellsOf T):Rdr P T β where
 enc:=enc
 ok:=ok
 len:=hl
 sound e w base spare held fuel cs x hx:=by
  obtain⟨y,h1,h2⟩:=r.sound e w base spare held fuel cs x hx;exact⟨f y,by rw[he];exact h1,fun hl=>hok y (h2 hl)⟩
def Rdr.sliceN{T E:TypeId}{α:Type}(r:Rdr P E α)(n:Nat)(h:P.underlying T=some (.slice E))(hc:P.cellsOf T=1)(hn:P.cellsOf E=n):Rdr P T (List α) where
 enc l:=[.sl n (l.map r.enc)]
 ok l:=(∀x∈l,r.ok x)/\l.length*P.bytesOf E<=reachBytes
 len _:=by simp[hc]
 sound:=by
  subst hn;exact(Rdr.slice r h hc).sound
theorem list3{α:Type}{l:List α}(h:l.length=3):l=[l[0]'(by omega),l[1]'(by omega),l[2]'(by omega)]:=by
 match l,h with
 | [p,q,r],_=>rfl
def Rdr.struct3{T A B C:TypeId}{α β γ:Type}(r:Rdr P A α)(s:Rdr P B β)(t:Rdr P C γ){f0 f1 f2:Field}(h:P.underlying T=some (.struct #[f0,f1,f2]))(hA:f0.type=A)(hB:f1.type=B)(hC:f2.type=C)(h0:f0.offset=0)(h1:f1.offset=P.cellsOf A)(h2:f2.offset=P.cellsOf A+P.cellsOf B)(hc:P.cellsOf T=P.cellsOf A+P.cellsOf B+P.cellsOf C):Rdr P T (α × β × γ) where
 enc x:=r.enc x.1++(s.enc x.2.1++t.enc x.2.2)
 ok x:=r.ok x.1/\s.ok x.2.1/\t.ok x.2.2
 len x:=by simp[r.len,s.len,t.len,hc];omega
 sound e w base spare held fuel cs x hx:=by
  obtain⟨xs,n,rfl,rfl,hl,hxs,hat⟩:=DataW.trod_struct h hx;have hxs':xs.length=3:=hxs
  have g0:=hat 0 f0 rfl;have g1:=hat 1 f1 rfl;have g2:=hat 2 f2 rfl;have e0:xs[0]?=some (xs[0]'(by omega)):=List.getElem?_eq_getElem (by omega)
  have e1:xs[1]?=some (xs[1]'(by omega)):=List.getElem?_eq_getElem (by omega)
  have e2:xs[2]?=some (xs[2]'(by omega)):=List.getElem?_eq_getElem (by omega)
  rw[e0,h0,hA] at g0;rw[e1,h1,hB] at g1;rw[e2,h2,hC] at g2;obtain⟨y,k1,k2⟩:=r.sound e w base spare held n _ _ g0;obtain⟨z,m1,m2⟩:=s.sound e w base spare held n _ _ g1;obtain⟨q,p1,p2⟩:=t.sound e w base spare held n _ _ g2;refine⟨(y,z,q),?_,fun hli=>?_⟩
  rotate_left
  .unfold Light at hli k2 m2 p2;have e2:xs=[xs[0]'(by omega),xs[1]'(by omega),xs[2]'(by omega)]:=list3 hxs'
   rw[e2] at hli;simp only[List.map_cons,List.map_nil,DataW.weights,h,DataW.weightsEach,hA,hB,hC,List.all_append,Bool.and_eq_true] at hli;exact⟨k2 hli.1,m2 hli.2.1,p2 hli.2.2.1⟩
  have hcs:cs=(cs.drop 0).take (P.cellsOf A)++((cs.drop (P.cellsOf A)).take (P.cellsOf B)++(cs.drop (P.cellsOf A+P.cellsOf B)).take (P.cellsOf C)):=by
   have:(cs.drop (P.cellsOf A+P.cellsOf B)).take (P.cellsOf C)=cs.drop (P.cellsOf A+P.cellsOf B):=List.take_of_length_le (by simp;omega)
   rw[this,<-List.drop_drop,List.take_append_drop,List.drop_zero,List.take_append_drop]
  rw[hcs];exact k1.append (m1.append p1)
def G0:Gh:=⟨fun _=>none,fun _=>none,fun _=>.whole,0⟩
def m0:AMem:=⟨fun _=>none,0,fun _=>false,0⟩
theorem G0_ps(a:Addr):G0.ps a:=trivial
theorem relM_start(W:World)(hg:GlobOk G0 W:=by intro g cs h;simp[globD] at h):RelM G0 m0 W:=by
 constructor
 case glob=>exact hg
 case box=>intro k rows b sz h;cases h
 case nobox=>intro k _;rfl
 case inj=>intro k k' b sz sz' h;cases h
 case nb=>intro k _;rfl
 case nt=>rfl
 case toks=>intro t h;cases h
 case tokb=>intro t g h;cases h
 case tinj=>intro t t' g h;cases h
 case tnt=>intro t x h;cases h
 case fresh=>intro b _;rfl
theorem RVd.start{W:World}{d:D}{v:Value}(h:RVd W.cell? (fun _=>True) d v):RVd W.cell? G0.ps d v:=h.mono fun a u _ hc=>⟨G0_ps a,hc⟩
theorem Rdr.agg{T:TypeId}{α:Type}(r:Rdr P T α){W:World}{base base':Nat}{sp:Nat->Bool}{held:Bool}{H:Type}{enc:TypeId × Value->H}{v:Value}{d:DataW H}{p:List MemPlace}(hs:aggT P T=some true)(hv:Value.okWide P W .any base T v)(h:DataW.Trod enc P W base' sp held T v d p)(hli:Light P T d):∃y,r.ok y/\RV G0 W (.agg ((r.enc y).map .d)) v:=by
 have hcs:∃cs,v=.agg cs:=by
  unfold aggT at hs;unfold Value.okWide at hv;cases hu:P.underlying T with
  | none=>rw[hu] at hs;simp at hs
  | some u =>
   rw[hu] at hs hv;cases u<;>simp at hs hv<;>exact⟨_,hv.choose_spec.1⟩
 obtain⟨cs,rfl⟩:=hcs;obtain⟨fuel,h⟩:=h;obtain⟨y,⟨h1,h2⟩,hok⟩:=r.sound enc W base' sp held fuel _ _ h;refine⟨y,hok hli,?_⟩;simp only[Value.cells] at h1 h2;have:=RV.agg (G:=G0) (w:=W) (cs:=(r.enc y).map .d) (vs:=cs.toList) (by simp[h1]) (fun i g1 g2=>by
  simp only[List.getElem_map];exact .d (h2 i g2 (by simpa using g1)).start) (fun v hv=>by
  obtain⟨i,hi,rfl⟩:=List.getElem_of_mem hv;exact(h2 i hi (by omega)).one)
 simpa using this
theorem Rdr.cell{T:TypeId}{α:Type}(r:Rdr P T α){W:World}{base base':Nat}{sp:Nat->Bool}{held:Bool}{H:Type}{enc:TypeId × Value->H}{v:Value}{d:DataW H}{p:List MemPlace}(f:α->D)(hs:aggT P T=some false)(hf:∀y,r.enc y=[f y])(hv:Value.okWide P W .any base T v)(h:DataW.Trod enc P W base' sp held T v d p)(hli:Light P T d):∃y,r.ok y/\RV G0 W (.d (f y)) v:=by
 obtain⟨fuel,h⟩:=h;obtain⟨y,⟨h1,h2⟩,hok⟩:=r.sound enc W base' sp held fuel _ _ h;refine⟨y,hok hli,?_⟩;rw[hf] at h1;have hcs:v.cells.toList=[v]:=by
  cases v with
  | agg cs =>
   exfalso
   unfold aggT at hs;unfold Value.okWide Cell.okWide Cell.ok at hv;cases hu:P.underlying T with
   | none=>rw[hu] at hs;simp at hs
   | some u =>
    rw[hu] at hs hv;cases u<;>simp_all
  | _=>rfl
 have:=h2 0 (by rw[h1];simp) (by rw[hf];simp)
 simp only[hf,List.getElem_cons_zero] at this;have e:v.cells.toList[0]'(by rw[h1];simp)=v:=by simp[hcs]
 rw[e] at this;exact .d this.start
theorem light_arg{H:Type}{ts:List TypeId}{ds:List (DataW H)}(hz:(DataW.weightsEach P ts ds).all (· <= reachBytes)=true){j:Nat}{T:TypeId}{d:DataW H}(ht:ts[j]?=some T)(hd:ds[j]?=some d):Light P T d :=
 List.all_eq_true.2 fun x hx=>List.all_eq_true.1 hz x (DataW.weights_mem_each ht hd x hx)
theorem arg_agg{ps:Array TypeId}{args:Array Value}{W:World}{base base':Nat}{sp:Nat->Bool}{held:Bool}{H:Type}{enc:TypeId × Value->H}(hval:∀(j:Nat) t v,ps[j]?=some t->args[j]?=some v->Value.okWide P W .any base t v)(j:Nat)(T:TypeId)(v:Value)(hp:ps[j]?=some T)(ha:args[j]?=some v){α:Type}(r:Rdr P T α){d:DataW H}{p:List MemPlace}(hs:aggT P T=some true)(h:DataW.Trod enc P W base' sp held T v d p)(hli:Light P T d):
  ∃y,r.ok y/\RV G0 W (.agg ((r.enc y).map .d)) v:=r.agg hs (hval j T v hp ha) h hli
theorem le_old{W W':World}{G':Gh}(h:Le G0 W G' W')(b:Nat)(hb:b<W.heap.size):W'.heap[b]?=W.heap[b]?:=(h.whole b hb rfl).2
theorem le_kept{W W':World}{G':Gh}(h:Le G0 W G' W')(may:MemPlace->Prop):W.keptBut W' may:=by
 refine⟨h.os,h.output,fun i hi=>?_⟩;rw[le_old h i hi];split
 .rename_i c t fr c' t' fr' e1 e2;rw[e1] at e2;cases e2;exact⟨rfl,rfl,rfl,fun _ _=>rfl⟩
 .rename_i e1 e2;rw[e1] at e2;cases e2;exact .inr ⟨rfl,rfl⟩
 .rfl
theorem le_same{W W':World}{G':Gh}(h:Le G0 W G' W'){p:MemPlace}(hp:p.block<W.heap.size):W.sameAt W' p:=by
 cases p with
 | cell b off=>exact World.cell?_of_block (w:=W) (a:=⟨b,off,none⟩) (le_old h b hp)
 | map b=>exact le_old h b hp
theorem trodAll_stays{H:Type}{enc:TypeId × Value->H}{W W':World}{T:TypeId->Prop}{sp':Nat->Bool}(K:Kids P T)(hsz:∀{t e:TypeId},T t->P.underlying t=some (.slice e)->0<P.cellsOf e):
  ∀{ts:List TypeId} {vs:List Value} {ds:List (DataW H)} {ps:List MemPlace},(∀t∈ts,T t)->DataW.TrodAll enc P W 0 (fun _=>true) true ts vs ds ps->(∀p∈ps,W.sameAt W' p)->(∀p∈ps,sp' p.block=true) ->
  DataW.TrodAll enc P W' 0 sp' true ts vs ds ps
 | [],[],[],_,_,h,_,_=>h
 | t::ts,v::vs,d::ds,_,hT,⟨p,q,⟨n,hn⟩,h2,e⟩,h3,h4=>by
  subst e;exact⟨p,q,⟨n,DataW.trod_stays K hsz (fun h=>by cases h) (hT t (by simp)) hn (fun x hx=>h3 x (by simp[hx])) (fun x hx=>h4 x (by simp[hx]))⟩,
   trodAll_stays K hsz (fun t ht=>hT t (by simp[ht])) h2 (fun x hx=>h3 x (by simp[hx])) (fun x hx=>h4 x (by simp[hx])),rfl⟩
theorem law_of{f:FuncId}{fn:Func}{s:ChangeSpec}{H:Type}{enc:TypeId × Value->H}{W:World}{args:Array Value}{ds:List (DataW H)}{before:List MemPlace}{avs:List AV}{tok':Nat->Bool}{nt':Nat}(hl:laidOutB P=true)(hm:mapsRowed P=true)(hz:((List.range P.types.size).all fun t=>match P.underlying t with|some (.slice e)=>decide (0<P.cellsOf e)|_=>true)=true)(hpar:fn.params.all (· < P.types.size)=true){tb:TypeId}(hres:fn.resultTypes = #[tb])(hb:P.underlying tb=some .bool)(hvars:s.vars=[])(hfn:s.fn H ds={ results:=[.lit (.bool true)],args:=ds })(hW:DataW.Whole enc P fn.params.toList s.vars false W args.toList ds [] before)(hr:RVs G0 W avs args.toList)(hc:DCall P f avs (fun _=>false) 0 (B true) tok' nt')(hgl:GlobOk G0 W:=by intro g cs h;simp[globD] at h):
  Calls P f args W fun e W'=>∃v,e=.returned v/\s.post enc P fn false true false false W args v W':=by
 have hcall:=(hc (fun _=>none) 0).2 G0 W args.toList (relM_start W hgl) hr;simp only[Array.toArray_toList] at hcall;refine hcall.mono ?_;rintro e W' ⟨v,av,m',G',rfl,⟨rfl,rfl⟩,_,_,hv,hle,_⟩;cases hv with
 | d hv =>
  cases hv with
  | raw =>
   refine⟨_,rfl,?_⟩;have hlt:=hW.lt;have hWW:=hW;obtain⟨p,q,hA,hV,rfl,hfz,hnd⟩:=hW;rw[hvars] at hV;obtain⟨_,rfl⟩:=trodVars_none hV;simp only[List.append_nil] at hlt hfz hWW ⊢;have hT:∀t∈fn.params.toList,t<P.types.size:=fun t ht=>by
    have:=Array.all_eq_true_iff_forall_mem.1 hpar t (by simpa using ht)
    simpa using this
   have hsz:∀{t e:TypeId},t<P.types.size->P.underlying t=some (.slice e)->0<P.cellsOf e:=by
    intro t e ht hu;have:=List.all_eq_true.1 hz t (List.mem_range.2 ht)
    rw[hu] at this;simpa using this
   have hargs:∀sp:Nat->Bool,(∀x∈p,sp x.block=true)->DataW.TrodAll enc P W' 0 sp true fn.params.toList args.toList ds p:=fun sp hsp =>
    trodAll_stays (kids_rows hl hm) hsz hT hA (fun x hx=>le_same hle (hlt x hx)) hsp
   have hnat:(Value.bool true).resultList fn.resultTypes.size=[.bool true]:=by rw[hres];rfl
   have hresb:∀(b:Nat) (sp:Nat->Bool) (hd:Bool),DataW.TrodAll enc P W' b sp hd fn.resultTypes.toList ((Value.bool true).resultList fn.resultTypes.size) [.lit (.bool true)] []:=fun b sp hd=>by
    rw[hnat,hres];exact trodAll_mk1 ⟨1,by simp[DataW.trod,hb,Value.cells]⟩
   have hfn':s.fn H (ds++[])={ results:=[.lit (.bool true)],args:=ds }:=by rw[List.append_nil];exact hfn
   refine⟨ds,[],p,[],p,[],hWW,?_,?_,?_,World.keptBut_mono (fun _ f=>f.elim) (le_kept hle fun _=>False),fun h=>by cases h⟩
   .rw[hfn'];exact hresb _ _ _
   .rw[hfn'];exact hargs _ fun x hx=>by simpa using hlt x hx
   .rw[hfn',hvars];exact rfl
theorem own0:ownKnob prog.godebug=none:=by kernel_rfl
theorem laidOut0:laidOutB prog=true:=by kernel_rfl
theorem mapsRowed0:mapsRowed prog=true:=by kernel_rfl
theorem slices0:((List.range prog.types.size).all fun t=>match prog.underlying t with|some (.slice e)=>decide (0<prog.cellsOf e)|_=>true)=true:=by kernel_rfl
structure RdF (P:Program) (T:TypeId) {α:Type} (en:α->List D) (ok:α->Prop) (n:Nat):Prop where
 sound:∀{H:Type} (e:TypeId × Value->H) (w:World) (base:Nat) (spare:Nat->Bool) (held:Bool) (cs:List Value) (x:DataW H × List MemPlace),
  DataW.trod e P w base spare held n T cs=some x->∃y,Rd w cs (en y)/\(Light P T x.1->ok y)
theorem Rdr.f{P:Program}{T:TypeId}{α:Type}(r:Rdr P T α)(n:Nat):RdF P T r.enc r.ok n:=⟨fun e w base spare held cs x hx=>r.sound e w base spare held n cs x hx⟩
theorem RdF.zero{P:Program}{T:TypeId}{α:Type}{en:α->List D}{ok:α->Prop}:RdF P T en ok 0:=⟨fun e w base spare held cs x hx=>by simp[DataW.trod] at hx⟩
def Rdr.ofF{P:Program}{T:TypeId}{α:Type}(en:α->List D)(ok:α->Prop)(len:∀x,(en x).length=P.cellsOf T)(h:∀n,RdF P T en ok n):Rdr P T α:=⟨en,ok,len,fun e w base spare held n cs x hx=>(h n).sound e w base spare held cs x hx⟩
theorem RdF.slice{P:Program}{T E:TypeId}{α:Type}{en:α->List D}{ok:α->Prop}{n:Nat}(r:RdF P E en ok n)(k:Nat)(hk:P.cellsOf E=k)(hlen:∀x,(en x).length=k)(h:P.underlying T=some (.slice E)):
  RdF P T (fun l:List α=>[.sl k (l.map en)]) (fun l=>(∀x∈l,ok x)/\l.length*P.bytesOf E<=reachBytes) (n+1):=by
 subst hk;constructor
 intro H e w base spare held cs x hx;rcases DataW.trod_slice h hx with ⟨rfl,rfl⟩|⟨a,len,cap,elems,rest,n',hn',rfl,rfl,hb,hl,hm,hel,hat,_⟩
 .exact⟨[],Rd.one (.sl (es:=[]) (fun _ _=>default) (nr _) (by decide) (by simp) (by simp) (by simp) (by simp)),fun _=>⟨by simp,by simp⟩⟩
 .obtain rfl:n'=n:=by omega
  have key:∀i (hi:i<elems.length),∃cs y,cs.length=P.cellsOf E/\(∀j (hj:j<cs.length),w.cell? (a.add (i*P.cellsOf E+j))=some cs[j])/\Rd w cs (en y)/\(Light P E elems[i].1->ok y):=by
   intro i hi;have h1:=hat i (by omega);have h2:elems[i]?=some elems[i]:=List.getElem?_eq_getElem hi
   rw[h2,Option.bind_eq_some_iff] at h1;obtain⟨cs,hcs,htr⟩:=h1;obtain⟨hcl,hcc⟩:=cells_spec hcs;obtain⟨y,hy,hok⟩:=r.sound e w base spare held cs _ htr;refine⟨cs,y,hcl,fun j hj=>?_,hy,hok⟩;rw[<-Addr.add_add];exact hcc j hj
  have pick:∀m,m<=elems.length->∃ys:List α,ys.length=m/\(∀i (hi:i<ys.length) (hi2:i<elems.length),∃cs,cs.length=P.cellsOf E/\(∀j (hj:j<cs.length),w.cell? (a.add (i*P.cellsOf E+j))=some cs[j])/\Rd w cs (en ys[i])/\(Light P E elems[i].1->ok ys[i])):=by
   intro m;induction m with
   | zero=>intro _;exact⟨[],rfl,fun i hi=>by simp at hi⟩
   | succ m ih =>
    intro hm';obtain⟨ys,hys,hall⟩:=ih (by omega);obtain⟨cs,y,g1,g2,g3,g4⟩:=key m (by omega);refine⟨ys++[y],by simp[hys],fun i hi hi2=>?_⟩;by_cases him:i<ys.length
    .rw[List.getElem_append_left him];exact hall i him hi2
    .have:i=m:=by simp at hi;omega
     subst this;have e1:(ys++[y])[i]=y:=by
      rw[List.getElem_append_right (by omega)];simp
     rw[e1];exact⟨cs,g1,g2,g3,g4⟩
  obtain⟨ys,hys,hall⟩:=pick elems.length (nr _);refine⟨ys,Rd.one ?_,fun hli=>?_⟩
  .have hlen':len=ys.length:=by omega
   subst hlen';have hml:ys.length=(ys.map en).length:=by simp
   rw[hml];refine .sl (fun i j=>(w.cell? (a.add (i*P.cellsOf E+j))).getD default) (by simpa using hl) hm (fun e he=>?_) (fun _=>⟨a,rfl⟩) (fun a' ha' i j hi hj=>?_) (fun i j hi hj=>?_)
   .obtain⟨y,_,rfl⟩:=List.mem_map.1 he;exact hlen y
   .cases ha'
    obtain⟨cs,g1,g2,_⟩:=hall i (by simpa using hi) (by simp at hi;omega);rw[g2 j (by omega)];exact⟨trivial,rfl⟩
   .obtain⟨cs,g1,g2,g3,_⟩:=hall i (by simpa using hi) (by simp at hi;omega);simp only[List.getElem_map] at hj ⊢;have hjc:j<cs.length:=by rw[g3.1];exact hj
    rw[g2 j hjc];exact g3.2 j hjc hj
  .obtain⟨w1,w2⟩:=light_slice h hli;refine⟨fun y hy=>?_,by simpa[hys] using w1⟩;obtain⟨i,hi,rfl⟩:=List.getElem_of_mem hy;obtain⟨_,_,_,_,h4⟩:=hall i hi (by omega);exact h4 (w2 _ (List.mem_map.2 ⟨_,List.getElem_mem _,rfl⟩))
structure Gr.Big (g:Gr):Prop where
 n:g.nodes.length<=bigN
 e:g.edges.length<=bigN
def Rdr.arr3{P:Program}{T A:TypeId}{α:Type}(r:Rdr P A α)(h:P.underlying T=some (.array 3 A))(hc:P.cellsOf T=P.cellsOf A+P.cellsOf A+P.cellsOf A):Rdr P T (α × α × α) where
 enc x:=r.enc x.1++(r.enc x.2.1++r.enc x.2.2)
 ok x:=r.ok x.1/\r.ok x.2.1/\r.ok x.2.2
 len x:=by simp[r.len,hc];omega
 sound e w base spare held fuel cs x hx:=by
  obtain⟨xs,n,rfl,rfl,hl,hxs,hat⟩:=DataW.trod_array h hx;have g0:=hat 0 (by decide);have g1:=hat 1 (by decide);have g2:=hat 2 (by decide);have e0:xs[0]?=some (xs[0]'(by omega)):=List.getElem?_eq_getElem (by omega)
  have e1:xs[1]?=some (xs[1]'(by omega)):=List.getElem?_eq_getElem (by omega)
  have e2:xs[2]?=some (xs[2]'(by omega)):=List.getElem?_eq_getElem (by omega)
  rw[e0,Nat.zero_mul] at g0;rw[e1,Nat.one_mul] at g1;rw[e2,show 2*P.cellsOf A=P.cellsOf A+P.cellsOf A by omega] at g2;obtain⟨y,k1,k2⟩:=r.sound e w base spare held n _ _ g0;obtain⟨z,m1,m2⟩:=r.sound e w base spare held n _ _ g1;obtain⟨q,p1,p2⟩:=r.sound e w base spare held n _ _ g2;refine⟨(y,z,q),?_,fun hli=>?_⟩
  rotate_left
  .unfold Light at hli k2 m2 p2;have e2:xs=[xs[0]'(by omega),xs[1]'(by omega),xs[2]'(by omega)]:=list3 hxs
   rw[e2] at hli;simp only[List.map_cons,List.map_nil,DataW.weights,h,DataW.weightsAll,List.all_append,Bool.and_eq_true] at hli;exact⟨k2 hli.1,m2 hli.2.1,p2 hli.2.2.1⟩
  have hcs:cs=(cs.drop 0).take (P.cellsOf A)++((cs.drop (P.cellsOf A)).take (P.cellsOf A)++(cs.drop (P.cellsOf A+P.cellsOf A)).take (P.cellsOf A)):=by
   have:(cs.drop (P.cellsOf A+P.cellsOf A)).take (P.cellsOf A)=cs.drop (P.cellsOf A+P.cellsOf A):=List.take_of_length_le (by simp;omega)
   rw[this,<-List.drop_drop,List.take_append_drop,List.drop_zero,List.take_append_drop]
  rw[hcs];exact k1.append (m1.append p1)
def rdB:Rdr prog 5 Int:=Rdr.int (k:=.u8) underlying5 (by kernel_rfl)
theorem rdB_ok{n:Int}(h:(Lit.int .u8 n).wf=true):0<=n/\n<256:=by
 simp[Lit.wf,IntKind.min,IntKind.max,IntKind.signed,IntKind.bits] at h;omega
def rdBs:Rdr prog 56 (List Int):=rdB.sliceN 1 underlying56 (by kernel_rfl) (by kernel_rfl)
theorem rdBs_ok{l:List Int}(h:rdBs.ok l):U8s l:=fun c hc=>rdB_ok (h.1 c hc)
def rdB3:Rdr prog 170 (Int × Int × Int):=rdB.arr3 underlying170 (by kernel_rfl)
def rdB3s:Rdr prog 57 (List (Int × Int × Int)):=rdB3.sliceN 3 underlying57 (by kernel_rfl) (by kernel_rfl)
abbrev Ch.cells(x:Ch):List D:=[.sl 1 (x.a.nodes.map fun n=>[u8 n]),.sl 3 (x.a.edges.map fun e=>[u8 e.1,u8 e.2.1,u8 e.2.2]),bytes x.b,bytes x.g,bytes x.c]
def Rdr.str{P:Program}{T:TypeId}(h:P.underlying T=some .string)(hc:P.cellsOf T=1):Rdr P T ByteArray where
 enc n:=[.raw (.string n)]
 ok n:=n.size<=maxLen
 len _:=by simp[hc]
 sound e w base spare held fuel cs x hx:=by
  cases fuel with
  | zero=>simp[DataW.trod] at hx
  | succ n =>
   unfold DataW.trod at hx;rw[h] at hx;split at hx<;>simp_all
   exact⟨_,Rd.one (.raw rfl),fun _=>hx.1⟩
def Rdr.bool{P:Program}{T:TypeId}(h:P.underlying T=some .bool)(hc:P.cellsOf T=1):Rdr P T Bool where
 enc n:=[.raw (.bool n)]
 ok n:=True
 len _:=by simp[hc]
 sound e w base spare held fuel cs x hx:=by
  cases fuel with
  | zero=>simp[DataW.trod] at hx
  | succ n =>
   unfold DataW.trod at hx;rw[h] at hx;split at hx<;>first|(simp_all;done)|skip
   exact⟨_,Rd.one (.raw rfl),fun _=>trivial⟩
structure Dx where
 left:Dr
 keep:Int
 more:List Int
structure Dx.U8 (x:Dx):Prop where
 l:x.left.U8
 m:U8s x.more
 ml:x.more.length<=200000000000000
 nl:x.left.nodes.length<=200000000000000
 el:x.left.edges.length<=200000000000000
structure Scn where
 r:Dx
 codes:List Int
 more:List Int
structure Scn.U8 (x:Scn):Prop where
 r:x.r.U8
 c:U8s x.codes
 m:U8s x.more
 ml:x.more.length<=200000000000000
abbrev u64(n:Int):D:=.raw (.int .u64 n)
abbrev Dx.cells(x:Dx):List D:=[.sl 1 (x.left.nodes.map fun n=>[u8 n]),.sl 3 (x.left.edges.map fun e=>[u8 e.1,u8 e.2.1,u8 e.2.2]),u64 x.keep,bytes x.more]
abbrev Scn.cells(x:Scn):List D:=[.sl 1 (x.r.left.nodes.map fun n=>[u8 n]),.sl 3 (x.r.left.edges.map fun e=>[u8 e.1,u8 e.2.1,u8 e.2.2]),u64 x.r.keep,bytes x.r.more,bytes x.codes,bytes x.more]
abbrev Dx.av(x:Dx):AV:=.agg [.d (.sl 1 (x.left.nodes.map fun n=>[u8 n])),.d (.sl 3 (x.left.edges.map fun e=>[u8 e.1,u8 e.2.1,u8 e.2.2])),.d (u64 x.keep),.d (bytes x.more)]
abbrev Scn.av(x:Scn):AV:=.agg [.d (.sl 1 (x.r.left.nodes.map fun n=>[u8 n])),.d (.sl 3 (x.r.left.edges.map fun e=>[u8 e.1,u8 e.2.1,u8 e.2.2])),.d (u64 x.r.keep),.d (bytes x.r.more),.d (bytes x.codes),.d (bytes x.more)]
def rdU64:Rdr prog 58 Int:=Rdr.int (k:=.u64) underlying58 (by kernel_rfl)
theorem by_u8:prog.bytesOf 5=1:=by kernel_rfl
theorem by_u83:prog.bytesOf 170=3:=by kernel_rfl
theorem rdBs_len{l:List Int}(h:rdBs.ok l):l.length<=200000000000000:=by
 have h2:l.length*prog.bytesOf 5<=reachBytes:=h.2
 rw[by_u8] at h2;have:reachBytes=140737488351232:=rfl
 omega
theorem rdB3s_len{l:List (Int × Int × Int)}(h:rdB3s.ok l):l.length<=200000000000000:=by
 have h2:l.length*prog.bytesOf 170<=reachBytes:=h.2
 rw[by_u83] at h2;have:reachBytes=140737488351232:=rfl
 omega
def bitV(S:Int)(j:Nat):Bool:=(IntKind.u64.wrap ((((S.fdiv (2 ^ min (((j:Int) % 64)).toNat IntKind.u64.bits) % 2 ^ IntKind.u64.bits).toNat &&& (1 % 2 ^ IntKind.u64.bits):Nat):Int))==1)
def Dx.dr(x:Dx):Dr:=⟨x.left.nodes.take (min x.left.nodes.length 3),x.left.edges.take (min x.left.edges.length 3)⟩
def Dx.g(x:Dx):Gr:=madeG x.dr
def mad7(g:Gr)(S:Int):Mo:=lstP g (bitV S) (fun j=>bitV S (g.nodes.length+j))
def Dx.k(x:Dx):Mo:=mad7 x.g x.keep
def Dx.cs(x:Dx):List Int:=255::x.more.take (min x.more.length 6)
def Dx.right(x:Dx):Gr:=gwG (exG x.g x.k) x.cs
def Dx.sp(x:Dx):Sp:=⟨x.g,x.right,x.k,idM (exG x.g x.k)⟩
def scS(g:Gr)(a b c:Int):Gr :=
 ⟨if a % 2=0 then g.nodes++[b % 3] else g.nodes,if 0<(if a % 2=0 then g.nodes++[b % 3] else g.nodes).length/\0<a % 3 then g.edges++[⟨a / 8 % 2,b / 4 % (if a % 2=0 then g.nodes++[b % 3] else g.nodes).length,c % (if a % 2=0 then g.nodes++[b % 3] else g.nodes).length⟩] else g.edges⟩
def scK(g:Gr)(cs:List Int):Nat->Gr
 | 0=>g
 | j+1=>scS (scK g cs j) (cs.getD (3*j) 0) (cs.getD (3*j+1) 0) (cs.getD (3*j+2) 0)
def scN(cs:List Int):Nat:=min 3 (cs.length / 3)
def Scn.g(x:Scn):Gr:=scK x.r.g x.more (scN x.more)
structure Dx.Ok (x:Dx):Prop where
 v:vG x.g=0
 i:InK x.g
 n:x.g.nodes.length<=3
 e:x.g.edges.length<=3
 k:VP x.g x.k
 w:Gw (exG x.g x.k) x.right 4 8
theorem Dx.U8.dr{x:Dx}(h:x.U8):x.dr.U8:=⟨fun k hk=>h.l.n k (List.mem_of_mem_take hk),fun k hk=>h.l.e k (List.mem_of_mem_take hk)⟩
theorem Dx.U8.cs{x:Dx}(h:x.U8):U8s x.cs:=fun k hk=>by
 rcases List.mem_cons.1 hk with rfl|hk
 .exact⟨by decide,by decide⟩
 .exact h.m k (List.mem_of_mem_take hk)
theorem Dx.ok{x:Dx}(h:x.U8):x.Ok:=by
 have hv:=madeG_valid h.dr;have hl:x.g.nodes.length<=3/\x.g.edges.length<=3:=by
  refine⟨by simp only[Dx.g,Dx.dr,madeG,mN_len,List.length_take];omega,?_⟩;have hl:x.dr.edges.length<=3:=by simp only[Dx.dr,List.length_take];omega
  simp only[Dx.g,madeG];by_cases h0:x.dr.nodes.length=0
  .rw[if_pos h0];simp
  .rw[if_neg h0];simp only[mE_len];omega
 exact⟨hv,madeG_in _,hl.1,hl.2,lstP_vp hv,gwG_gw _ _⟩
theorem emb_lenB{a b:Gr}{m:Mo}(h:Emb a b m):a.nodes.length<=b.nodes.length/\a.edges.length<=b.edges.length:=by
 have v:=h.vm;have key:∀(l:List Int) (n:Nat),l.Nodup->(∀x∈l,0<=x/\x<n)->l.length<=n:=fun l n hn hr=>by
  have:=nodup_subL (M:=iota n) hn fun x hx=>by
   have:=hr x hx
   have e:((x.toNat:Nat):Int)=x:=by omega
   rw[<-e];exact iota_memB (by omega)
  rwa [iota_length] at this
 exact⟨by rw[<-v.ln];exact key _ _ h.n v.n,by rw[<-v.le];exact key _ _ h.e v.e⟩
theorem emb_lg{t:Ty}{a b:Gr}{m:Mo}(hb:Lg t b)(h:Emb a b m):Lg t a:=by
 have v:=h.vm;obtain⟨l1,l2⟩:=emb_lenB h;have hn:=hb.n;have he:=hb.e;have nd:∀i,i<a.nodes.length->(m.nodes.getD i 0).toNat<b.nodes.length/\b.nodes.getD (m.nodes.getD i 0).toNat 0=a.nodes.getD i 0:=fun i hi=>by
  have:=v.n _ (getD_memI (l:=m.nodes) (by rw[v.ln];exact hi))
  exact⟨by omega,v.nt i hi⟩
 refine⟨hb.ty,by omega,by omega,fun x hx=>?_,fun e hm=>?_⟩
 .obtain⟨i,hi,e⟩:=List.getElem_of_mem hx;obtain⟨a1,a2⟩:=nd i hi;have e2:a.nodes.getD i 0=x:=by simp[hi,e]
  rw[<-e2,<-a2];exact hb.lf _ (getD_memI a1)
 .obtain⟨i,hi,e1⟩:=List.getElem_of_mem hm;have hx:=validG_edges v.va e hm;have e2:a.edges.getD i default=e:=by simp[hi,e1]
  have h3:=v.et i hi;rw[e2] at h3;have hmr:=v.e _ (getD_memI (l:=m.edges) (by rw[v.le];exact hi));have hmem:b.edges.getD (m.edges.getD i 0).toNat default∈b.edges:=by
   rw[List.getD_eq_getElem?_getD,List.getElem?_eq_getElem (by omega),Option.getD_some];exact List.getElem_mem _
  have hf:=(hb.fr _ hmem).2.2;rw[h3] at hf;simp only at hf;obtain⟨x1,x2,x3,x4⟩:=hx;have g1:=(nd e.fr.toNat (by omega)).2;have g2:=(nd e.to.toNat (by omega)).2;rw[g1,g2] at hf;exact⟨⟨x1,x2⟩,⟨x3,x4⟩,hf⟩
theorem lgR_lgm{t:Ty}(h0:tyE t=0){ns:List Int}{es:List (Int × Int × Int)}(h3:U83 es){most:Nat}(hm:most<=6):Lg t (lgR t ns es most)/\(lgR t ns es most).nodes.length<=most/\(lgR t ns es most).edges.length<=es.length:=by
 have hp:=lfs_pos h0;obtain⟨N,hN⟩:∃N,lgN (lfs t) ns most=N:=⟨_,rfl⟩
 have hG:lgR t ns es most=⟨N,lgE t N es (lgJ t N es)⟩:=by unfold lgR;rw[hN]
 rw[hG];have hJ:lgJ t N es<=8/\lgJ t N es<=es.length:=by unfold lgJ;split<;>omega
 have hNl:N.length<=most:=by rw[<-hN];unfold lgN;rw[List.length_map,List.length_take];omega
 have hEl:(lgE t N es (lgJ t N es)).length<=lgJ t N es:=by
  unfold lgE;refine Nat.le_trans (List.length_filter_le _ _) ?_;rw[List.length_map,List.length_take];omega
 refine⟨⟨h0,?_,?_,fun x hx=>?_,fun e he=>?_⟩,hNl,by show (lgE t N es (lgJ t N es)).length<=_;omega⟩
 .show N.length<=6;omega
 .show (lgE t N es (lgJ t N es)).length<=8;omega
 .have hx:x∈N:=hx
  rw[<-hN] at hx;unfold lgN at hx;obtain⟨y,hy,rfl⟩:=List.mem_map.1 hx;exact lfs_mem.1 (getD_memI (Nat.mod_lt _ hp))
 .have he:e∈lgE t N es (lgJ t N es):=he
  unfold lgE at he;obtain⟨a,b⟩:=List.mem_filter.1 he;obtain⟨y,hy,rfl⟩:=List.mem_map.1 a;have hpos:0<N.length:=by
   unfold lgJ at hy;split at hy
   .rename_i h;exact h.1
   .simp at hy
  have e5:=Int.emod_nonneg y.2.1 (b:=(N.length:Int)) (by omega);have e6:=Int.emod_lt_of_pos y.2.1 (b:=(N.length:Int)) (by omega);have e7:=Int.emod_nonneg y.2.2 (b:=(N.length:Int)) (by omega);have e8:=Int.emod_lt_of_pos y.2.2 (b:=(N.length:Int)) (by omega);exact⟨⟨e5,e6⟩,⟨e7,e8⟩,b⟩
def moX(te n:Nat)(cs:List Int)(q:Nat):E:=⟨cs.getD (2*q) 0 % te,cs.getD (2*q) 0 / 8 % n,cs.getD (2*q+1) 0 % n⟩
def moE(t:Ty)(N:List Int)(cs:List Int)(j:Nat):List E:=((List.range j).map (moX t.edges.length N.length cs)).filter (lgOk t N)
def moJ(t:Ty)(N:List Int)(cs:List Int):Nat:=if 0<N.length/\0<t.edges.length then min 3 (cs.length / 2) else 0
def moNs(t:Ty)(g:Gr)(cs:List Int):List Int:=g.nodes++lgN (lfs t) cs (min cs.length 2)
def moG(t:Ty)(g:Gr)(cs:List Int):Gr:=⟨moNs t g cs,g.edges++moE t (moNs t g cs) cs (moJ t (moNs t g cs) cs)⟩
def mkNm:ByteArray:=⟨#[109,97,100,101]⟩
def mkCg(t:Ty)(ns:List Int)(es:List (Int × Int × Int)):Gr:=⟨(lgR t ns es 3).nodes,(lgR t ns es 3).edges.take 4⟩
def mkXt(t:Ty)(g:Gr)(cs:List Int):Xt:=⟨idM g,moG t g cs⟩
def mkCo(t:Ty)(ns:List Int)(es:List (Int × Int × Int))(xs:List (List Int)):Co:=⟨mkNm,if xs=[] then 1 else 2,mkCg t ns es,(xs.take 3).map (mkXt t (mkCg t ns es))⟩
def scL(t:Ty)(ns:List Int)(es:List (Int × Int × Int)):Gr:=lgR t ns es 3
def scRu(t:Ty)(ns:List Int)(es:List (Int × Int × Int))(S:Int)(more:List Int):Ru :=
 ⟨⟨#[114]⟩,scL t ns es,[],0,[],moG t (exG (scL t ns es) (mad7 (scL t ns es) S)) more,[],0,[],mad7 (scL t ns es) S,idM (exG (scL t ns es) (mad7 (scL t ns es) S)),true,cdOf 1 []⟩
theorem moG_nil(t:Ty)(g:Gr):moG t g []=g:=by
 have h1:moNs t g []=g.nodes:=by simp[moNs,lgN]
 have h2:moJ t g.nodes []=0:=by unfold moJ;split<;>simp
 unfold moG;rw[h1,h2];simp[moE]
theorem mkCg_lg{t:Ty}(h0:tyE t=0){ns:List Int}{es:List (Int × Int × Int)}(h3:U83 es):Lg t (mkCg t ns es)/\(mkCg t ns es).nodes.length<=3:=by
 obtain⟨h,hn,_⟩:=lgR_lgm (ns:=ns) h0 h3 (show 3<=6 by decide);refine⟨⟨h0,h.n,?_,h.lf,fun e he=>h.fr e (List.mem_of_mem_take he)⟩,hn⟩;show ((lgR t ns es 3).edges.take 4).length<=8
 rw[List.length_take];omega
theorem made_nm:nameB mkNm=true:=by decide
theorem nothing_law{t:Ty}(ht:tyE t=0){ns cn:List Int}{es ce:List (Int × Int × Int)}{S:Int}(h3:U83 es)(h4:U83 ce)(he:es.length<=4)(hs:(mkCg t cn ce).edges.length<=2):
  waysR t (scRu t ns es S []) (mkCo t cn ce [])=([],0)/\presR t (scRu t ns es S []) (mkCo t cn ce [])=(cdOf 1 [],0):=by
 obtain⟨hL,hn,hel⟩:=lgR_lgm (ns:=ns) ht h3 (show 3<=6 by decide);obtain⟨hC,hcn⟩:=mkCg_lg (ns:=cn) ht h4;have hL:Lg t (scL t ns es):=hL
 have hn:(scL t ns es).nodes.length<=3:=hn
 have hel:(scL t ns es).edges.length<=es.length:=hel
 have hvp:VP (scL t ns es) (mad7 (scL t ns es) S):=lstP_vp hL.valid
 have hem:=hvp.emb;have hK:=emb_lg hL hem;obtain⟨k1,k2⟩:=emb_lenB hem;obtain⟨K,hKe⟩:∃K,exG (scL t ns es) (mad7 (scL t ns es) S)=K:=⟨_,rfl⟩
 have hru:scRu t ns es S []=⟨⟨#[114]⟩,scL t ns es,[],0,[],K,[],0,[],mad7 (scL t ns es) S,idM K,true,cdOf 1 []⟩:=by
  unfold scRu;rw[hKe,moG_nil]
 rw[hKe] at hK k1 k2;have hco:mkCo t cn ce []=⟨mkNm,1,mkCg t cn ce,[]⟩:=rfl
 rw[hru,hco];have hid:Emb K K (idM K):=Pre.emb ⟨hK.valid,hK.valid,⟨[],by simp⟩,⟨[],by simp⟩⟩
 have hstr:strR ⟨⟨#[114]⟩,scL t ns es,[],0,[],K,[],0,[],mad7 (scL t ns es) S,idM K,true,cdOf 1 []⟩=0:=by
  unfold strR;simp only;rw[hKe,if_neg (by simp[hL.valid]),if_neg (by simp[hK.valid]),if_neg (by simp[hvp.v]),if_neg (by simp[hid.v]),if_neg (by simp[hid.inj]),if_pos];exact⟨⟨rfl,rfl⟩,⟨rfl,rfl⟩,trivial⟩
 have hcnE:cnE t ⟨mkNm,1,mkCg t cn ce,[]⟩=0:=by
  have hshp:shpE ⟨mkNm,1,mkCg t cn ce,[]⟩=0:=by
   unfold shpE;rw[if_neg (by simp[made_nm]),if_neg (by simp[kdE]),if_neg (by simp[hC.valid]),if_neg (by simp[hC.small])];rfl
  have hlv:lvX t ⟨mkNm,1,mkCg t cn ce,[]⟩=true:=by
   unfold lvX;rw[if_pos hC.leaves];rfl
  unfold cnE;rw[if_neg (by simp[ht]),if_neg (by simp[hshp]),if_pos hlv]
 have hgiv:givP t ⟨⟨#[114]⟩,scL t ns es,[],0,[],K,[],0,[],mad7 (scL t ns es) S,idM K,true,cdOf 1 []⟩ ⟨mkNm,1,mkCg t cn ce,[]⟩=0:=by
  unfold givP;rw[if_neg (by simp[ht]),if_neg (by simp[hstr]),if_pos hL.leaves,if_pos hK.leaves,hcnE]
 exact no_ways hgiv rfl rfl hK.valid hC.valid (by simp only;omega) (by simp only;omega) hcn hs
theorem moE_succ{t:Ty}{N cs:List Int}{j:Nat}:moE t N cs (j+1)=moE t N cs j++(if lgOk t N (moX t.edges.length N.length cs j)=true then [moX t.edges.length N.length cs j] else []):=by
 unfold moE;rw[List.range_succ,List.map_append,List.filter_append];congr 1
 by_cases h:lgOk t N (moX t.edges.length N.length cs j)=true<;>simp[h]
theorem moE_len(t:Ty)(N cs:List Int)(j:Nat):(moE t N cs j).length<=j:=by
 unfold moE;refine Nat.le_trans (List.length_filter_le _ _) ?_;rw[List.length_map,List.length_range];exact nr _
theorem lgR_none(t:Ty)(ns:List Int)(most:Nat):lgR t ns [] most=⟨lgN (lfs t) ns most,[]⟩:=by
 unfold lgR;have h:∀N:List Int,lgJ t N []=0:=fun N=>by unfold lgJ;split<;>simp
 rw[h];simp[lgE]
def stMore(t:Ty)(g:Gr)(N:List Int)(cs:List Int)(nb:Nat)(box:Bxs)(x:Acc):AS :=
 ⟨tl [(10,I (2*x.i:Nat)),(2,.d (bytes cs)),(9,.ptr (nb+9) 0 0),(7,.ptr (nb+7) 0 0),(6,.ptr (nb+6) 0 0),(4,.ptr (nb+4) 0 0),(3,.ptr (nb+3) 0 0)],lb nb box [(9,[[.d (ints N),.osl 3 (rE (g.edges++moE t N cs x.i)) x.own]]),(7,[[nilS,nilS]]),(6,[[nilS,nilS]]),(4,[[.d (ints g.nodes),.d (AM.edges g.edges)]]),(3,[[.d (nts t.nodes),.d (ets t.edges)]])],x.tok,x.nt⟩
set_option maxRecDepth 100000 in
theorem more_c(t:Ty)(ht:t.Fit)(hL:0<(lfs t).length)(g:Gr)(hg:g.nodes.length<=1000/\g.edges.length<=1000)(cs:List Int)(h8:U8s cs)(hcs:cs.length<=1000):DC 55 [t.av,g.av,.d (bytes cs)] (.tup [(moG t g cs).av,(idM g).av]):=by
 intro tok nt box nb;have htn:=ht.n;have hte:=ht.e;have hlg:=leafG_c t ht hL cs h8 (by omega) [] (fun x hx=>by simp at hx) (by simp) (min cs.length 2) (by omega);rw[lgR_none] at hlg;have hf:=fits04_c t ht;have ho:=of_c g ⟨by omega,by omega⟩;have hln:=lgN_len (lfs t) cs (min cs.length 2);have hN:moNs t g cs=g.nodes++lgN (lfs t) cs (min cs.length 2):=rfl
 have hG:moG t g cs=⟨moNs t g cs,g.edges++moE t (moNs t g cs) cs (moJ t (moNs t g cs) cs)⟩:=rfl
 refine sI func55 ntmps55 fun Hb Ht=>?_
 have hmn:min (cs.length:Int) 2=((min cs.length 2:Nat):Int):=by omega
 repeat first|simp|refine sR ?_
 rw[hmn];refine Stop.sub (args':=[t.av,.d (bytes cs),.d (b3s []),I (min cs.length 2:Nat)]) ⟨Sub.refl _,Sub.refl _,Sub.nil _ _ _,Sub.refl _,trivial⟩ ?_;refine sD (hlg _ _) ?_;simp;refine sR ?_;simp;refine⟨by omega,⟨by omega,by rw[uS]⟩,by omega,?_⟩;refine sN ?_;refine sR ?_;simp;refine sN ?_;have hNl:(moNs t g cs).length<=1002:=by rw[hN,List.length_append];omega
 have hU:∀x∈cs,0<=x/\x<256:=h8
 rw[hG];obtain⟨R,hR⟩:∃R,moE t (moNs t g cs) cs (moJ t (moNs t g cs) cs)=R:=⟨_,rfl⟩
 rw[hR];have e0:List.map (fun n=>[D.raw (Value.int IntKind.i64 n)]) g.nodes++List.map (fun n=>[D.raw (Value.int IntKind.i64 n)]) (lgN (lfs t) cs (min cs.length 2))=rI (moNs t g cs):=by rw[hN];simp[rI]
 rw[e0];generalize moNs t g cs=N at *;refine sL (stMore t g N cs nb box) (fun x=>x.i<=moJ t N cs/\TK tok nt x.tok x.nt [x.own]) (fun x=>moJ t N cs-x.i) ⟨0,.tok (nt+2),_,_⟩ ⟨Nat.zero_le _,((((TK.start Ht).full.app).app).tail).full.app⟩ (wM (((((TK.start Ht).full.app).app).tail).full.app).le rfl (by simp[ToL,lk,moE]) (by simp[BoxL,lk,moE])) ?_;rintro⟨i,own,tok2,nt2⟩ S ⟨hi,htk⟩ hS;obtain⟨k,hk⟩:∃k:Nat,2*i=k:=⟨_,rfl⟩
 simp only[stMore] at hS hi htk;rw[hk] at hS;subst hS;have hJ:moJ t N cs<=3:=by unfold moJ;split<;>omega
 have w1:=sW (i:=k) (by omega);have w2:IntKind.i64.wrap (↑k+2)=((k+2:Nat):Int):=by rw[wrap_in (by omega) (by omega)];rfl
 by_cases hlk:i<moJ t N cs
 .have hJ2:moJ t N cs=min 3 (cs.length / 2)/\0<N.length/\0<t.edges.length:=by
   unfold moJ at hlk ⊢;split at hlk
   .rename_i h;rw[if_pos h];exact⟨rfl,h⟩
   .omega
  obtain⟨hJ3,n0,t0⟩:=hJ2;have g1:k+1<cs.length:=by omega
  have g2:k<cs.length:=by omega
  have g3:(k:Int)<6:=by omega
  have g4:(k:Int)+1<(cs.length:Int):=by omega
  have g5:0<=(k:Int)+1:=by omega
  have hs:=moE_succ (t:=t) (N:=N) (cs:=cs) (j:=i);have hle:=moE_len t N cs i;obtain⟨a,ha⟩:∃a,cs[k]=a:=⟨_,rfl⟩
  obtain⟨b,hb⟩:∃b,cs[k+1]=b:=⟨_,rfl⟩
  obtain⟨a1,a2⟩:=hU _ (List.getElem_mem g2);obtain⟨b1,b2⟩:=hU _ (List.getElem_mem g1);rw[ha] at a1 a2;rw[hb] at b1 b2;have e1:IntKind.i64.wrap a=a:=wrap_in (by omega) (by omega)
  have e2:IntKind.i64.wrap b=b:=wrap_in (by omega) (by omega)
  have d1:a.tdiv 8=a / 8:=Int.tdiv_eq_ediv_of_nonneg a1
  have d2:IntKind.u8.wrap (a / 8)=a / 8:=by simp[IntKind.wrap,IntKind.signed,IntKind.bits];omega
  have d3:IntKind.i64.wrap (a / 8)=a / 8:=wrap_in (by omega) (by omega)
  have m1:a.tmod (t.edges.length:Int)=a % (t.edges.length:Int):=Int.tmod_eq_emod_of_nonneg a1
  have m2:(a / 8).tmod (N.length:Int)=a / 8 % (N.length:Int):=Int.tmod_eq_emod_of_nonneg (by omega)
  have m3:b.tmod (N.length:Int)=b % (N.length:Int):=Int.tmod_eq_emod_of_nonneg b1
  have q1:=Int.emod_nonneg a (b:=(t.edges.length:Int)) (by omega);have q2:=Int.emod_lt_of_pos a (b:=(t.edges.length:Int)) (by omega);have q3:=Int.emod_nonneg (a / 8) (b:=(N.length:Int)) (by omega);have q4:=Int.emod_lt_of_pos (a / 8) (b:=(N.length:Int)) (by omega);have q5:=Int.emod_nonneg b (b:=(N.length:Int)) (by omega);have q6:=Int.emod_lt_of_pos b (b:=(N.length:Int)) (by omega);obtain⟨y,hy⟩:∃y,moX t.edges.length N.length cs i=y:=⟨_,rfl⟩
  have c1:cs.getD (2*i) 0=a:=by rw[hk];simp[g2,ha]
  have c2:cs.getD (2*i+1) 0=b:=by rw[hk];simp[g1,hb]
  have y1:a % (t.edges.length:Int)=y.ty:=by rw[<-hy,<-c1];rfl
  have y2:a / 8 % (N.length:Int)=y.fr:=by rw[<-hy,<-c1];rfl
  have y3:b % (N.length:Int)=y.to:=by rw[<-hy,<-c2];rfl
  rw[y1] at q1 q2 m1;rw[y2] at q3 q4 m2;rw[y3] at q5 q6 m3;rw[hy] at hs;have v1:IntKind.i64.wrap y.ty=y.ty:=wrap_in (by omega) (by omega)
  have v2:IntKind.i64.wrap y.fr=y.fr:=wrap_in (by omega) (by omega)
  have v3:IntKind.i64.wrap y.to=y.to:=wrap_in (by omega) (by omega)
  have ne1:N≠[]:=fun h=>by rw[h] at n0;simp at n0
  have ne2:t.edges≠[]:=fun h=>by rw[h] at t0;simp at t0
  have u1:y.fr.toNat<N.length:=by omega
  have u2:y.to.toNat<N.length:=by omega
  have hok:lgOk t N y=fitB t y.ty N[y.fr.toNat] N[y.to.toNat]:=by unfold lgOk;simp[u1,u2]
  have hf:=hf y.ty N[y.fr.toNat] N[y.to.toNat];rw[hok] at hs;try (simp[w1,w2,g1,g2,g3,g4,g5,n0,t0,ha,hb,e1,e2,d1,d2,d3,m1,m2,m3,v1,v2,v3,ne1,ne2,u1,u2,q3,q4,q5,q6])
  repeat (first|(refine sR ?_;simp[w1,w2,g1,g2,g3,g4,g5,n0,t0,ha,hb,e1,e2,d1,d2,d3,m1,m2,m3,v1,v2,v3,ne1,ne2,u1,u2,q3,q4,q5,q6])|(refine sC ?_;simp[w1,w2,g1,g2,g3,g4,g5,n0,t0,ha,hb,e1,e2,d1,d2,d3,m1,m2,m3,v1,v2,v3,ne1,ne2,u1,u2,q3,q4,q5,q6])|(refine sX ?_;simp only[AU,↓reduceIte]))
  refine sD (hf _ _) ?_;simp;have hx5:2*(i+1)=k+2:=by omega
  cases ef:fitB t y.ty N[y.fr.toNat] N[y.to.toNat]
  .simp only[ef,Bool.false_eq_true,if_false,List.append_nil] at hs;try (simp[w2])
   repeat (first|(refine sR ?_;simp[w2])|(refine sC ?_;simp[w2])|(refine sX ?_;simp only[AU,↓reduceIte]))
   refine sE ?_;exact⟨⟨i+1,_,_,_⟩,⟨hlk,htk⟩,by simp only;omega,wM htk.le rfl (by simp[ToL,lk,hx5]) (by simp[BoxL,lk,hs])⟩
  .simp only[ef,if_true] at hs;try (simp[w2])
   repeat (first|(refine sR ?_;simp[w2])|(refine sC ?_;simp[w2])|(refine sX ?_;simp only[AU,↓reduceIte]))
   refine⟨⟨by omega,htk.live⟩,?_⟩;try (simp[w2])
   repeat (first|(refine sR ?_;simp[w2])|(refine sC ?_;simp[w2])|(refine sX ?_;simp only[AU,↓reduceIte]))
   refine sE ?_;exact⟨⟨i+1,_,_,_⟩,⟨hlk,htk.app⟩,by simp only;omega,wM htk.app.le rfl (by simp[ToL,lk,hx5]) (by simp[BoxL,lk,hs])⟩
 .have hkm:i=moJ t N cs:=by omega
  have hcs:¬(k:Int)+1<cs.length∨((k:Int)+1<cs.length/\¬(k:Int)<6)∨((k:Int)+1<cs.length/\(k:Int)<6/\¬0<N.length)∨((k:Int)+1<cs.length/\(k:Int)<6/\0<N.length/\¬0<t.edges.length):=by
   unfold moJ at hkm;split at hkm<;>omega
  have hR2:moE t N cs i=R:=by rw[hkm];exact hR
  have hle:=moE_len t N cs i;rw[hR2];rw[hR2] at hle;have n0:0<=(N.length:Int):=by omega
  rcases hcs with h1|⟨h1,h2⟩|⟨h1,h2,h3⟩|⟨h1,h2,h3,h4⟩
  case' inl =>
   try (simp[w1,h1])
   repeat (first|(refine sR ?_;simp[w1,h1])|(refine sC ?_;simp[w1,h1])|(refine sX ?_;simp only[AU,↓reduceIte]))
  case' inr.inl =>
   try (simp[w1,h1,h2])
   repeat (first|(refine sR ?_;simp[w1,h1,h2])|(refine sC ?_;simp[w1,h1,h2])|(refine sX ?_;simp only[AU,↓reduceIte]))
  case' inr.inr.inl =>
   have h5:N=[]:=List.length_eq_zero_iff.1 (by omega)
   subst h5;try (simp[w1,h1,h2])
   repeat (first|(refine sR ?_;simp[w1,h1,h2])|(refine sC ?_;simp[w1,h1,h2])|(refine sX ?_;simp only[AU,↓reduceIte]))
  case' inr.inr.inr =>
   have h5:t.edges=[]:=List.length_eq_zero_iff.1 (by omega)
   have h6:¬N=[]:=fun h=>by rw[h] at h3;simp at h3
   try (simp[w1,h1,h2,h3,h5,h6])
   repeat (first|(refine sR ?_;simp[w1,h1,h2,h3,h5,h6])|(refine sC ?_;simp[w1,h1,h2,h3,h5,h6])|(refine sX ?_;simp only[AU,↓reduceIte]))
  all_goals
   refine sD (ho _ _) ?_;simp;refine sT (sG Hb Ht htk.old htk.le ?_);rw[<-List.map_append];simp[idM, -List.map_append]
abbrev byss(xs:List (List Int)):D:=.sl 1 (xs.map fun l=>[bytes l])
def mkXs(t:Ty)(g:Gr)(xs:List (List Int))(i:Nat):List Xt:=(xs.take i).map (mkXt t g)
theorem mkXs_succ{t:Ty}{g:Gr}{xs:List (List Int)}{i:Nat}(h:i<xs.length):mkXs t g xs (i+1)=mkXs t g xs i++[mkXt t g xs[i]]:=by
 unfold mkXs;rw[List.take_succ_eq_append_getElem h,List.map_append];rfl
theorem mkXs_len(t:Ty)(g:Gr)(xs:List (List Int))(i:Nat):(mkXs t g xs i).length<=i:=by unfold mkXs;rw[List.length_map,List.length_take];omega
def mkKd(i:Nat):Int:=if i=0 then 1 else 2
def stMk5(t:Ty)(g:Gr)(ns:List Int)(es:List (Int × Int × Int))(xs:List (List Int))(nb:Nat)(box:Bxs)(x:Acc):AS :=
 ⟨tl [(6,I x.i),(5,.ptr (nb+5) 0 0),(4,.ptr (nb+4) 0 0),(3,.ptr (nb+3) 0 0),(2,.ptr (nb+2) 0 0)],lb nb box [(5,[[Sb mkNm,I (mkKd x.i),.d (ints g.nodes),.d (AM.edges g.edges),.osl 4 ((mkXs t g xs x.i).map Xt.cells) x.own]]),(4,[[Sb ⟨#[]⟩,I 0,nilS,nilS,nilS]]),(3,[[.d (bytes ns),.d (b3s es),.d (byss xs)]]),(2,[[.d (nts t.nodes),.d (ets t.edges)]])],x.tok,x.nt⟩
set_option maxRecDepth 100000 in
theorem made42_c(t:Ty)(ht:t.Fit)(hL:0<(lfs t).length)(ns:List Int)(es:List (Int × Int × Int))(xs:List (List Int))(h8:U8s ns)(hns:ns.length<=200000000000000)(h83:U83 es)(hes:es.length<=200000000000000)(hxs:xs.length<=200000000000000)(hx:∀l∈xs,U8s l/\l.length<=1000):DC 56 [t.av,.agg [.d (bytes ns),.d (b3s es),.d (byss xs)]] (mkCo t ns es xs).av:=by
 intro tok nt box nb;have hlg:=leafG_c t ht hL ns h8 hns es h83 hes 3 (by decide);have hl3:=lgN_len (lfs t) ns 3;have hle:(lgR t ns es 3).edges.length<=8:=by
  refine Nat.le_trans (lgE_len _ _ _ _) ?_;unfold lgJ;split<;>omega
 have hl3:(lgR t ns es 3).nodes.length<=3:=hl3
 obtain⟨g,hg⟩:∃g,mkCg t ns es=g:=⟨_,rfl⟩
 have hg1:(lgR t ns es 3).nodes=g.nodes:=by rw[<-hg];rfl
 have hg2:(lgR t ns es 3).edges.take 4=g.edges:=by rw[<-hg];rfl
 have hC:mkCo t ns es xs=⟨mkNm,if xs=[] then 1 else 2,g,mkXs t g xs 3⟩:=by unfold mkCo;rw[hg];rfl
 rw[hC];have hmin:List.take (min ((lgR t ns es 3).edges.length:Int) 4).toNat (List.map E.cells (lgR t ns es 3).edges)=List.map E.cells g.edges:=by
  rw[show (min ((lgR t ns es 3).edges.length:Int) 4).toNat=min 4 (lgR t ns es 3).edges.length by omega,<-hg2,List.map_take,<-List.take_take,<-List.map_take,List.take_length]
 have hgf:g.nodes.length<=1000/\g.edges.length<=1000:=by rw[<-hg1,<-hg2,List.length_take];omega
 generalize lgR t ns es 3=G0 at *;refine sI func56 ntmps56 fun Hb Ht=>?_
 repeat first|simp|refine sR ?_
 refine sD (hlg _ _) ?_;simp;try (simp)
 repeat (first|(refine sR ?_;simp)|(refine sC ?_;simp)|(refine sX ?_;simp only[AU,↓reduceIte]))
 refine⟨⟨by omega,by omega⟩,?_⟩;refine sN ?_;rw[hmin,hg1];refine sR ?_;simp;refine sN ?_;clear hmin hg1 hg2 hl3 hle hlg hC;refine sL (stMk5 t g ns es xs nb box) (fun x=>x.i<=min 3 xs.length/\TK tok nt x.tok x.nt [x.own]) (fun x=>min 3 xs.length-x.i) ⟨0,.full,tok,nt⟩ ⟨Nat.zero_le _,(TK.start Ht).full⟩ (wM (nr _) rfl (by simp[ToL,lk,mkXs,mkKd]) (by simp[BoxL,lk,mkXs,mkKd,mkNm])) ?_;rintro⟨i,own,tok2,nt2⟩ S ⟨hi,htk⟩ hS;simp only[stMk5] at hS hi htk;subst hS;have w1:=sW (i:=i) (by omega);have hxl:=mkXs_len t g xs i;by_cases hlk:i<min 3 xs.length
 .have g1:i<xs.length:=by omega
  have g2:(i:Int)<3:=by omega
  have hs:=mkXs_succ (t:=t) (g:=g) g1;obtain⟨l,hl⟩:∃l,xs[i]=l:=⟨_,rfl⟩
  obtain⟨hl8,hln⟩:=hx _ (List.getElem_mem g1);rw[hl] at hs hl8 hln;have hm:=more_c t ht hL g hgf l hl8 hln;try (simp[w1,g1,g2,hl])
  repeat (first|(refine sR ?_;simp[w1,g1,g2,hl])|(refine sC ?_;simp[w1,g1,g2,hl])|(refine sX ?_;simp only[AU,↓reduceIte]))
  refine sD (hm _ _) ?_;simp;try (simp[w1])
  repeat (first|(refine sR ?_;simp[w1])|(refine sC ?_;simp[w1])|(refine sX ?_;simp only[AU,↓reduceIte]))
  have hkd:mkKd (i+1)=2:=by simp[mkKd]
  refine⟨⟨by omega,htk.live⟩,?_⟩;try (simp[w1])
  repeat (first|(refine sR ?_;simp[w1])|(refine sC ?_;simp[w1])|(refine sX ?_;simp only[AU,↓reduceIte]))
  refine sE ?_;exact⟨⟨i+1,_,_,_⟩,⟨hlk,htk.app⟩,by simp only;omega,wM htk.app.le rfl (by simp[ToL,lk]) (by simp[BoxL,lk,hs,hkd,mkXt])⟩
 .have hcs:¬i<xs.length∨(i<xs.length/\¬(i:Int)<3):=by omega
  have hkd:mkKd i=if xs=[] then 1 else 2:=by
   unfold mkKd;by_cases h:xs=[]
   .subst h;simp at hi;simp[hi]
   .have:0<xs.length:=List.length_pos_iff.2 h
    rw[if_neg h,if_neg (by omega)]
  have hX:mkXs t g xs i=mkXs t g xs 3:=by
   unfold mkXs;congr 1
   rcases (by omega:i=3∨(i=xs.length/\xs.length<=3)) with h|⟨h,h3⟩
   .rw[h]
   .rw[h,List.take_length,List.take_of_length_le h3]
  rw[hkd,hX];rcases hcs with h1|⟨h1,h2⟩
  case' inl =>
   try (simp[w1,h1])
   repeat (first|(refine sR ?_;simp[w1,h1])|(refine sC ?_;simp[w1,h1])|(refine sX ?_;simp only[AU,↓reduceIte]))
  case' inr =>
   try (simp[w1,h1,h2])
   repeat (first|(refine sR ?_;simp[w1,h1,h2])|(refine sC ?_;simp[w1,h1,h2])|(refine sX ?_;simp only[AU,↓reduceIte]))
  all_goals
   refine sT (sG Hb Ht htk.old htk.le ?_);simp
end Go.AM
