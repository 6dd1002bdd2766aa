/-
 Parts of the proof, as merged from many texts: a machine over data, what the functions compute, plain laws.
-/
import Derived.Test.YtebmobphgaiaiaaGreatPCG7
set_option linter.unusedSimpArgs false
set_option linter.unusedVariables false
namespace Go.AM
open Go
open Go.Proofs.Tryz
variable {P:Program}
inductive Bo (box:Bxs):AV->AV->Prop
 | same {x} (h:OkIn (fun _=>False) (fun _=>True) x):Bo box x x
 | msl {k sz:Nat} {es:List (List D)} (hk:box k=some (rowsD es)):Bo box (.msl k 0 es.length sz) (.d (.sl sz es))
def BoL(box:Bxs):List AV->List AV->Prop
 | [],[]=>True
 | x::a,y::b=>Bo box x y/\BoL box a b
 | _,_=>False
theorem Bo.ext{box box':Bxs}(he:Ext box box'){x y:AV}(h:Bo box x y):Bo box' x y:=by
 cases h with
 | same h=>exact .same h
 | msl h=>exact .msl (he _ _ h)
theorem BoL.ext{box box':Bxs}(he:Ext box box'):∀{a b:List AV},BoL box a b->BoL box' a b
 | [],[],_=>trivial
 | x::a,y::b,h=>⟨h.1.ext he,BoL.ext he h.2⟩
 | [],_::_,h=>h.elim
 | _::_,[],h=>h.elim
def Gh.lend(G:Gh)(p:Nat->Prop)[DecidablePred p]:Gh:={ bx:=fun _=>none,kind:=fun b=>if p b then .whole else G.kind b,tk:=G.tk,nt:=G.nt }
theorem lend_ps{G:Gh}{p:Nat->Prop}[DecidablePred p]{a:Addr}(h:G.ps a):(G.lend p).ps a:=by
 unfold Gh.ps at h ⊢;simp only[Gh.lend];by_cases e:p a.block
 .simp[e]
 .simp only[e,↓reduceIte];exact h
theorem RV.lend{G:Gh}{w:World}{p:Nat->Prop}[DecidablePred p](hp:∀b,p b->G.kind b=.box){x:AV}{v:Value}(h:RV G w x v)(ho:OkIn (fun _=>False) (fun _=>True) x):RV (G.lend p) w x v:=by
 have hc:∀(a:Addr) (u:Value),G.ps a->w.cell? a=some u->(G.lend p).ps a/\w.cell? a=some u:=fun a u h1 h2=>⟨lend_ps h1,h2⟩
 have hk:∀g,G.kind g≠.box->(G.lend p).kind g=G.kind g:=fun g hg=>by
  simp only[Gh.lend];rw[if_neg fun e=>hg (hp g e)]
 induction h with
 | bot=>exact .bot
 | d h1=>exact .d (h1.mono hc)
 | osl h1 h2 =>
  refine .osl (h1.mono hc) ?_;rename_i o _;cases o with
  | full=>exact h2
  | tok t =>
   refine⟨h2.1,fun y hy=>?_⟩;have:=h2.2 y hy
   cases y with
   | none=>exact this
   | some g =>
    obtain⟨cap,hv,hg⟩:=this;exact⟨cap,hv,(hk g (by rw[hg];intro e;cases e)).trans hg⟩
 | ptr h1=>cases ho with|ptr h=>exact h.elim
 | here h1 h2=>cases ho with|here h=>exact h.elim
 | buf h1 h2 h3 h4 =>
  refine .buf (h1.mono hc) ⟨h2.1,fun y hy=>?_⟩ h3 h4;have:=h2.2 y hy
  cases y with
  | none=>exact this
  | some g =>
   obtain⟨cap,hv,hg⟩:=this;exact⟨cap,hv,(hk g (by rw[hg];intro e;cases e)).trans hg⟩
 | cptr a u h1 h2=>exact .cptr a u (fun j hj=>hc _ _ (h1 j hj).1 (h1 j hj).2) fun j hj=>(h2 j hj).mono hc
 | msl h1=>cases ho with|msl h=>exact h.elim
 | fn hl _ ih=>cases ho with|fn h=>exact .fn hl fun i h1 h2=>ih i h1 h2 (h _ (List.getElem_mem h1))
 | agg hl _ hone ih=>cases ho with|agg h=>exact .agg hl (fun i h1 h2=>ih i h1 h2 (h _ (List.getElem_mem h1))) hone
 | tup hl _ ih=>cases ho with|tup h=>exact .tup hl fun i h1 h2=>ih i h1 h2 (h _ (List.getElem_mem h1))
 | ex h1 =>
  obtain⟨r1,r0,r2⟩:=h1;refine .ex ⟨r1,r0,fun y hy=>?_⟩;obtain⟨g,cap,cs,e,rfl,h2,h3,h4,h5,h6,h7,h8,h9,h10⟩:=r2 y hy;exact⟨g,cap,cs,e,rfl,h2,h3,h4,(hk g (by rw[h5];intro e;cases e)).trans h5,h6,h7,h8,fun i g1 g2=>(h9 i g1 g2).mono hc,h10⟩
 | stk h1 =>
  obtain⟨r1,A,cap,hv,hc1,hm,r2⟩:=h1;refine .stk ⟨r1,A,cap,hv,hc1,hm,fun y hy=>?_⟩;have h0:=r2 y hy;cases y with
  | none=>exact h0
  | some g =>
   obtain⟨hA,vs,sp,e,h5,h6,h7,h8,h9⟩:=h0;exact⟨hA,vs,sp,e,(hk g (by rw[h5];intro e;cases e)).trans h5,h6,h7,h8.mono hc,h9⟩
theorem Bo.lend{G:Gh}{m:AMem}{w:World}{p:Nat->Prop}[DecidablePred p](hm:RelM G m w)(hp:∀b,p b↔∃k sz,G.bx k=some (b,sz)){x y:AV}{v:Value}(hb:Bo m.box x y)(h:RV G w x v):RV (G.lend p) w y v:=by
 have hpb:∀b,p b->G.kind b=.box:=fun b hb=>by
  obtain⟨k,sz,h⟩:=(hp b).1 hb;exact(hm.blt h).2
 cases hb with
 | same ho=>exact h.lend hpb ho
 | @msl k sz es hk =>
  letI:DecidablePred (fun _:Nat=>False):=fun _=>Classical.propDecidable _
  generalize hx:(AV.msl k 0 es.length sz)=x at h;have h':=h
  cases h with
  | @msl k' off n b sz' cap h1 h2 h3 =>
   cases hx;have hw:RV (G.weak (fun _=>False) (some b) G.nt) w (.d (.sl sz es)) (.slice (some ⟨b,0*sz,none⟩) es.length cap):=by
    refine RV.to (q:=fun _=>True) (fz:=some (k,sz,es)) hm (fun j hj=>by cases hj;exact(hm.blt h1).2) ?_ ?_ h' (.frz rfl) (fun t _ ht=>ht)
    .intro k2 sz2 es2 e;cases e;obtain⟨_,cs,e',_,hs,_⟩:=hm.box k (rowsD es) b sz hk h1;refine⟨rowsD es,hk,by simp,hs,fun i g1 g2=>?_⟩;have:(rowsD es)[i]=(es[i]).map AV.d:=by simp[rowsD]
     rw[this];exact toDs_map _
    .intro k2 sz2 es2 e j s hj;cases e;rw[h1] at hj;cases hj;rfl
   cases hw with
   | d hd =>
    refine .d (hd.mono fun a u h4 h5=>⟨?_,h5⟩);unfold Gh.ps at h4 ⊢;simp only[Gh.weak,Gh.lend] at h4 ⊢;by_cases e:p a.block
    .simp[e]
    .simp only[e,↓reduceIte];have hne:¬(some b=some a.block):=fun e2=>e ((hp _).2 ⟨k,sz,by cases e2;exact h1⟩)
     simp only[hne,↓reduceIte] at h4;exact h4
  | _=>cases hx
theorem BoL.lend{G:Gh}{m:AMem}{w:World}{p:Nat->Prop}[DecidablePred p](hm:RelM G m w)(hp:∀b,p b↔∃k sz,G.bx k=some (b,sz)):∀{xs ys:List AV} {vs:List Value},BoL m.box xs ys->RVs G w xs vs->RVs (G.lend p) w ys vs
 | [],[],vs,_,h=>⟨by have:=h.1;simpa using this,fun i h=>by simp at h⟩
 | x::a,y::b,vs,hb,h=>by
  obtain⟨v,us,rfl,h1,h2⟩:=h.uncons;exact RVs.cons (hb.1.lend hm hp h1) (BoL.lend hm hp hb.2 h2)
 | [],_::_,_,h,_=>h.elim
 | _::_,[],_,h,_=>h.elim
theorem RCall.lent{f:FuncId}{args args':List AV}{box:Bxs}{tok:Nat->Bool}{nt:Nat}{u:Value}{tok':Nat->Bool}{nt':Nat}(hu:u.oneCell'=true)(h:DCall P f args' tok nt (.d (.raw u)) tok' nt')(hb:BoL box args args'):RCall P f args box tok nt (.d (.raw u)) tok' nt':=by
 classical
 intro box' nb hext;have hb':=hb.ext hext
 obtain⟨hen,hc⟩:=h (fun _=>none) nb;refine⟨hen,fun G w vals hm hr=>?_⟩
 let p:Nat->Prop:=fun b=>∃k sz,G.bx k=some (b,sz)
 have hp:∀b,p b↔∃k sz,G.bx k=some (b,sz):=fun b=>Iff.rfl
 have hpb:∀b,p b->b<w.heap.size/\G.kind b=.box:=fun b ⟨k,sz,hk⟩=>hm.blt hk
 have htk:∀t g,G.tk t=some (some g)->¬p g:=fun t g ht hpg=>by
  obtain⟨f',cur,e,h1,_⟩:=hm.tokb t g ht;rw[(hpb g hpg).2] at h1;rcases h1 with h1|h1<;>cases h1
 have hm1:RelM (G.lend p) ⟨fun _=>none,nb,tok,nt⟩ w:=by
  constructor
  case box=>intro k rows b sz h1;cases h1
  case nobox=>intro k _;rfl
  case inj=>intro k k' b sz sz' h1;cases h1
  case nb=>intro k _;rfl
  case nt=>exact hm.nt
  case toks=>exact hm.toks
  case tokb =>
   intro t g ht;obtain⟨f',cur,e,h1,h2⟩:=hm.tokb t g ht;refine⟨f',cur,e,?_,h2⟩;simp only[Gh.lend];rw[if_neg (htk t g ht)];exact h1
  case tinj=>exact hm.tinj
  case tnt=>exact hm.tnt
  case fresh =>
   intro b hb1;simp only[Gh.lend];split
   .rfl
   .exact hm.fresh b hb1
 refine Calls.mono (hc (G.lend p) w vals hm1 (hb'.lend hm hp hr)) ?_;rintro e w' ⟨v,av,m',G1,rfl,⟨rfl,rfl⟩,h3,h4,h5,h6,h7⟩;have hv:v=u:=by cases h5 with|d h=>cases h;rfl
 subst hv;have hkeep:∀b,p b->G1.kind b=.whole/\w'.heap[b]?=w.heap[b]?:=fun b hb1=>h6.whole b (hpb b hb1).1 (by simp[Gh.lend,hb1])
 let G2:Gh:={ bx:=G.bx,kind:=fun b=>if p b then .box else G1.kind b,tk:=G1.tk,nt:=G1.nt }
 have hle:Le G w G2 w':=by
  refine⟨h6.os,h6.tape,h6.output,h6.size,fun b hb1 hk=>?_,fun b f' c hk=>?_,fun _ _ h=>h,h6.nt,fun t ht=>?_,?_⟩
  .have hn:¬p b:=fun e=>by rw[(hpb b e).2] at hk;cases hk
   obtain⟨a1,a2⟩:=h6.whole b hb1 (by simp only[Gh.lend];rw[if_neg hn];exact hk);exact⟨by simp only[G2];rw[if_neg hn];exact a1,a2⟩
  .have hn:¬p b:=fun e=>by rw[(hpb b e).2] at hk;cases hk
   obtain⟨⟨f2,a1,a2⟩,a3⟩:=h6.part b f' c (by simp only[Gh.lend];rw[if_neg hn];exact hk);exact⟨⟨f2,a1,by simp only[G2];rw[if_neg hn];exact a2⟩,a3⟩
  .rcases h6.tk t ht with a1|⟨a1,a2⟩
   .exact .inl a1
   .refine .inr ⟨a1,fun g hg=>?_⟩;have hn:=htk t g hg;obtain⟨b1,b2⟩:=a2 g hg;simp only[Gh.lend] at b1 b2;rw[if_neg hn] at b1 b2;exact⟨by simp only[G2];rw[if_neg hn];exact b1,b2⟩
  .exact h6.ty
 refine⟨v,_,_,G2,rfl,⟨rfl,rfl⟩,rfl,?_,.d (.raw hu),hle,fun k hk=>⟨hk,rfl⟩⟩;constructor
 case box =>
  intro k rows b sz hk hb1;obtain⟨g1,cs,e,g2,g3,g4,g5⟩:=hm.box k rows b sz hk hb1;have hpk:p b:=⟨k,sz,hb1⟩
  exact⟨by simp[G2,hpk],cs,e,(hkeep b hpk).2.trans g2,g3,g4.mono hle,g5⟩
 case nobox=>exact hm.nobox
 case inj=>exact hm.inj
 case nb=>exact hm.nb
 case nt=>exact h4.nt
 case toks=>exact h4.toks
 case tokb =>
  intro t g ht;obtain⟨f',cur,e,g1,g2⟩:=h4.tokb t g ht;refine⟨f',cur,e,?_,g2⟩;have hn:¬p g:=fun hpg=>by
   rw[(hkeep g hpg).1] at g1;rcases g1 with g1|g1<;>cases g1
  simp only[G2];rw[if_neg hn];exact g1
 case tinj=>exact h4.tinj
 case tnt=>exact h4.tnt
 case fresh =>
  intro b hb1;have:=h6.size
  have hn:¬p b:=fun hpb1=>by have:=(hpb b hpb1).1;omega
  simp only[G2];rw[if_neg hn];exact h4.fresh b hb1
open Go Go.Proofs Go.RowKit
open Go.Proofs.Tryz
def imgK(n:Nat)(by' m:List Int):Nat->List Int
 | 0=>List.replicate n (-1)
 | i+1=>(imgK n by' m i).set (by'.getD i 0).toNat (m.getD i 0)
theorem imgK_len(n:Nat)(by' m:List Int):∀i,(imgK n by' m i).length=n
 | 0=>by simp[imgK]
 | i+1=>by simp[imgK,imgK_len n by' m i]
theorem rI_len(xs:List Int):(rI xs).length=xs.length:=by simp
theorem Trans.thawI{cx:Cx}{nt0 nt:Nat}{l l':List (Nat × AV)}{out:Bxs}{loc loc':List (Nat × List (List AV))}{tok:Nat->Bool}(t s:Nat)(xs:List Int)(r:Nat)(hn:cx.nb=cx.base+cx.n)(hs:s<cx.n)(hk:lk loc s=none)(ht:tok t=true)(hr:tl l r=.ex t 1 (rI xs))(hl:ThL t (cx.base+s) 1 (rI xs) l l')(hb:ThB t (cx.base+s) 1 (rI xs) loc loc'):
  Trans cx nt0 ⟨tl l,lb cx.base out loc,tok,nt⟩ ⟨tl l',lb cx.base out ((s,rowsI xs)::loc'),upd tok t false,nt⟩:=by
 rw[rowsI_eq];exact Trans.thaw t s 1 (rI xs) r hn hs hk ht hr hl hb
theorem Trans.sealI{cx:Cx}{nt0 nt:Nat}{l l':List (Nat × AV)}{out:Bxs}{loc loc':List (Nat × List (List AV))}{tok:Nat->Bool}(s:Nat)(xs:List Int)(r:Nat)(ho:out=cx.B0)(hnt:nt0<=nt)(hr:tl l r=.msl (cx.base+s) 0 xs.length 1)(hk':lk loc' s=none)(hl:SeL nt (cx.base+s) 1 (rI xs) l l')(hb:SeB nt (cx.base+s) 1 (rI xs) loc loc'):
  Trans cx nt0 ⟨tl l,lb cx.base out ((s,rowsI xs)::loc),tok,nt⟩ ⟨tl l',lb cx.base out loc',upd tok nt true,nt+1⟩:=by
 rw[rowsI_eq];exact Trans.seal s 1 (rI xs) r ho hnt (by simp) (by rw[rI_len];exact hr) hk' hl hb
theorem thTo_exI{t k n:Nat}{xs:List Int}(h:n=xs.length):ThTo t k 1 (rI xs) (.ex t 1 (rI xs)) (.msl k 0 n 1):=by
 have:n=(rI xs).length:=by rw[rI_len];exact h
 rw[this];exact .ex
theorem seTo_mslI{t k n:Nat}{xs:List Int}(h:n=xs.length):SeTo t k 1 (rI xs) (.msl k 0 n 1) (.ex t 1 (rI xs)):=by
 have:n=(rI xs).length:=by rw[rI_len];exact h
 rw[this];exact .msl
def wantX(p:Gr)(N:List Int)(i:Nat):E:=⟨(p.edges.getD i default).ty,N.getD (p.edges.getD i default).fr.toNat 0,N.getD (p.edges.getD i default).to.toNat 0⟩
abbrev exRow(p g:Gr)(kn n ke m:Nat)(f:FuncId)(caps:List AV):List AV:=[.d (ints p.nodes),.d (AM.edges p.edges),.d (ints g.nodes),.d (AM.edges g.edges),.msl kn 0 n 1,.msl ke 0 m 1,.fn (.func f) caps]
structure ExH (p g:Gr) (f:FuncId) (caps:List AV) (kx kn ke:Nat) (E0:Bxs) (N Es:List Int) (box:Bxs):Prop where
 ext:Ext E0 box
 x:box kx=some [exRow p g kn p.nodes.length ke p.edges.length f caps]
 n:box kn=some (rowsI N)
 e:box ke=some (rowsI Es)
 nl:N.length=p.nodes.length
 el:Es.length=p.edges.length
theorem ExH.lb{p g:Gr}{f:FuncId}{caps:List AV}{kx kn ke nb:Nat}{E0:Bxs}{N Es:List Int}{box:Bxs}(h:ExH p g f caps kx kn ke E0 N Es box)(hb:lb nb box []=box)(loc:List (Nat × List (List AV))):
  ExH p g f caps kx kn ke E0 N Es (AM.lb nb box loc) :=
 ⟨Ext.lb h.ext hb loc,by rw[lO (key_lt hb h.x)];exact h.x,by rw[lO (key_lt hb h.n)];exact h.n,by rw[lO (key_lt hb h.e)];exact h.e,h.nl,h.el⟩
def NonN(l:List Int)(i:Nat):Prop:=∀j,j<i->0<=l.getD j 0
theorem NonN.set{l:List Int}{i:Nat}(h:NonN l i)(hi:i<l.length)(k:Nat):NonN (l.set i k) (i+1):=fun j hj=>by
 by_cases e:j=i
 .subst e;simp[hi]
 .have:=h j (by omega)
  simpa[List.getD,List.getElem?_set,Ne.symm e] using this
theorem NonN.all{l:List Int}{i:Nat}(h:NonN l i)(hi:i=l.length):∀x∈l,0<=x:=fun x hx=>by
 obtain⟨j,hj,rfl⟩:=List.getElem_of_mem hx;have:=h j (by omega)
 simpa[hj] using this
def sizeR(c:Cd):Int × Int × Int:=if c.shs≠0 then (0,0,c.shs) else if smallC c≠0 then (0,0,smallC c) else (c.meas.1,c.meas.2,0)
inductive Cd.Fit:Cd->Prop
 | mk {c:Cd} (hk:c.kids.length<=kidN) (hm:c.m.Fit) (hg:c.g.Fit) (hs:c.sl.length<=bigN) (ht:c.te.length<=bigN) (h:∀x∈c.kids,Cd.Fit x):Cd.Fit c
theorem Cd.Fit.kids{c:Cd}(h:c.Fit):c.kids.length<=kidN:=by cases h;assumption
theorem Cd.Fit.kid{c:Cd}(h:c.Fit):∀x∈c.kids,Cd.Fit x:=by cases h;assumption
theorem Cd.Fit.m{c:Cd}(h:c.Fit):c.m.Fit:=by cases h;assumption
theorem Cd.Fit.g{c:Cd}(h:c.Fit):c.g.Fit:=by cases h;assumption
theorem Cd.Fit.big{c:Cd}(h:c.Fit):c.Big:=by
 induction h with
 | mk hk hm hg hs ht _ ih =>
  refine⟨hk,?_,?_,?_,?_,hs,ht,ih⟩
  .have:=hm.n;rw[bigN_eq];omega
  .have:=hm.e;rw[bigN_eq];omega
  .have:=hg.n;rw[bigN_eq];omega
  .have:=hg.e;rw[bigN_eq];omega
def ovrStep(a:Gr)(k:Int)(m:Mo)(g:Gr):Int:=if k=5 then (if validM a g m≠0 then validM a g m else if injM a g m=true then 0 else 1) else 0
mutual
def Cd.ovr:Cd->Gr->Int
 | .mk k c m g s v t,a=>if shapeC (.mk k c m g s v t)=0 then if ovrStep a k m g=0 then Cd.ovrL c (if k=5 then g else a) else ovrStep a k m g else shapeC (.mk k c m g s v t)
def Cd.ovrL:List Cd->Gr->Int
 | [],_=>0
 | x::r,a=>if Cd.ovr x a=0 then Cd.ovrL r a else Cd.ovr x a
end
theorem Cd.ovrL_eq(a:Gr):∀l:List Cd,Cd.ovrL l a=errL (fun x=>Cd.ovr x a) l
 | []=>by simp[Cd.ovrL,errL]
 | x::r=>by simp[Cd.ovrL,errL,Cd.ovrL_eq a r]
abbrev Cd.inn(c:Cd)(a:Gr):Gr:=if c.kind=5 then c.g else a
theorem Cd.ovr_eq(c:Cd)(a:Gr):c.ovr a=if shapeC c=0 then if ovrStep a c.kind c.m c.g=0 then errL (fun x=>Cd.ovr x (c.inn a)) c.kids else ovrStep a c.kind c.m c.g else shapeC c:=by
 cases c;rw[Cd.ovr,Cd.ovrL_eq];rfl
theorem AL.midP{cx:Cx}{nt0:Nat}{K:Exit->AS->Prop}{r:List CI}{S:AS}{x y:Code}(T:AS)(p:Prop)(h1:AL prog cx nt0 (fun e S'=>match e with
   | .normal=>p/\Weaks cx nt0 S' T
   | e=>AU prog cx nt0 K (.c y::r) e S') [.c x] S)(h2:p->AL prog cx nt0 K (.c y::r) T):AL prog cx nt0 K (.c x::.c y::r) S:=by
 have h3:=AL.start h1;simp only[AL] at h2 ⊢;refine h3.mono fun e S' h=>?_
 cases e with
 | normal=>exact AT.weaks h.2 (h2 h.1)
 | _=>exact h
abbrev Gr.cells2(g:Gr):List AV:=[.d (ints g.nodes),.d (AM.edges g.edges)]
def stOv(a:Gr)(c:Cd)(nb:Nat)(box:Bxs)(tok:Tks)(nt:Nat)(i:Nat):AS :=
 ⟨tl [(38,.d (conds c.kids)),(39,I c.kids.length),(40,I i),(6,.ptr (nb+6) 0 0)],lb nb box [(6,[a.cells2])],tok,nt⟩
theorem over_c:∀(n:Nat) (c:Cd),SizeOf.sizeOf c<n->c.Fit->∀(a:Gr),a.Fit->∀(tok:Tks) (nt:Nat),DCall prog 117 [a.av,c.av] tok nt (I (c.ovr a)) tok nt
 | 0,c,hn,_,a,_,tok,nt=>absurd hn (Nat.not_lt_zero _)
 | n+1,c,hn,hb,a,ha,tok,nt=>by
  intro box nb;have ih:=fun x (hx:x∈c.kids)=>over_c n x (by have:=Cd.kid_lt hx;omega) (hb.kid x hx)
  have hkb:=hb.kids;rw[kidN_eq] at hkb;have hR:=c.ovr_eq a;have hsh:=shape_c c;have hva:=valid51_c a c.g c.m ha hb.g;have hin:=injective56_c a c.g c.m ha hb.g hb.m;have hinn:(c.inn a).Fit:=by unfold Cd.inn;split;exact hb.g;exact ha
  refine sI func117 ntmps117 fun Hb Ht=>?_
  refine sR ?_;simp;refine sR ?_;simp;refine sD (hsh _ _) ?_;simp;refine sR ?_;simp;by_cases h0:shapeC c=0
  .simp[h0];refine sC ?_;simp;refine sR ?_;simp;refine sR ?_;simp;refine AL.midP ⟨tl [(6,.ptr (nb+6) 0 0),(3,.ptr (nb+3) 0 0)],lb nb box [(6,[(c.inn a).cells2]),(3,[c.row])],tok,nt⟩ (ovrStep a c.kind c.m c.g=0) ?_ ?_
   .have hst:ovrStep a c.kind c.m c.g=if c.kind=5 then (if validM a c.g c.m≠0 then validM a c.g c.m else if injM a c.g c.m=true then 0 else 1) else 0:=rfl
    by_cases k5:c.kind=5
    .have hii:c.inn a=c.g:=if_pos k5
     rw[if_pos k5] at hst;simp[k5];refine sC ?_;simp;refine sR ?_;simp;refine sR ?_;simp;refine sD (hva _ _) ?_;simp;refine sR ?_;simp;by_cases h1:validM a c.g c.m=0
     .rw[if_neg (by simp[h1])] at hst;simp[h1];refine sC ?_;simp;refine sR ?_;simp;refine sD (hin _ _) ?_;simp;cases h2:injM a c.g c.m
      .simp[h2] at hst;refine sC ?_;simp;refine sR ?_;simp;refine sT (sH Hb Ht ?_);simp[hR,h0,hst]
      .simp[h2] at hst;refine sC ?_;simp;refine sE ?_;refine⟨by simpa[k5] using hst,?_⟩;exact wM (nr _) rfl (by simp[ToL,lk]) (by simp[BoxL,lk,hii])
     .rw[if_pos (by simpa using h1)] at hst;have b1:(validM a c.g c.m !=0)=true:=by simp[h1]
      simp only[b1];refine sC ?_;simp;refine sR ?_;simp;refine sT (sH Hb Ht ?_);simp[hR,h0,hst,h1]
    .have hii:c.inn a=a:=if_neg k5
     have n5:(c.kind==5)=false:=by simp[k5]
     simp only[n5];refine sC ?_;simp;refine sE ?_;refine⟨by rw[hst,if_neg k5],?_⟩;exact wM (nr _) rfl (by simp[ToL,lk]) (by simp[BoxL,lk,hii])
   .intro hst;rw[if_pos h0,if_pos hst] at hR;generalize c.inn a=b at *;refine sR ?_;simp;refine sN ?_;refine sL (stOv b c nb box tok nt) (fun i=>i<=c.kids.length/\∀x∈c.kids.take i,Cd.ovr x b=0) (fun i=>c.kids.length-i) 0 ⟨Nat.zero_le _,by simp⟩ wkA ?_;rintro i S ⟨hi,hz⟩ hS;simp only[stOv] at hS;subst hS;have hw:=sW (i:=i) (by omega);refine sR ?_;simp;refine sC ?_;simp;refine⟨fun hlt=>?_,fun hge=>?_⟩
    .have ihx:=fun a ha=>ih _ (List.getElem_mem hlt) a ha
     have hyes:=errL_more (f:=fun x=>Cd.ovr x b) hlt hz;have hno:=errL_at (f:=fun x=>Cd.ovr x b) hlt hz;refine sR ?_;simp[hlt,Cd.cells_eq];generalize c.kids[i]=x at *;refine sR ?_;simp;refine sD (ihx b hinn _ _) ?_;simp;refine sR ?_;simp;by_cases h1:x.ovr b=0
     .simp only[h1];refine sC ?_;simp;refine sR ?_;simp[hw];refine sE ?_;exact⟨i+1,⟨hlt,hyes h1⟩,by omega,wkA⟩
     .have b1:(x.ovr b !=0)=true:=by simp[h1]
      simp only[b1];refine sC ?_;simp;refine sR ?_;simp;refine sT (sH Hb Ht ?_);simp[hR,hno h1]
    .refine sX ?_;simp only[AU,↓reduceIte];rw[List.take_of_length_le hge] at hz;refine sR ?_;simp;refine sT (sH Hb Ht ?_);simp[hR,errL_all (f:=fun x=>Cd.ovr x b) hz]
  .rw[if_neg h0] at hR;have b0:(shapeC c !=0)=true:=by simp[h0]
   simp only[b0];refine sC ?_;simp;refine sR ?_;simp;refine sT (sH Hb Ht ?_);simp[hR]
def validC(a:Gr)(c:Cd):Int:=if vG a≠0 then vG a else if c.ovr a≠0 then c.ovr a else smallC c
theorem validC_c(a:Gr)(c:Cd)(ha:a.Fit)(hb:c.Fit):DC 61 [a.av,c.av] (I (validC a c)):=by
 intro tok nt box nb;have hg:=graphValid_c a ha;have ho:=over_c _ c (Nat.lt_succ_self _) hb a ha;have hs:=cdSmall_c c hb.big;refine sI func61 ntmps61 fun Hb Ht=>?_
 repeat first|simp|refine sR ?_
 refine sD (hg _ _) ?_;repeat first|simp|refine sR ?_
 by_cases h0:vG a=0
 .simp only[h0];refine sC ?_;repeat first|simp|refine sR ?_
  refine sD (ho _ _) ?_;repeat first|simp|refine sR ?_
  by_cases h1:c.ovr a=0
  .simp only[h1];refine sC ?_;repeat first|simp|refine sR ?_
   refine sD (hs _ _) ?_;repeat first|simp|refine sR ?_
   refine sT (sH Hb Ht ?_);simp[validC,h0,h1]
  .have b1:(c.ovr a !=0)=true:=by simp[h1]
   simp only[b1];refine sC ?_;repeat first|simp|refine sR ?_
   refine sT (sH Hb Ht ?_);simp[validC,h0,h1]
 .have b0:(vG a !=0)=true:=by simp[h0]
  simp only[b0];refine sC ?_;repeat first|simp|refine sR ?_
  refine sT (sH Hb Ht ?_);simp[validC,h0]
def arrR(a b:Gr)(m:Mo):Int:=if validM a b m≠0 then validM a b m else if injM a b m=true then 0 else 1
def sum7(c:Cd):Int:=IntKind.i64.wrap (IntKind.i64.wrap (IntKind.i64.wrap (IntKind.i64.wrap (IntKind.i64.wrap (IntKind.i64.wrap (↑c.m.nodes.length+↑c.m.edges.length)+↑c.g.nodes.length)+↑c.g.edges.length)+↑c.sl.length)+c.vars)+↑c.te.length)
theorem sum7_bare{c:Cd}(hb:c.Big):(sum7 c==0&&c.vars==0)=unusedC c:=by
 cases hb with
 | mk hk hmn hme hgn hge hs ht h =>
  rw[bigN_eq] at hmn hme hgn hge hs ht;by_cases hv:c.vars=0
  .have h0:sum7 c=((c.m.nodes.length+c.m.edges.length+c.g.nodes.length+c.g.edges.length+c.sl.length+c.te.length:Nat):Int):=by
    unfold sum7;rw[hv,wrap_in (n:=↑c.m.nodes.length+↑c.m.edges.length) (by omega) (by omega)];rw[wrap_in (n:=↑c.m.nodes.length+↑c.m.edges.length+↑c.g.nodes.length) (by omega) (by omega)];rw[wrap_in (n:=↑c.m.nodes.length+↑c.m.edges.length+↑c.g.nodes.length+↑c.g.edges.length) (by omega) (by omega)];rw[wrap_in (n:=↑c.m.nodes.length+↑c.m.edges.length+↑c.g.nodes.length+↑c.g.edges.length+↑c.sl.length) (by omega) (by omega)];rw[wrap_in (n:=↑c.m.nodes.length+↑c.m.edges.length+↑c.g.nodes.length+↑c.g.edges.length+↑c.sl.length+0) (by omega) (by omega)];rw[wrap_in (by omega) (by omega)];omega
   rw[Bool.eq_iff_iff,h0];simp only[unusedC,plainC,z0,hv,Bool.and_eq_true,beq_iff_eq];simp only[true_and,and_true];omega
  .rw[Bool.eq_iff_iff];simp[unusedC,plainC,z0,hv]
theorem bare_c(c:Cd)(hb:c.Big):DC 249 [c.av] (B (unusedC c)):=by
 intro tok nt box nb;have hs:=sum7_bare hb;have hd:=show sum7 c=IntKind.i64.wrap (IntKind.i64.wrap (IntKind.i64.wrap (IntKind.i64.wrap (IntKind.i64.wrap (IntKind.i64.wrap (↑c.m.nodes.length+↑c.m.edges.length)+↑c.g.nodes.length)+↑c.g.edges.length)+↑c.sl.length)+c.vars)+↑c.te.length) from rfl
 refine sI func249 ntmps249 fun Hb Ht=>?_
 repeat first|simp|refine sR ?_
 rw[<-hd];cases h0:sum7 c==0
 .rw[h0] at hs;repeat first|simp|refine sR ?_
  refine sT (sH Hb Ht ?_);simp[<-hs]
 .rw[h0] at hs;repeat first|simp|refine sR ?_
  refine sT (sH Hb Ht ?_);simp[<-hs]
def stSz(c:Cd)(nb:Nat)(box:Bxs)(tok:Tks)(nt:Nat)(i:Nat):AS :=
 ⟨tl [(4,I (measK c.kids i).1),(5,I (measK c.kids i).2),(6,I i),(1,.ptr (nb+1) 0 0)],lb nb box [(1,[c.row])],tok,nt⟩
theorem size25_c:∀(n:Nat) (c:Cd),SizeOf.sizeOf c<n->c.Big->∀(tok:Tks) (nt:Nat),DCall prog 112 [c.av] tok nt (.tup [I c.meas.1,I c.meas.2]) tok nt
 | 0,c,hn,_,tok,nt=>absurd hn (Nat.not_lt_zero _)
 | n+1,c,hn,hb,tok,nt=>by
  intro box nb;have ih:=fun x (hx:x∈c.kids)=>size25_c n x (by have:=Cd.kid_lt hx;omega) (hb.kid x hx)
  have hkb:=hb.kids;rw[kidN_eq] at hkb;have hR:=c.meas_eq;refine sI func112 ntmps112 fun Hb Ht=>?_
  repeat first|simp|refine sR ?_
  refine sN ?_;refine sL (stSz c nb box tok nt) (fun i=>i<=c.kids.length) (fun i=>c.kids.length-i) 0 (Nat.zero_le _) (wM (nr _) rfl (by simp[ToL,lk,measK_zero]) (by simp[BoxL,lk])) ?_;rintro i S hi hS;simp only[stSz] at hS;subst hS;have hw:=sW (i:=i) (by omega);refine sR ?_;simp;refine sC ?_;simp;refine⟨fun hlt=>?_,fun hge=>?_⟩
  .have hS:=measK_succ c.kids hlt;have ihx:=ih _ (List.getElem_mem hlt);refine sR ?_;simp[hlt,Cd.cells_eq];generalize c.kids[i]=x at *;refine sD (ihx _ _) ?_;simp;repeat first|simp[hw]|refine sR ?_
   refine sE ?_;exact⟨i+1,hlt,by omega,wM (nr _) rfl (by simp[ToL,lk,hS]) (by simp[BoxL,lk])⟩
  .refine sX ?_;simp only[AU,↓reduceIte];have:i=c.kids.length:=by omega
   subst this;repeat first|simp|refine sR ?_
   by_cases h5:c.kind=5
   .have hb5:(c.kind==5)=true:=by simp[h5]
    simp only[hb5];refine sC ?_;repeat first|simp|refine sR ?_
    refine sT (sH Hb Ht ?_);simp[hR,h5]
   .have hb5:(c.kind==5)=false:=by simp[h5]
    simp only[hb5];refine sC ?_;repeat first|simp|refine sR ?_
    refine sT (sH Hb Ht ?_);simp[hR,h5]
theorem large32_c(c:Cd)(hb:c.Big):DC 123 [c.av] (I (smallC c)):=by
 intro tok nt box nb;have hm:=size25_c _ c (Nat.lt_succ_self _) hb;unfold smallC;generalize c.meas=q at *;refine sI func123 ntmps123 fun Hb Ht=>?_
 repeat first|simp|refine sR ?_
 refine sD (hm _ _) ?_;repeat first|simp|refine sR ?_
 by_cases h1:2000<q.1
 .simp[h1];repeat first|simp|refine sR ?_
  refine sC ?_;repeat first|simp|refine sR ?_
  refine sT (sH Hb Ht ?_);simp[h1]
 .by_cases h2:3<q.2
  .simp[h1,h2];repeat first|simp|refine sR ?_
   refine sC ?_;repeat first|simp|refine sR ?_
   refine sT (sH Hb Ht ?_);simp[h1,h2]
  .simp[h1,h2];repeat first|simp|refine sR ?_
   refine sC ?_;repeat first|simp|refine sR ?_
   refine sT (sH Hb Ht ?_);simp[h1,h2]
theorem unused_plain{c:Cd}(h:unusedC c=true):plainC c=true:=by
 simp only[unusedC,Bool.and_eq_true] at h;exact h.2.2.2.2
theorem shape48_c(c:Cd)(hb:c.Big):DC 193 [c.av] (I (shapeC c)):=by
 intro tok nt box nb;have hba:=bare_c c hb;refine sI func193 ntmps193 fun Hb Ht=>?_
 repeat first|simp|refine sR ?_
 have hpl:=fun h=>unused_plain (c:=c) h
 by_cases k1:c.kind=1
 .have b1:(c.kind==1)=true:=by simp[k1]
  simp only[b1];refine sC ?_;simp;by_cases h1:0<c.kids.length
  .have hk0:c.kids≠[]:=by intro e;simp[e] at h1
   repeat first|simp[h1]|refine sR ?_
   refine sC ?_;repeat first|simp|refine sR ?_
   refine sT (sH Hb Ht ?_);simp[shapeC,okC,k1,h1,z0,hk0]
  .have hk0:c.kids=[]:=by simpa using h1
   repeat first|simp[h1]|refine sR ?_
   refine sD (hba _ _) ?_;repeat first|simp|refine sR ?_
   cases hu:unusedC c
   .refine sC ?_;repeat first|simp|refine sR ?_
    refine sT (sH Hb Ht ?_);simp[shapeC,okC,k1,h1,z0,hk0,hu]
   .refine sC ?_;repeat first|simp|refine sR ?_
    refine sT (sH Hb Ht ?_);simp[shapeC,okC,k1,h1,z0,hk0,hu,hpl hu]
 .have b1:(c.kind==1)=false:=by simp[k1]
  simp only[b1];refine sC ?_;repeat first|simp|refine sR ?_
  by_cases k2:c.kind=2
  .have b2:(c.kind==2)=true:=by simp[k2]
   simp only[b2];refine sC ?_;simp;by_cases h1:(c.kids.length:Int)=1
   .have n1:((c.kids.length:Int)!=1)=false:=by simp[h1]
    repeat first|simp[n1]|refine sR ?_
    refine sD (hba _ _) ?_;repeat first|simp|refine sR ?_
    cases hu:unusedC c
    .refine sC ?_;repeat first|simp|refine sR ?_
     refine sT (sH Hb Ht ?_);simp[shapeC,okC,k2,h1,z0,hu]
    .refine sC ?_;repeat first|simp|refine sR ?_
     refine sT (sH Hb Ht ?_);simp[shapeC,okC,k2,h1,z0,hu,hpl hu]
   .have n1:((c.kids.length:Int)!=1)=true:=by simp[h1]
    repeat first|simp[n1]|refine sR ?_
    refine sC ?_;repeat first|simp|refine sR ?_
    refine sT (sH Hb Ht ?_);simp[shapeC,okC,k2,h1,z0]
  .have b2:(c.kind==2)=false:=by simp[k2]
   simp only[b2];refine sC ?_;repeat first|simp|refine sR ?_
   refine AL.mid ⟨tl [(27,B (decide (c.kind=3∨c.kind=4))),(8,I c.kind),(3,I c.kids.length),(1,.ptr (nb+1) 0 0),(2,I 0)],lb nb box [(1,[c.row])],tok,nt⟩ ?_ ?_
   .by_cases k3:c.kind=3
    .have b3:(c.kind==3)=true:=by simp[k3]
     simp only[b3];refine sC ?_;repeat first|simp|refine sR ?_
     refine sE ?_;exact wM (nr _) rfl (by simp[ToL,lk,k3]) (by simp[BoxL,lk])
    .have b3:(c.kind==3)=false:=by simp[k3]
     simp only[b3];refine sC ?_;repeat first|simp|refine sR ?_
     by_cases k4:c.kind=4
     .repeat first|simp|refine sR ?_
      refine sE ?_;exact wM (nr _) rfl (by simp[ToL,lk,k4]) (by simp[BoxL,lk])
     .have n4:(c.kind==4)=false:=by simp[k4]
      repeat first|simp|refine sR ?_
      refine sE ?_;exact wM (nr _) rfl (by simp[ToL,lk,k3,k4,n4]) (by simp[BoxL,lk])
   .by_cases k34:c.kind=3∨c.kind=4
    .have d34:decide (c.kind=3∨c.kind=4)=true:=decide_eq_true k34
     simp only[d34];refine sC ?_;simp;by_cases h1:c.kids.length=0
     .have n1:((c.kids.length:Int)==0)=true:=by simp[h1]
      have hk0:c.kids=[]:=by simpa using h1
      repeat first|simp[n1,h1]|refine sR ?_
      refine sC ?_;repeat first|simp|refine sR ?_
      refine sT (sH Hb Ht ?_);simp[shapeC,okC,k1,k2,k34,h1]
     .have n1:((c.kids.length:Int)==0)=false:=by simp[h1]
      have hk0:c.kids≠[]:=by intro e;simp[e] at h1
      have hk1:0<c.kids.length:=by omega
      repeat first|simp[n1,hk0]|refine sR ?_
      refine sD (hba _ _) ?_;repeat first|simp|refine sR ?_
      cases hu:unusedC c
      .refine sC ?_;repeat first|simp|refine sR ?_
       refine sT (sH Hb Ht ?_);simp[shapeC,okC,k1,k2,k34,hk1,hu]
      .refine sC ?_;repeat first|simp|refine sR ?_
       refine sT (sH Hb Ht ?_);simp[shapeC,okC,k1,k2,k34,hk1,hu,hpl hu]
    .have d34:decide (c.kind=3∨c.kind=4)=false:=decide_eq_false k34
     simp only[d34];refine sC ?_;repeat first|simp|refine sR ?_
     by_cases k5:c.kind=5
     .have n5:(c.kind==5)=true:=by simp[k5]
      have h3:¬((5:Int)=3∨(5:Int)=4):=by decide
      simp only[n5];refine sC ?_;repeat first|simp|refine sR ?_
      by_cases h1:(c.kids.length:Int)=1
      .have n1:((c.kids.length:Int)!=1)=false:=by simp[h1]
       simp only[n1];refine sC ?_;simp;by_cases h4:0<c.sl.length
       .have hp:plainC c=false:=by simp[plainC,z0];intro e;simp[e] at h4
        repeat first|simp[h4]|refine sR ?_
        refine sC ?_;repeat first|simp|refine sR ?_
        refine sT (sH Hb Ht ?_);simp[shapeC,okC,k5,h1,hp]
       .have h4':c.sl=[]:=by simpa using h4
        by_cases h5:c.vars=0
        .by_cases h6:0<c.te.length
         .have hp:plainC c=false:=by simp[plainC,z0];intro _ _ e;simp[e] at h6
          repeat first|simp[h4,h5,h6]|refine sR ?_
          refine sC ?_;repeat first|simp|refine sR ?_
          refine sT (sH Hb Ht ?_);simp[shapeC,okC,k5,h1,hp]
         .have h6':c.te=[]:=by simpa using h6
          have hp:plainC c=true:=by simp[plainC,z0,h4',h5,h6']
          repeat first|simp[h4,h5,h6]|refine sR ?_
          refine sC ?_;repeat first|simp|refine sR ?_
          refine sT (sH Hb Ht ?_);simp[shapeC,okC,k5,h1,hp]
        .have hp:plainC c=false:=by simp[plainC,z0,h5]
         have n7:(c.vars !=0)=true:=by simp[h5]
         repeat first|simp[h4,n7]|refine sR ?_
         refine sC ?_;repeat first|simp|refine sR ?_
         refine sT (sH Hb Ht ?_);simp[shapeC,okC,k5,h1,hp]
      .have n1:((c.kids.length:Int)!=1)=true:=by simp[h1]
       simp only[n1];refine sC ?_;repeat first|simp|refine sR ?_
       refine sT (sH Hb Ht ?_);simp[shapeC,okC,k5,h1]
     .have n5:(c.kind==5)=false:=by simp[k5]
      simp only[n5];refine sC ?_;repeat first|simp|refine sR ?_
      refine sT (sH Hb Ht ?_);simp[shapeC,okC,k1,k2,k34,k5]
def stSs(c:Cd)(nb:Nat)(box:Bxs)(tok:Tks)(nt:Nat)(i:Nat):AS :=
 ⟨tl [(4,I i),(1,.ptr (nb+1) 0 0)],lb nb box [(1,[c.row])],tok,nt⟩
theorem shapes31_c:∀(n:Nat) (c:Cd),SizeOf.sizeOf c<n->c.Big->∀(tok:Tks) (nt:Nat),DCall prog 220 [c.av] tok nt (I c.shs) tok nt
 | 0,c,hn,_,tok,nt=>absurd hn (Nat.not_lt_zero _)
 | n+1,c,hn,hb,tok,nt=>by
  intro box nb;have ih:=fun x (hx:x∈c.kids)=>shapes31_c n x (by have:=Cd.kid_lt hx;omega) (hb.kid x hx)
  have hkb:=hb.kids;rw[kidN_eq] at hkb;have hR:=c.shs_eq;have hsh:=shape48_c c hb;refine sI func220 ntmps220 fun Hb Ht=>?_
  repeat first|simp|refine sR ?_
  refine sD (hsh _ _) ?_;repeat first|simp|refine sR ?_
  by_cases h0:shapeC c=0
  .rw[if_pos h0] at hR;simp only[h0];refine sC ?_;repeat first|simp|refine sR ?_
   refine sN ?_;refine sL (stSs c nb box tok nt) (fun i=>i<=c.kids.length/\∀x∈c.kids.take i,Cd.shs x=0) (fun i=>c.kids.length-i) 0 ⟨Nat.zero_le _,by simp⟩ wkA ?_;rintro i S ⟨hi,hz⟩ hS;simp only[stSs] at hS;subst hS;have hw:=sW (i:=i) (by omega);repeat first|simp|refine sR ?_|refine sC ?_
   refine⟨fun hlt=>?_,fun hge=>?_⟩
   .have ihx:=ih _ (List.getElem_mem hlt);have hyes:=errL_more (f:=Cd.shs) hlt hz;have hno:=errL_at (f:=Cd.shs) hlt hz;repeat first|simp[hlt,Cd.cells_eq]|refine sR ?_
    generalize c.kids[i]=x at *;refine sD (ihx _ _) ?_;repeat first|simp|refine sR ?_
    by_cases h1:x.shs=0
    .simp only[h1];refine sC ?_;simp;repeat first|simp[hw]|refine sR ?_
     refine sE ?_;exact⟨i+1,⟨hlt,hyes h1⟩,by omega,wkA⟩
    .have b1:(x.shs !=0)=true:=by simp[h1]
     simp only[b1];refine sC ?_;repeat first|simp|refine sR ?_
     refine sT (sH Hb Ht ?_);simp[hR,hno h1]
   .refine sX ?_;simp only[AU,↓reduceIte];rw[List.take_of_length_le hge] at hz;repeat first|simp|refine sR ?_
    refine sT (sH Hb Ht ?_);simp[hR,errL_all hz]
  .rw[if_neg h0] at hR;have b0:(shapeC c !=0)=true:=by simp[h0]
   simp only[b0];refine sC ?_;repeat first|simp|refine sR ?_
   refine sT (sH Hb Ht ?_);simp[hR]
theorem size11_c(c:Cd)(hb:c.Big):DC 160 [c.av] (.tup [I (sizeR c).1,I (sizeR c).2.1,I (sizeR c).2.2]):=by
 intro tok nt box nb;have hs:=shapes31_c _ c (Nat.lt_succ_self _) hb;have hm:=size25_c _ c (Nat.lt_succ_self _) hb;have hl:=large32_c c hb;refine sI func160 ntmps160 fun Hb Ht=>?_
 repeat first|simp|refine sR ?_
 refine sD (hs _ _) ?_;repeat first|simp|refine sR ?_
 by_cases h0:c.shs=0
 .simp only[h0];refine sC ?_;repeat first|simp|refine sR ?_
  refine sD (hl _ _) ?_;repeat first|simp|refine sR ?_
  by_cases h1:smallC c=0
  .simp only[h1];refine sC ?_;repeat first|simp|refine sR ?_
   refine sD (hm _ _) ?_;repeat first|simp|refine sR ?_
   refine sT (sH Hb Ht ?_);simp[sizeR,h0,h1]
  .have b1:(smallC c !=0)=true:=by simp[h1]
   simp only[b1];refine sC ?_;repeat first|simp|refine sR ?_
   refine sT (sH Hb Ht ?_);simp[sizeR,h0,h1]
 .have b0:(c.shs !=0)=true:=by simp[h0]
  simp only[b0];refine sC ?_;repeat first|simp|refine sR ?_
  refine sT (sH Hb Ht ?_);simp[sizeR,h0]
def stO6(a:Gr)(c:Cd)(nb:Nat)(box:Bxs)(tok:Tks)(nt:Nat)(i:Nat):AS :=
 ⟨tl [(7,I i),(2,.ptr (nb+2) 0 0),(3,.ptr (nb+3) 0 0)],lb nb box [(2,[a.cells2]),(3,[c.row])],tok,nt⟩
theorem shape_kind{c:Cd}(h:shapeC c=0)(h5:c.kind=5):c.kids.length=1:=by
 unfold shapeC at h;split at h
 .rename_i hk;simp[okC,h5] at hk;omega
 .omega
theorem errL_one{f:Cd->Int}{l:List Cd}(h:l.length=1):errL f l=f (l[0]'(by omega)):=by
 match l,h with
 | [x],_=>simp only[errL];split<;>simp_all
theorem over36_c:∀(n:Nat) (c:Cd),SizeOf.sizeOf c<n->c.Fit->∀(a:Gr),a.Fit->∀(tok:Tks) (nt:Nat),DCall prog 122 [a.av,c.av] tok nt (I (c.ovr a)) tok nt
 | 0,c,hn,_,a,_,tok,nt=>absurd hn (Nat.not_lt_zero _)
 | n+1,c,hn,hb,a,ha,tok,nt=>by
  intro box nb;have ih:=fun x (hx:x∈c.kids)=>over36_c n x (by have:=Cd.kid_lt hx;omega) (hb.kid x hx)
  have hkb:=hb.kids;rw[kidN_eq] at hkb;have hR:=c.ovr_eq a;have hsh:=shape48_c c hb.big;have hva:=valid53_c a c.g c.m ha hb.g;have hin:=injective26_c a c.g c.m ha hb.g hb.m;have hg:=hb.g;refine sI func122 ntmps122 fun Hb Ht=>?_
  repeat first|simp|refine sR ?_
  refine sD (hsh _ _) ?_;repeat first|simp|refine sR ?_
  by_cases h0:shapeC c=0
  .simp[h0];refine sC ?_;repeat first|simp|refine sR ?_
   have hst:ovrStep a c.kind c.m c.g=if c.kind=5 then (if validM a c.g c.m≠0 then validM a c.g c.m else if injM a c.g c.m=true then 0 else 1) else 0:=rfl
   by_cases k5:c.kind=5
   .have hii:c.inn a=c.g:=if_pos k5
    have h1k:=shape_kind h0 k5;have hlt:0<c.kids.length:=by omega
    rw[if_pos k5] at hst;rw[hii,errL_one h1k] at hR;have n5:(c.kind==5)=true:=by simp[k5]
    simp only[n5];refine sC ?_;repeat first|simp|refine sR ?_
    refine sD (hva _ _) ?_;repeat first|simp|refine sR ?_
    by_cases h1:validM a c.g c.m=0
    .rw[if_neg (by simp[h1])] at hst;simp[h1];refine sC ?_;repeat first|simp|refine sR ?_
     refine sD (hin _ _) ?_;repeat first|simp|refine sR ?_
     cases h2:injM a c.g c.m
     .simp[h2] at hst;refine sC ?_;repeat first|simp|refine sR ?_
      refine sT (sH Hb Ht ?_);simp[hR,h0,hst]
     .simp[h2] at hst;have ihx:=ih _ (List.getElem_mem hlt);refine sC ?_;simp;repeat first|simp[hlt,Cd.cells_eq]|refine sR ?_
      generalize c.kids[0]=x at *;refine sD (ihx _ hg _ _) ?_;simp;refine sT (sH Hb Ht ?_);simp[hR,h0,hst]
    .rw[if_pos (by simpa using h1)] at hst;have b1:(validM a c.g c.m !=0)=true:=by simp[h1]
     simp only[b1];refine sC ?_;repeat first|simp|refine sR ?_
     refine sT (sH Hb Ht ?_);simp[hR,h0,hst,h1]
   .have hii:c.inn a=a:=if_neg k5
    have n5:(c.kind==5)=false:=by simp[k5]
    rw[if_neg k5] at hst;rw[if_pos h0,if_pos hst,hii] at hR;simp only[n5];refine sC ?_;repeat first|simp|refine sR ?_
    refine sN ?_;refine sL (stO6 a c nb box tok nt) (fun i=>i<=c.kids.length/\∀x∈c.kids.take i,Cd.ovr x a=0) (fun i=>c.kids.length-i) 0 ⟨Nat.zero_le _,by simp⟩ wkA ?_;rintro i S ⟨hi,hz⟩ hS;simp only[stO6] at hS;subst hS;have hw:=sW (i:=i) (by omega);repeat first|simp|refine sR ?_|refine sC ?_
    refine⟨fun hlt=>?_,fun hge=>?_⟩
    .have ihx:=ih _ (List.getElem_mem hlt);have hyes:=errL_more (f:=fun x=>Cd.ovr x a) hlt hz;have hno:=errL_at (f:=fun x=>Cd.ovr x a) hlt hz;repeat first|simp[hlt,Cd.cells_eq]|refine sR ?_
     generalize c.kids[i]=x at *;refine sD (ihx _ ha _ _) ?_;repeat first|simp|refine sR ?_
     by_cases h1:x.ovr a=0
     .simp only[h1];refine sC ?_;simp;repeat first|simp[hw]|refine sR ?_
      refine sE ?_;exact⟨i+1,⟨hlt,hyes h1⟩,by omega,wkA⟩
     .have b1:(x.ovr a !=0)=true:=by simp[h1]
      simp only[b1];refine sC ?_;repeat first|simp|refine sR ?_
      refine sT (sH Hb Ht ?_);simp[hR,hno h1]
    .refine sX ?_;simp only[AU,↓reduceIte];rw[List.take_of_length_le hge] at hz;repeat first|simp|refine sR ?_
     refine sT (sH Hb Ht ?_);simp[hR,errL_all (f:=fun x=>Cd.ovr x a) hz]
  .rw[if_neg h0] at hR;have b0:(shapeC c !=0)=true:=by simp[h0]
   simp only[b0];refine sC ?_;repeat first|simp|refine sR ?_
   refine sT (sH Hb Ht ?_);simp[hR]
theorem validR_c(a:Gr)(c:Cd)(ha:a.Fit)(hb:c.Fit):DC 63 [a.av,c.av] (I (validC a c)):=by
 intro tok nt box nb;have hg:=valid05_c a ha;have ho:=over36_c _ c (Nat.lt_succ_self _) hb a ha;have hs:=large32_c c hb.big;refine sI func63 ntmps63 fun Hb Ht=>?_
 repeat first|simp|refine sR ?_
 refine sD (hg _ _) ?_;repeat first|simp|refine sR ?_
 by_cases h0:vG a=0
 .simp only[h0];refine sC ?_;repeat first|simp|refine sR ?_
  refine sD (ho _ _) ?_;repeat first|simp|refine sR ?_
  by_cases h1:c.ovr a=0
  .simp only[h1];refine sC ?_;repeat first|simp|refine sR ?_
   refine sD (hs _ _) ?_;repeat first|simp|refine sR ?_
   refine sT (sH Hb Ht ?_);simp[validC,h0,h1]
  .have b1:(c.ovr a !=0)=true:=by simp[h1]
   simp only[b1];refine sC ?_;repeat first|simp|refine sR ?_
   refine sT (sH Hb Ht ?_);simp[validC,h0,h1]
 .have b0:(vG a !=0)=true:=by simp[h0]
  simp only[b0];refine sC ?_;repeat first|simp|refine sR ?_
  refine sT (sH Hb Ht ?_);simp[validC,h0]
abbrev Mo.cells2(m:Mo):List AV:=[.d (ints m.nodes),.d (ints m.edges)]
theorem errL_zero{f:Cd->Int}:∀{l:List Cd},errL f l=0->∀x∈l,f x=0
 | [],_,x,hx=>by cases hx
 | y::r,h,x,hx=>by
  simp only[errL] at h;split at h
  .rename_i h0;rcases List.mem_cons.1 hx with rfl|hx
   .exact h0
   .exact errL_zero h x hx
  .contradiction
theorem Cd.ovr_zero{c:Cd}{a:Gr}(h:c.ovr a=0):shapeC c=0/\ovrStep a c.kind c.m c.g=0/\∀x∈c.kids,x.ovr (c.inn a)=0:=by
 rw[c.ovr_eq] at h;split at h
 .rename_i h0;split at h
  .rename_i h1;exact⟨h0,h1,errL_zero h⟩
  .contradiction
 .contradiction
theorem shape_one{c:Cd}(h:shapeC c=0)(h5:c.kind=2∨c.kind=5):0<c.kids.length:=by
 unfold shapeC at h;split at h
 .rename_i hk;rcases h5 with h5|h5<;>simp[okC,h5] at hk<;>omega
 .omega
theorem ThR.nil{t k sz:Nat}{es:List (List D)}:ThR t k sz es [] []:=⟨rfl,fun i h=>by simp at h⟩
theorem ThR.cons{t k sz:Nat}{es:List (List D)}{x y:AV}{r r':List AV}(h:ThTo t k sz es x y)(hr:ThR t k sz es r r'):ThR t k sz es (x::r) (y::r'):=by
 refine⟨by simp[hr.1],fun i h1 h2=>?_⟩
 match i with
 | 0=>exact h
 | i+1=>exact hr.2 i (by simpa using h1) (by simpa using h2)
theorem ThRs.one{t k sz:Nat}{es:List (List D)}{r r':List AV}(h:ThR t k sz es r r'):ThRs t k sz es [r] [r']:=by
 refine⟨rfl,fun i h1 h2=>?_⟩
 match i with
 | 0=>exact h
 | i+1=>simp at h1
theorem ThRs.same{t k sz:Nat}{es:List (List D)}{r:List (List AV)}:ThRs t k sz es r r:=⟨rfl,fun i h1 h2=>⟨rfl,fun j g1 g2=>.same⟩⟩
theorem arrR_valid{a b:Gr}{m:Mo}(h:arrR a b m=0):validM a b m=0/\injM a b m=true:=by
 unfold arrR at h;split at h
 .contradiction
 .rename_i h1;split at h
  .rename_i h2;exact⟨by simpa using h1,h2⟩
  .contradiction
theorem validC_ovr{a:Gr}{c:Cd}(h:validC a c=0):vG a=0/\c.ovr a=0/\smallC c=0:=by
 unfold validC at h;split at h
 .contradiction
 .rename_i h1;split at h
  .contradiction
  .rename_i h2;exact⟨by simpa using h1,by simpa using h2,h⟩
def agrK(a b c d:List Int)(i:Nat):Bool:=decide (∀j,j<i->b.getD (a.getD j 0).toNat 0=d.getD (c.getD j 0).toNat 0)
def stAg(a b c d:List Int)(nb:Nat)(box:Bxs)(tok:Tks)(nt:Nat)(i:Nat):AS :=
 ⟨tl [(11,I a.length),(12,I i),(0,.d (ints a)),(1,.d (ints b)),(2,.d (ints c)),(3,.d (ints d))],lb nb box [],tok,nt⟩
theorem agree_c(a b c d:List Int)(hl:a.length<=1000000)(h1:∀x∈a,0<=x/\x<b.length)(hc:a.length<=c.length)(h2:∀x∈c,0<=x/\x<d.length):DC 251 [.d (ints a),.d (ints b),.d (ints c),.d (ints d)] (B (agrK a b c d a.length)):=by
 intro tok nt box nb;refine sI func251 ntmps251 fun Hb Ht=>?_
 repeat first|simp|refine sR ?_
 refine sN ?_;refine sL (stAg a b c d nb box tok nt) (fun i=>i<=a.length/\agrK a b c d i=true) (fun i=>a.length-i) 0 ⟨Nat.zero_le _,by simp[agrK]⟩ wkA ?_;rintro i S ⟨hi,hz⟩ hS;simp only[stAg] at hS;subst hS;have hw:=sW (i:=i) (by omega);repeat first|simp|refine sR ?_|refine sC ?_
 refine⟨fun hlt=>?_,fun hge=>?_⟩
 .have hic:i<c.length:=by omega
  obtain⟨x1,x2⟩:=h1 _ (List.getElem_mem hlt);obtain⟨y1,y2⟩:=h2 _ (List.getElem_mem hic);have x3:a[i].toNat<b.length:=by omega
  have y3:c[i].toNat<d.length:=by omega
  have hyes:b[a[i].toNat]=d[c[i].toNat]->agrK a b c d (i+1)=true:=fun he=>by
   simp only[agrK,decide_eq_true_eq] at hz ⊢;intro j hj;by_cases e:j=i
   .subst e;simpa[hlt,hic,x3,y3] using he
   .exact hz j (by omega)
  have hno:b[a[i].toNat]≠d[c[i].toNat]->agrK a b c d a.length=false:=fun he=>by
   simp only[agrK,decide_eq_false_iff_not];intro h;have:=h i hlt
   simp[hlt,hic,x3,y3] at this;exact he this
  repeat first|simp[hlt,hic,x1,x3,y1,y3,x2,y2]|refine sR ?_
  by_cases he:b[a[i].toNat]=d[c[i].toNat]
  .have hy:=hyes he;simp only[he];refine sC ?_;simp;repeat first|simp[hw]|refine sR ?_
   refine sE ?_;exact⟨i+1,⟨hlt,hy⟩,by omega,wkA⟩
  .have hn:=hno he;have bn:(b[a[i].toNat]!=d[c[i].toNat])=true:=by simp[he]
   simp only[bn];refine sC ?_;repeat first|simp|refine sR ?_
   refine sT (sH Hb Ht ?_);simp[hn]
 .refine sX ?_;simp only[AU,↓reduceIte];have:i=a.length:=by omega
  subst this;repeat first|simp|refine sR ?_
  refine sT (sH Hb Ht ?_);simp[hz]
structure Inn (m:Mo) (a b:Gr):Prop where
 ln:m.nodes.length=a.nodes.length
 le:m.edges.length=a.edges.length
 n:∀x∈m.nodes,0<=x/\x<b.nodes.length
 e:∀x∈m.edges,0<=x/\x<b.edges.length
theorem Inn.of{a b:Gr}{m:Mo}(h:validM a b m=0):Inn m a b:=have V:=validM_VM h;⟨V.ln,V.le,V.n,V.e⟩
structure OvOk (b p:Gr) (o:Ov):Prop where
 l:validM b o.g o.l=0
 r:validM p o.g o.r=0
 il:injM b o.g o.l=true
 ir:injM p o.g o.r=true
theorem overlapsR_ok{b p:Gr}{o:Ov}(ho:o∈(oR b p).1):OvOk b p o:=by
 by_cases hb:vG b=0
 .by_cases hp:vG p=0
  .by_cases hs:40<b.nodes.length+p.nodes.length∨80<b.edges.length+p.edges.length
   .simp[oR,hb,hp,hs] at ho
   .rw[overlapsR_list b p hb hp hs] at ho;split at ho
    .simp at ho
    .simp only[listO,List.mem_map] at ho;obtain⟨⟨x,es⟩,h1,rfl⟩:=ho;have hp1:=(pairsM_mem b p _).1 h1;have g1:=glue_law hb hp (by omega) hp1;have g2:=glue_law2 hb hp (by omega) hp1;exact⟨g1.2.1,g1.2.2,g2.1,g2.2.1⟩
  .simp[oR,hb,hp] at ho
 .simp[oR,hb] at ho
theorem overlapsR_err{b p:Gr}(hb:vG b=0)(hp:vG p=0):(oR b p).2=0∨(oR b p).2=3:=by
 unfold oR;rw[if_neg (by simp[hb]),if_neg (by simp[hp])];split
 .exact .inr rfl
 .split
  .exact .inr rfl
  .exact .inl rfl
abbrev St2:=Int × Int
def seqL{α:Type}(f:α->St2->List Cd × St2):List α->St2->List Cd × St2
 | [],st=>([],st)
 | x::r,st=>((f x st).1++(seqL f r (f x st).2).1,(seqL f r (f x st).2).2)
theorem seqL_append{α:Type}(f:α->St2->List Cd × St2)(x:α):∀(l:List α) (st:St2),seqL f (l++[x]) st=((seqL f l st).1++(f x (seqL f l st).2).1,(f x (seqL f l st).2).2)
 | [],st=>by simp[seqL]
 | y::r,st=>by simp[seqL,seqL_append f x r]
theorem seqL_take{α:Type}(f:α->St2->List Cd × St2)(l:List α)(st:St2){i:Nat}(h:i<l.length):
  seqL f (l.take (i+1)) st=((seqL f (l.take i) st).1++(f l[i] (seqL f (l.take i) st).2).1,(f l[i] (seqL f (l.take i) st).2).2):=by
 rw[List.take_succ_eq_append_getElem h,seqL_append]
def cdOf(k:Int)(kids:List Cd):Cd:=.mk k kids ⟨[],[]⟩ ⟨[],[]⟩ [] 0 []
def exOf(o:Ov)(kid:Cd):Cd:=.mk 5 [kid] o.l o.g [] 0 []
def agrO(m mm:Mo)(o:Ov):Bool:=agrK m.nodes o.l.nodes mm.nodes o.r.nodes m.nodes.length&&agrK m.edges o.l.edges mm.edges o.r.edges m.edges.length
def inc(n:Int):Int:=IntKind.i64.wrap (n+1)
def ovF(m mm:Mo)(H:Gr->Mo->St2->Cd × St2)(o:Ov)(st:St2):List Cd × St2 :=
 if agrO m mm o=true then ([exOf o (H o.g o.r (inc st.1,st.2)).1],(H o.g o.r (inc st.1,st.2)).2) else ([],st)
def st1(st:St2):St2:=(inc st.1,if 2000<inc st.1 then 3 else st.2)
def shStep(k:Int)(mm:Mo)(p b:Gr)(m:Mo)(st:St2)(L:St2->List Cd × St2)(H:Gr->Mo->St2->Cd × St2):Cd × St2 :=
 if (st1 st).2≠0 then (cdOf k [],st1 st)
 else if k≠5 then (cdOf k (L (st1 st)).1,(L (st1 st)).2)
 else if (oR b p).2≠0 then (cdOf 4 [],((st1 st).1,(oR b p).2))
 else (cdOf 4 (seqL (ovF m mm H) (oR b p).1 (st1 st)).1,(seqL (ovF m mm H) (oR b p).1 (st1 st)).2)
mutual
def Cd.shf:Cd->Gr->Mo->St2->Cd × St2
 | .mk k c mm p s v t,b,m,st=>shStep k mm p b m st (fun st=>Cd.shfL c b m st) (fun b m st=>Cd.shfH c b m st)
def Cd.shfL:List Cd->Gr->Mo->St2->List Cd × St2
 | [],_,_,st=>([],st)
 | x::r,b,m,st=>([(Cd.shf x b m st).1]++(Cd.shfL r b m (Cd.shf x b m st).2).1,(Cd.shfL r b m (Cd.shf x b m st).2).2)
def Cd.shfH:List Cd->Gr->Mo->St2->Cd × St2
 | [],_,_,st=>(cdOf 0 [],st)
 | x::_,b,m,st=>Cd.shf x b m st
end
def shF(b:Gr)(m:Mo)(x:Cd)(st:St2):List Cd × St2:=([(Cd.shf x b m st).1],(Cd.shf x b m st).2)
theorem Cd.shfL_eq(b:Gr)(m:Mo):∀(l:List Cd) (st:St2),Cd.shfL l b m st=seqL (shF b m) l st
 | [],st=>by simp[Cd.shfL,seqL]
 | x::r,st=>by simp[Cd.shfL,seqL,shF,Cd.shfL_eq b m r]
theorem Cd.shf_eq(c:Cd)(b:Gr)(m:Mo)(st:St2):c.shf b m st=shStep c.kind c.m c.g b m st (fun st=>seqL (shF b m) c.kids st) (fun b m st=>Cd.shfH c.kids b m st):=by
 cases c;simp only[Cd.shf,Cd.shfL_eq];rfl
theorem nodup_getD{l:List Int}:l.Nodup↔∀i j,i<j->j<l.length->l.getD i 0≠l.getD j 0:=by
 unfold List.Nodup;rw[List.pairwise_iff_getElem];constructor
 .intro h i j hij hj;have:=h i j (by omega) hj hij
  simpa[hj,show i<l.length by omega] using this
 .intro h i j hi hj hij;have:=h i j hij hj
  simpa[hi,hj] using this
theorem ext_getD{l l':List Int}(h:l.length=l'.length)(h2:∀j,j<l.length->l.getD j 0=l'.getD j 0):l=l' :=
 List.ext_getElem h fun i h1 h3=>by have:=h2 i h1;simpa[h1,h3] using this
theorem set_getD_same{l:List Int}{i:Nat}(h:i<l.length)(v:Int):(l.set i v).getD i 0=v:=by simp[h]
theorem set_getD_other{l:List Int}{i j:Nat}(h:j≠i)(v:Int):(l.set i v).getD j 0=l.getD j 0:=by
 simp[List.getElem?_set,show ¬i=j by omega]
def NN(L:List Int):Prop:=∀i j,i<j->j<L.length->0<=L.getD i 0->L.getD i 0≠L.getD j 0
theorem img_spec{n:Nat}{by' m:List Int}(hr:∀x∈by',0<=x/\x<n)(hnd:by'.Nodup):∀i,i<=by'.length ->
  (∀j,j<i->(imgK n by' m i).getD (by'.getD j 0).toNat 0=m.getD j 0)/\∀x:Nat,x<n->(∀j,j<i->by'.getD j 0≠x)->(imgK n by' m i).getD x 0 = -1
 | 0,_=>⟨fun j hj=>absurd hj (Nat.not_lt_zero _),fun x hx _=>by simp[imgK,hx]⟩
 | i+1,hi=>by
  obtain⟨h1,h2⟩:=img_spec (m:=m) hr hnd i (by omega);have hb:=hr _ (getD_mem (d:=0) (show i<by'.length by omega));have hlt:(by'.getD i 0).toNat<(imgK n by' m i).length:=by rw[imgK_len];omega
  refine⟨fun j hj=>?_,fun x hx hno=>?_⟩
  .simp only[imgK];by_cases e:j=i
   .subst e;exact set_getD_same hlt _
   .have hb':=hr _ (getD_mem (d:=0) (show j<by'.length by omega))
    have hne:(by'.getD j 0).toNat≠(by'.getD i 0).toNat:=fun e'=>e (getD_inj hnd (by omega) (by omega) (by omega))
    rw[set_getD_other hne];exact h1 j (by omega)
  .simp only[imgK];have:=hno i (by omega)
   rw[set_getD_other (by omega)];exact h2 x hx fun j hj=>hno j (by omega)
theorem img_cases{n:Nat}{by' m:List Int}(hr:∀x∈by',0<=x/\x<n)(hnd:by'.Nodup)(x:Nat)(hx:x<n):
  (∃j,j<by'.length/\by'.getD j 0=x/\(imgK n by' m by'.length).getD x 0=m.getD j 0)∨(∀j,j<by'.length->by'.getD j 0≠x)/\(imgK n by' m by'.length).getD x 0 = -1:=by
 obtain⟨h1,h2⟩:=img_spec (m:=m) hr hnd by'.length (nr _)
 by_cases h:∃j,j<by'.length/\by'.getD j 0=x
 .obtain⟨j,hj,e⟩:=h;refine .inl ⟨j,hj,e,?_⟩;have:=h1 j hj
  rwa [e,Int.toNat_natCast] at this
 .have h':∀j,j<by'.length->by'.getD j 0≠x:=fun j hj e=>h ⟨j,hj,e⟩
  exact .inr ⟨h',h2 x hx h'⟩
theorem img_NN{n:Nat}{by' m:List Int}(hr:∀x∈by',0<=x/\x<n)(hnd:by'.Nodup)(hl:by'.length=m.length)(hm:m.Nodup)(hp:∀x∈m,0<=x):NN (imgK n by' m by'.length):=fun i j hij hj h0 he=>by
 rw[imgK_len] at hj;rcases img_cases (m:=m) hr hnd i (by omega) with ⟨k,k1,k2,k3⟩|⟨_,k3⟩
 .rcases img_cases (m:=m) hr hnd j hj with ⟨q,q1,q2,q3⟩|⟨_,q3⟩
  .rw[k3,q3] at he;have:=getD_inj hm (by omega) (by omega) he
   subst this;omega
  .have:=hp _ (getD_mem (d:=0) (show k<m.length by omega))
   omega
 .omega
structure Emb (a b:Gr) (m:Mo):Prop where
 v:validM a b m=0
 n:m.nodes.Nodup
 e:m.edges.Nodup
theorem Emb.vm{a b:Gr}{m:Mo}(h:Emb a b m):VM a b m:=validM_VM h.v
theorem Emb.inj{a b:Gr}{m:Mo}(h:Emb a b m):injM a b m=true:=(injM_iff a b m).2 ⟨h.v,h.n,h.e⟩
theorem Emb.of{a b:Gr}{m:Mo}(h:injM a b m=true):Emb a b m:=have h:=(injM_iff a b m).1 h;⟨h.1,h.2.1,h.2.2⟩
theorem Emb.inn{a b:Gr}{m:Mo}(h:Emb a b m):Inn m a b:=have V:=h.vm;⟨V.ln,V.le,V.n,V.e⟩
theorem byK_all(l h:List Int):(byK l h l.length).length=l.length:=by simp
theorem byK_getD{l h:List Int}{i:Nat}(hi:i<l.length):(byK l h l.length).getD i 0=h.getD (l.getD i 0).toNat 0:=by simp[byK,hi]
theorem nat_of{x:Int}{n:Nat}(h:0<=x/\x<n):x.toNat<n/\((x.toNat:Nat):Int)=x:=by omega
theorem byK_nodup{l h:List Int}{n:Nat}(hl:l.Nodup)(hh:h.Nodup)(hr:∀x∈l,0<=x/\x<h.length):(byK l h l.length).Nodup:=by
 rw[nodup_getD];intro i j hij hj;rw[byK_all] at hj;rw[byK_getD (by omega),byK_getD hj];intro e;have h1:=hr _ (getD_mem (d:=0) (show i<l.length by omega));have h2:=hr _ (getD_mem (d:=0) hj);have:=getD_inj hh (by omega) (by omega) e
 have:=getD_inj hl (show i<l.length by omega) hj (by omega)
 omega
theorem Emb.comp{a b c:Gr}{m n:Mo}(h:Emb a b m)(k:Emb b c n):Emb a c (thenM m n):=by
 have v:=h.vm;have w:=k.vm;have rn:∀x∈m.nodes,0<=x/\x<n.nodes.length:=fun x hx=>by rw[w.ln];exact v.n x hx
 have re:∀x∈m.edges,0<=x/\x<n.edges.length:=fun x hx=>by rw[w.le];exact v.e x hx
 have gn:∀i,i<a.nodes.length->(thenM m n).nodes.getD i 0=n.nodes.getD (m.nodes.getD i 0).toNat 0:=fun i hi=>byK_getD (by rw[v.ln];exact hi)
 have ge:∀i,i<a.edges.length->(thenM m n).edges.getD i 0=n.edges.getD (m.edges.getD i 0).toNat 0:=fun i hi=>byK_getD (by rw[v.le];exact hi)
 refine⟨validM_of ⟨v.va,w.vb,by rw[<-v.ln];exact byK_all _ _,by rw[<-v.le];exact byK_all _ _,fun x hx=>?_,fun x hx=>?_,fun i hi=>?_,fun i hi=>?_⟩,byK_nodup (n:=0) h.n k.n rn,byK_nodup (n:=0) h.e k.e re⟩
 .obtain⟨i,hi,rfl⟩:=mem_getD hx;have hi':i<a.nodes.length:=by rw[<-v.ln];simpa[thenM] using hi
  rw[gn i hi'];exact w.n _ (getD_mem (nat_of (rn _ (getD_mem (by rw[v.ln];exact hi')))).1)
 .obtain⟨i,hi,rfl⟩:=mem_getD hx;have hi':i<a.edges.length:=by rw[<-v.le];simpa[thenM] using hi
  rw[ge i hi'];exact w.e _ (getD_mem (nat_of (re _ (getD_mem (by rw[v.le];exact hi')))).1)
 .rw[gn i hi];have h1:=nat_of (v.n _ (getD_mem (d:=0) (show i<m.nodes.length by rw[v.ln];exact hi)));rw[w.nt _ h1.1,v.nt i hi]
 .rw[ge i hi];have h1:=nat_of (v.e _ (getD_mem (d:=0) (show i<m.edges.length by rw[v.le];exact hi)));rw[w.et _ h1.1,v.et i hi];have hx:=validG_edges v.va (a.edges.getD i default) (getD_mem hi);simp only;rw[gn _ (by omega),gn _ (by omega)]
theorem overlapsR_all{b p:Gr}(hb:vG b=0)(hp:vG p=0)(he:(oR b p).2=0):(oR b p).1=listO b p/\b.nodes.length+p.nodes.length<=40/\b.edges.length+p.edges.length<=80:=by
 by_cases hs:40<b.nodes.length+p.nodes.length∨80<b.edges.length+p.edges.length
 .simp[oR,hb,hp,hs] at he
 .have h:=overlapsR_list b p hb hp hs;rw[h] at he ⊢;split
  .rename_i h1;rw[if_pos h1] at he;cases he
  .exact⟨rfl,by omega,by omega⟩
theorem st1_zero{st:St2}(h:(st1 st).2=0):st.2=0/\inc st.1<=2000:=by
 unfold st1 at h;simp only at h;split at h
 .cases h
 .exact⟨h,by omega⟩
theorem shf_sticky{c:Cd}{b:Gr}{m:Mo}{st:St2}(h:(c.shf b m st).2.2=0):(st1 st).2=0:=by
 by_cases h1:(st1 st).2=0
 .exact h1
 .rw[c.shf_eq,shStep,if_pos h1] at h;exact h
theorem shfH_sticky{l:List Cd}{b:Gr}{m:Mo}{st:St2}(h:(Cd.shfH l b m st).2.2=0):st.2=0:=by
 cases l with
 | nil=>exact h
 | cons x r=>exact(st1_zero (shf_sticky h)).1
theorem ovF_sticky{m mm:Mo}{l:List Cd}{o:Ov}{st:St2}(h:(ovF m mm (fun b m st=>Cd.shfH l b m st) o st).2.2=0):st.2=0:=by
 unfold ovF at h;split at h
 .have h':(Cd.shfH l o.g o.r (inc st.1,st.2)).2.2=0:=h
  have h2:=shfH_sticky h';exact h2
 .exact h
theorem shF_sticky{b:Gr}{m:Mo}{x:Cd}{st:St2}(h:(shF b m x st).2.2=0):st.2=0:=(st1_zero (shf_sticky h)).1
section
variable {α:Type} {f:α->St2->List Cd × St2} (hs:∀x s,(f x s).2.2=0->s.2=0)
include hs
theorem seqL_sticky:∀(l:List α) s,(seqL f l s).2.2=0->s.2=0
 | [],s,h=>h
 | x::r,s,h=>hs _ _ (seqL_sticky r _ h)
end
theorem agrO_iff{a b p:Gr}{m x:Mo}{o:Ov}(hm:Inn m a b)(hx:Inn x a p):agrO m x o=true↔thenM m o.l=thenM x o.r:=by
 have key:∀(l l' h h':List Int),l.length=l'.length->((∀j,j<l.length->h.getD (l.getD j 0).toNat 0=h'.getD (l'.getD j 0).toNat 0)↔byK l h l.length=byK l' h' l'.length):=fun l l' h h' hl=>by
  constructor
  .intro e;refine ext_getD (by simp[hl]) fun j hj=>?_
   rw[byK_all] at hj;rw[byK_getD hj,byK_getD (by omega)];exact e j hj
  .intro e j hj;have:(byK l h l.length).getD j 0=(byK l' h' l'.length).getD j 0:=by rw[e]
   rwa [byK_getD hj,byK_getD (by omega)] at this
 simp only[agrO,agrK,Bool.and_eq_true,decide_eq_true_eq,thenM,Mo.mk.injEq];rw[key _ _ _ _ (by rw[hm.ln,hx.ln]),key _ _ _ _ (by rw[hm.le,hx.le])]
theorem ovr_ex{c:Cd}{a:Gr}(h:c.ovr a=0)(k5:c.kind=5):Emb a c.g c.m/\∃x,c.kids=[x]:=by
 obtain⟨h0,h1,_⟩:=Cd.ovr_zero h;have hl:=shape_kind h0 k5;rw[ovrStep,if_pos k5] at h1;split at h1
 .contradiction
 .split at h1
  .rename_i h2;exact⟨Emb.of h2,List.length_eq_one_iff.1 hl⟩
  .cases h1
theorem ovs_emb{b p:Gr}{o:Ov}(ho:o∈(oR b p).1):Emb b o.g o.l/\Emb p o.g o.r:=⟨Emb.of (overlapsR_ok ho).il,Emb.of (overlapsR_ok ho).ir⟩
mutual
def Cd.cnt:Cd->Nat
 | .mk _ c _ _ _ _ _=>1+Cd.cntL c
def Cd.cntL:List Cd->Nat
 | []=>0
 | x::r=>Cd.cnt x+Cd.cntL r
end
mutual
def Cd.dep:Cd->Nat
 | .mk k c _ _ _ _ _=>Cd.depL c+if k=5 then 1 else 0
def Cd.depL:List Cd->Nat
 | []=>0
 | x::r=>max (Cd.dep x) (Cd.depL r)
end
theorem Cd.cnt_eq(c:Cd):c.cnt=1+Cd.cntL c.kids:=by cases c;rw[Cd.cnt];rfl
theorem Cd.dep_eq(c:Cd):c.dep=Cd.depL c.kids+if c.kind=5 then 1 else 0:=by cases c;rw[Cd.dep];rfl
theorem Cd.cntL_append:∀l r:List Cd,Cd.cntL (l++r)=Cd.cntL l+Cd.cntL r
 | [],r=>by simp[Cd.cntL]
 | x::l,r=>by simp only[List.cons_append,Cd.cntL,Cd.cntL_append l r];omega
theorem Cd.cnt_mem:∀{l:List Cd} {x:Cd},x∈l->x.cnt<=Cd.cntL l
 | y::r,x,h=>by
  simp only[Cd.cntL];rcases List.mem_cons.1 h with rfl|h
  .omega
  .have:=Cd.cnt_mem h;omega
theorem Cd.depL_le{n:Nat}:∀{l:List Cd},(∀x∈l,x.dep<=n)->Cd.depL l<=n
 | [],_=>by simp[Cd.depL]
 | x::r,h=>by
  simp only[Cd.depL];have h1:=h x (by simp);have h2:=Cd.depL_le (l:=r) fun y hy=>h y (by simp[hy])
  omega
mutual
theorem Cd.dep_cnt:∀c:Cd,c.dep<=c.cnt
 | .mk k c _ _ _ _ _=>by
  have:=Cd.depL_cntL c
  simp only[Cd.dep,Cd.cnt];split<;>omega
theorem Cd.depL_cntL:∀l:List Cd,Cd.depL l<=Cd.cntL l
 | []=>by simp[Cd.depL]
 | x::r=>by
  have h1:=Cd.dep_cnt x;have h2:=Cd.depL_cntL r;simp only[Cd.depL,Cd.cntL];omega
end
mutual
theorem Cd.meas_cnt:∀c:Cd,c.cnt<=4611686018427387904->c.meas=((c.cnt:Int),(c.dep:Int))
 | .mk k c _ _ _ _ _,h=>by
  simp only[Cd.cnt] at h;have h1:=Cd.measL_cnt c 1 0 h;have h2:=Cd.depL_cntL c;have h3:Cd.measL c (1,0)=(((1+Cd.cntL c:Nat):Int),((max 0 (Cd.depL c):Nat):Int)):=h1
  rw[Cd.meas];simp only[h3,Cd.cnt,Cd.dep,Nat.zero_max];split
  .rw[wrap_in (by omega) (by omega)];rfl
  .rfl
theorem Cd.measL_cnt:∀(l:List Cd) (s d:Nat),s+Cd.cntL l<=4611686018427387904->Cd.measL l ((s:Int),(d:Int))=(((s+Cd.cntL l:Nat):Int),((max d (Cd.depL l):Nat):Int))
 | [],s,d,_=>by simp[Cd.measL,Cd.cntL,Cd.depL]
 | x::r,s,d,h=>by
  simp only[Cd.cntL] at h;have h1:=Cd.meas_cnt x (by omega);have hw:IntKind.i64.wrap ((s:Int)+(x.cnt:Int))=((s+x.cnt:Nat):Int):=by rw[wrap_in (by omega) (by omega)];rfl
  have hm:max (d:Int) (x.dep:Int)=((max d x.dep:Nat):Int):=by omega
  have h2:=Cd.measL_cnt r (s+x.cnt) (max d x.dep) (by omega);simp only[Cd.measL,h1,hw,hm,h2,Cd.cntL,Cd.depL];rw[Nat.add_assoc,Nat.max_assoc]
end
theorem img_isM{n q:Nat}{by' m:List Int}(hr:∀x∈by',0<=x/\x<n)(hnd:by'.Nodup)(hl:by'.length=m.length)(hm:m.Nodup)(hp:∀x∈m,0<=x/\x<q)(ok:Nat->Nat->Bool)(hok:∀j i k,j<by'.length->by'.getD j 0=(i:Nat)->m.getD j 0=(k:Nat)->i<n->k<q->ok i k=true):isM ok q n (imgK n by' m by'.length):=by
 refine⟨imgK_len _ _ _ _,fun i hi=>?_⟩;rcases img_cases (m:=m) hr hnd i hi with ⟨j,hj,e1,e2⟩|⟨_,e2⟩
 .have hb:=hp _ (getD_mem (d:=0) (show j<m.length by omega));refine .inr ⟨(m.getD j 0).toNat,by rw[e2];omega,by omega,hok j i _ hj e1 (by omega) hi (by omega),fun hmem=>?_⟩;obtain⟨k,hk,hke⟩:=mem_getD hmem;have hki:k<i:=by simp at hk;omega
  have h1:(imgK n by' m by'.length).getD k 0=(imgK n by' m by'.length).getD i 0:=by
   rw[e2];have:(List.take i (imgK n by' m by'.length)).getD k 0=(imgK n by' m by'.length).getD k 0:=by
    simp only[List.getD_eq_getElem?_getD];rw[List.getElem?_take_of_lt hki]
   rw[<-this,hke];omega
  exact img_NN hr hnd hl hm (fun x hx=>(hp x hx).1) k i hki (by rw[imgK_len];exact hi) (by rw[h1,e2];omega) h1
 .exact .inl e2
theorem agr_ex{a b p:Gr}{m x:Mo}(hm:Emb a b m)(hx:Emb a p x)(he:(oR b p).2=0):∃o∈(oR b p).1,agrO m x o=true:=by
 have v:=hm.vm;have w:=hx.vm;obtain⟨h1,h2,h3⟩:=overlapsR_all v.vb w.vb he;have ea:=validG_edges v.va;have imn:=(img_spec (m:=m.nodes) w.n hx.n _ (nr _)).1;have ime:=(img_spec (m:=m.edges) w.e hx.e _ (nr _)).1;have hpr:isPair b p (imgK p.nodes.length x.nodes m.nodes x.nodes.length,imgK p.edges.length x.edges m.edges x.edges.length):=by
  refine⟨img_isM w.n hx.n (by rw[v.ln,w.ln]) hm.n v.n _ fun j i k hj e1 e2 hi hk=>?_,img_isM w.e hx.e (by rw[v.le,w.le]) hm.e v.e _ fun j i k hj e1 e2 hi hk=>?_⟩
  .have hj':j<a.nodes.length:=by rw[<-w.ln];exact hj
   have g1:=v.nt j hj';have g2:=w.nt j hj';rw[e2,Int.toNat_natCast] at g1;rw[e1,Int.toNat_natCast] at g2;unfold okN;rw[decide_eq_true_eq,g1,g2]
  .have hj':j<a.edges.length:=by rw[<-w.le];exact hj
   have g1:=v.et j hj';have g2:=w.et j hj';rw[e2,Int.toNat_natCast] at g1;rw[e1,Int.toNat_natCast] at g2;have hx':=ea (a.edges.getD j default) (getD_mem hj')
   unfold okE;rw[decide_eq_true_eq,g1,g2];simp only;have f1:=imn (a.edges.getD j default).fr.toNat (by rw[w.ln];omega);have f2:=imn (a.edges.getD j default).to.toNat (by rw[w.ln];omega);rw[f1,f2]
 have hg:=glued_of (validG_edges v.vb) (validG_edges w.vb) hpr;have hmem:glue b p (imgK p.nodes.length x.nodes m.nodes x.nodes.length) (imgK p.edges.length x.edges m.edges x.edges.length)∈(oR b p).1:=by
  rw[h1];exact List.mem_map.2 ⟨_,(pairsM_mem b p _).2 hpr,rfl⟩
 refine⟨_,hmem,?_⟩;rw[agrO_iff hm.inn hx.inn];have key:∀(n:Nat) (l l' I R:List Int),l.length=l'.length->I=iota n->(∀y∈l,0<=y/\y<n)->(∀j,j<l.length->R.getD (l'.getD j 0).toNat 0=l.getD j 0)->byK l I l.length=byK l' R l'.length:=fun n l l' I R hl hI hr hR=>by
  subst hI;refine ext_getD (by simp[hl]) fun j hj=>?_
  rw[byK_all] at hj;have:=hr _ (getD_mem (d:=0) hj)
  rw[byK_getD hj,byK_getD (by omega),hR j hj,iota_getD (nat_of this).1];omega
 have en:=hg.n.pos;have ee:=hg.e.pos;have l1:(glue b p (imgK p.nodes.length x.nodes m.nodes x.nodes.length) (imgK p.edges.length x.edges m.edges x.edges.length)).l.nodes=iota b.nodes.length:=rfl
 have l2:(glue b p (imgK p.nodes.length x.nodes m.nodes x.nodes.length) (imgK p.edges.length x.edges m.edges x.edges.length)).l.edges=iota b.edges.length:=rfl
 generalize glue b p (imgK p.nodes.length x.nodes m.nodes x.nodes.length) (imgK p.edges.length x.edges m.edges x.edges.length)=o at *;have kn:=key b.nodes.length m.nodes x.nodes o.l.nodes o.r.nodes (by rw[v.ln,w.ln]) l1 v.n fun j hj=>by
  have hj':j<x.nodes.length:=by rw[w.ln,<-v.ln];exact hj
  have g0:=imn j hj';have g1:=w.n _ (getD_mem (d:=0) hj');have g2:=(v.n _ (getD_mem (d:=0) hj)).1;rw[en _ (nat_of g1).1 (by rw[g0];omega),g0]
 have ke:=key b.edges.length m.edges x.edges o.l.edges o.r.edges (by rw[v.le,w.le]) l2 v.e fun j hj=>by
  have hj':j<x.edges.length:=by rw[w.le,<-v.le];exact hj
  have g0:=ime j hj';have g1:=w.e _ (getD_mem (d:=0) hj');have g2:=(v.e _ (getD_mem (d:=0) hj)).1;rw[ee _ (nat_of g1).1 (by rw[g0];omega),g0]
 simp only[thenM];rw[kn,ke]
theorem Cd.ovr_of{c:Cd}{a:Gr}(h1:shapeC c=0)(h2:ovrStep a c.kind c.m c.g=0)(h3:∀x∈c.kids,x.ovr (c.inn a)=0):c.ovr a=0:=by
 rw[Cd.ovr_eq,if_pos h1,if_pos h2];exact errL_all h3
theorem unused_cdOf(k:Int)(l:List Cd):unusedC (cdOf k l)=true:=rfl
theorem plain_cdOf(k:Int)(l:List Cd):plainC (cdOf k l)=true:=rfl
theorem shape_cdOf{c:Cd}(h:shapeC c=0)(k5:c.kind≠5){l:List Cd}(hl:l.length=c.kids.length):shapeC (cdOf c.kind l)=0:=by
 unfold shapeC at h;split at h
 .rename_i ho;rw[shapeC,if_pos,if_pos (plain_cdOf _ _)];simp only[okC,unused_cdOf,Bool.and_true] at ho ⊢;have e1:(cdOf c.kind l).kind=c.kind:=rfl
  have e2:(cdOf c.kind l).kids=l:=rfl
  rw[e1,e2,hl];split at ho
  .rename_i q;rw[if_pos q];exact(Bool.and_eq_true _ _ ▸ ho).1
  .rename_i q;rw[if_neg q];split at ho
   .rename_i q;rw[if_pos q];exact(Bool.and_eq_true _ _ ▸ ho).1
   .rename_i q;rw[if_neg q];split at ho
    .rename_i q;rw[if_pos q];exact(Bool.and_eq_true _ _ ▸ ho).1
    .rename_i q;first|cases ho|(rw[if_neg k5] at ho;cases ho)
 .cases h
theorem shape_or{l:List Cd}(h:0<l.length):shapeC (cdOf 4 l)=0:=by
 rw[shapeC,if_pos,if_pos (plain_cdOf _ _)];have e2:(cdOf 4 l).kids=l:=rfl
 have e1:(cdOf 4 l).kind=4:=rfl
 simp[okC,unused_cdOf,e1,e2,h]
theorem shape_exOf(o:Ov)(y:Cd):shapeC (exOf o y)=0:=rfl
structure Made (c:Cd) (b:Gr) (st:St2) (r:Cd × St2):Prop where
 ovr:r.1.ovr b=0
 cnt:r.2.1=st.1+r.1.cnt
 le:r.2.1<=2000
 ge:c.cnt<=r.1.cnt
 dep:r.1.dep<=c.dep
theorem inc_in{n:Int}(h0:0<=n)(h1:n<=2000):inc n=n+1:=wrap_in (by omega) (by omega)
theorem seqL_cnt{α:Type}{f:α->St2->List Cd × St2}(hs:∀x s,(f x s).2.2=0->s.2=0):∀(l:List α) (s:St2),0<=s.1->s.1<=2000->(∀x∈l,∀s,0<=s.1->s.1<=2000->(f x s).2.2=0->(f x s).2.1=s.1+Cd.cntL (f x s).1/\(f x s).2.1<=2000)->(seqL f l s).2.2=0 ->
  (seqL f l s).2.1=s.1+Cd.cntL (seqL f l s).1/\(seqL f l s).2.1<=2000
 | [],s,_,h1,_,_=>⟨by simp[seqL,Cd.cntL],h1⟩
 | x::r,s,h0,h1,h,hz=>by
  have hz1:(f x s).2.2=0:=seqL_sticky hs r _ hz
  obtain⟨g1,g2⟩:=h x (by simp) s h0 h1 hz1;have ih:=seqL_cnt hs r (f x s).2 (by omega) g2 (fun y hy=>h y (by simp[hy])) hz;simp only[seqL,Cd.cntL_append];omega
theorem shF_cnt{b:Gr}{m:Mo}:∀(l:List Cd) (s:St2),0<=s.1->s.1<=2000->(∀x∈l,∀s,0<=s.1->s.1<=2000->(x.shf b m s).2.2=0->Made x b s (x.shf b m s))->(seqL (shF b m) l s).2.2=0 ->
  Cd.cntL l<=Cd.cntL (seqL (shF b m) l s).1/\Cd.depL (seqL (shF b m) l s).1<=Cd.depL l/\(∀y∈(seqL (shF b m) l s).1,y.ovr b=0)/\(seqL (shF b m) l s).1.length=l.length
 | [],s,_,_,_,_=>⟨by simp[Cd.cntL],by simp[seqL,Cd.depL],by simp[seqL],rfl⟩
 | x::r,s,h0,h1,h,hz=>by
  have hz1:(x.shf b m s).2.2=0:=seqL_sticky (f:=shF b m) (fun _ _=>shF_sticky) r _ hz
  have hx:=h x (by simp) s h0 h1 hz1;have e1:=hx.cnt;have e2:=hx.le;have ih:=shF_cnt r (x.shf b m s).2 (by omega) e2 (fun y hy=>h y (by simp[hy])) hz;have e3:=hx.ge;have e4:=hx.dep;simp only[seqL,shF,List.singleton_append,Cd.cntL,Cd.depL,List.length_cons];obtain⟨i1,i2,i3,i4⟩:=ih;refine⟨by omega,by omega,fun y hy=>?_,by omega⟩;rcases List.mem_cons.1 hy with rfl|hy
  .exact hx.ovr
  .exact i3 y hy
theorem shf_made:∀(n:Nat) (c:Cd),SizeOf.sizeOf c<n->∀a,c.ovr a=0->∀b m,Emb a b m->∀st,0<=st.1->st.1<=2000->(c.shf b m st).2.2=0->Made c b st (c.shf b m st)
 | 0,c,hn,_,_,_,_,_,_,_,_,_=>absurd hn (Nat.not_lt_zero _)
 | n+1,c,hn,a,hv,b,m,hm,st,hs0,hs1,hz=>by
  have ih:=fun x (hx:x∈c.kids)=>shf_made n x (by have:=Cd.kid_lt hx;omega) (c.inn a) ((Cd.ovr_zero hv).2.2 x hx)
  have h1:=shf_sticky hz;have h2:=(st1_zero h1).2;have hin:=inc_in hs0 hs1;have hu:(st1 st).1=st.1+1:=hin
  rw[hin] at h2;rw[c.shf_eq] at hz ⊢;unfold shStep at hz ⊢;rw[if_neg (by simp[h1])] at hz ⊢;by_cases k5:c.kind=5
  .rw[if_neg (by simp[k5])] at hz ⊢;have hii:c.inn a=c.g:=if_pos k5
   rw[hii] at ih;obtain⟨hx,x,hkx⟩:=ovr_ex hv k5;by_cases he:(oR b c.g).2=0
   .rw[if_neg (by simp[he])] at hz ⊢;have hH:∀b m st,Cd.shfH c.kids b m st=x.shf b m st:=fun b m st=>by rw[hkx,Cd.shfH]
    have ihx:=ih x (by rw[hkx];simp);simp only at hz ⊢
    -- one kid
    have one:∀o∈(oR b c.g).1,∀s:St2,0<=s.1->s.1<=2000->agrO m c.m o=true->(x.shf o.g o.r (inc s.1,s.2)).2.2=0->Made x o.g (inc s.1,s.2) (x.shf o.g o.r (inc s.1,s.2))/\inc s.1=s.1+1:=fun o ho s g0 g1 ha hz1=>by
     obtain⟨el,er⟩:=ovs_emb ho;have hin':=inc_in g0 g1
     have g2:=(st1_zero (shf_sticky hz1)).2;have g3:inc s.1<=2000:=by
      simp only at g2;rw[hin'] at g2 ⊢;by_cases e:s.1=2000
      .rw[e] at g2;exact absurd g2 (by decide)
      .omega
     exact⟨ihx o.g o.r er _ (by simp only;omega) g3 hz1,hin'⟩
    have cnt:=seqL_cnt (f:=ovF m c.m fun b m st=>Cd.shfH c.kids b m st) (fun _ _=>ovF_sticky) (oR b c.g).1 (st1 st) (by omega) (by omega) (fun o ho s g0 g1 hz1=>by
     by_cases ha:agrO m c.m o=true
     .rw[ovF,if_pos ha] at hz1 ⊢;simp only[hH] at hz1 ⊢;obtain⟨M,hi⟩:=one o ho s g0 g1 ha hz1;have e1:=M.cnt;have e2:=M.le;simp only at e1;have e3:Cd.cntL [exOf o (x.shf o.g o.r (inc s.1,s.2)).1]=2-1+(x.shf o.g o.r (inc s.1,s.2)).1.cnt:=by simp[Cd.cntL,exOf,Cd.cnt]
      rw[e3];omega
     .rw[ovF,if_neg ha];exact⟨by simp[Cd.cntL],g1⟩) hz
    -- the states in between are small
    have mid:∀(l:List Ov) (s:St2),(∀o∈l,o∈(oR b c.g).1)->0<=s.1->s.1<=2000->(seqL (ovF m c.m fun b m st=>Cd.shfH c.kids b m st) l s).2.2=0 ->
      (∀y∈(seqL (ovF m c.m fun b m st=>Cd.shfH c.kids b m st) l s).1,∃o∈l,∃z:Cd,y=exOf o z/\z.ovr o.g=0/\x.cnt<=z.cnt/\z.dep<=x.dep) /\
      ∀o∈l,agrO m c.m o=true->∃z:Cd,exOf o z∈(seqL (ovF m c.m fun b m st=>Cd.shfH c.kids b m st) l s).1/\x.cnt<=z.cnt:=by
     intro l;induction l with
     | nil=>intro s _ _ _ _;exact⟨by simp[seqL],by simp⟩
     | cons o r ihr =>
      intro s hl g0 g1 hz1;have hz2:(ovF m c.m (fun b m st=>Cd.shfH c.kids b m st) o s).2.2=0:=seqL_sticky (fun _ _=>ovF_sticky) r _ hz1
      by_cases ha:agrO m c.m o=true
      .have ev:ovF m c.m (fun b m st=>Cd.shfH c.kids b m st) o s=([exOf o (x.shf o.g o.r (inc s.1,s.2)).1],(x.shf o.g o.r (inc s.1,s.2)).2):=by rw[ovF,if_pos ha];simp only[hH]
       rw[ev] at hz2;obtain⟨M,hi⟩:=one o (hl o (by simp)) s g0 g1 ha hz2;have e1:=M.cnt;have e2:=M.le;simp only at e1;have ih2:=ihr (x.shf o.g o.r (inc s.1,s.2)).2 (fun o' ho'=>hl o' (by simp[ho'])) (by omega) e2 (by simp only[seqL] at hz1;rwa [ev] at hz1);simp only[seqL,ev,List.singleton_append];refine⟨fun y hy=>?_,fun o' ho' ha'=>?_⟩
       .rcases List.mem_cons.1 hy with rfl|hy
        .exact⟨o,by simp,_,rfl,M.ovr,M.ge,M.dep⟩
        .obtain⟨o',ho',z,hz'⟩:=ih2.1 y hy;exact⟨o',by simp[ho'],z,hz'⟩
       .rcases List.mem_cons.1 ho' with rfl|ho'
        .exact⟨_,by simp,M.ge⟩
        .obtain⟨z,z1,z2⟩:=ih2.2 o' ho' ha';exact⟨z,by simp[z1],z2⟩
      .have ev:ovF m c.m (fun b m st=>Cd.shfH c.kids b m st) o s=([],s):=by rw[ovF,if_neg ha]
       have ih2:=ihr s (fun o' ho'=>hl o' (by simp[ho'])) g0 g1 (by simp only[seqL] at hz1;rwa [ev] at hz1);simp only[seqL,ev,List.nil_append];refine⟨fun y hy=>?_,fun o' ho' ha'=>?_⟩
       .obtain⟨o',ho',z,hz'⟩:=ih2.1 y hy;exact⟨o',by simp[ho'],z,hz'⟩
       .rcases List.mem_cons.1 ho' with rfl|ho'
        .exact absurd ha' ha
        .exact ih2.2 o' ho' ha'
    obtain⟨mid1,mid2⟩:=mid _ (st1 st) (fun o ho=>ho) (by omega) (by omega) hz;obtain⟨o0,ho0,ha0⟩:=agr_ex hm hx he;obtain⟨z0,z1,z2⟩:=mid2 o0 ho0 ha0;have hcc:c.cnt=1+x.cnt:=by rw[Cd.cnt_eq,hkx];simp[Cd.cntL]
    have hcd:c.dep=x.dep+1:=by rw[Cd.dep_eq,hkx,if_pos k5];simp[Cd.depL]
    have oc:∀l,(cdOf 4 l).cnt=1+Cd.cntL l:=fun l=>by rw[cdOf,Cd.cnt]
    have od:∀l,(cdOf 4 l).dep=Cd.depL l:=fun l=>by rw[cdOf,Cd.dep];simp
    constructor
    .refine Cd.ovr_of (shape_or (List.length_pos_of_mem z1)) rfl fun y hy=>?_
     obtain⟨o,ho,z,rfl,q1,q2,q3⟩:=mid1 y hy;have hk:=overlapsR_ok ho;refine Cd.ovr_of (shape_exOf o z) ?_ fun w hw=>?_
     .show ovrStep b 5 o.l o.g=0
      rw[ovrStep,if_pos rfl,if_neg (by simp[hk.l]),if_pos hk.il]
     .have:w=z:=by simpa[exOf,Cd.kids] using hw
      subst this;exact q1
    .simp only;rw[oc];omega
    .exact cnt.2
    .simp only;rw[oc,hcc];have e1:=Cd.cnt_mem z1;have e2:(exOf o0 z0).cnt=1+z0.cnt:=by simp[exOf,Cd.cnt,Cd.cntL]
     omega
    .simp only;rw[od,hcd];refine Cd.depL_le fun y hy=>?_
     obtain⟨o,ho,z,rfl,q1,q2,q3⟩:=mid1 y hy;have e2:(exOf o z).dep=z.dep+1:=by simp[exOf,Cd.dep,Cd.depL]
     omega
   .rw[if_pos (by simp[he])] at hz;exact absurd hz he
  .rw[if_pos k5] at hz ⊢;have hii:c.inn a=a:=if_neg k5
   rw[hii] at ih;simp only at hz ⊢;obtain⟨i1,i2,i3,i4⟩:=shF_cnt (b:=b) (m:=m) c.kids (st1 st) (by omega) (by omega) (fun x hx s g0 g1 hz1=>ih x hx b m hm s g0 g1 hz1) hz;have cnt:=seqL_cnt (f:=shF b m) (fun _ _=>shF_sticky) c.kids (st1 st) (by omega) (by omega) (fun x hx s g0 g1 hz1=>by
    have M:=ih x hx b m hm s g0 g1 hz1;have e1:=M.cnt;have e2:=M.le;simp only[shF,Cd.cntL]
    omega) hz
   have oc:∀l,(cdOf c.kind l).cnt=1+Cd.cntL l:=fun l=>by rw[cdOf,Cd.cnt]
   have od:∀l,(cdOf c.kind l).dep=Cd.depL l:=fun l=>by rw[cdOf,Cd.dep,if_neg k5];rfl
   constructor
   .refine Cd.ovr_of (shape_cdOf (Cd.ovr_zero hv).1 k5 i4) (if_neg k5) fun y hy=>?_
    rw[Cd.inn,if_neg (show ¬(cdOf c.kind (seqL (shF b m) c.kids (st1 st)).1).kind=5 from k5)];exact i3 y hy
   .simp only;rw[oc];omega
   .exact cnt.2
   .simp only;rw[oc,Cd.cnt_eq];omega
   .simp only;rw[od,Cd.dep_eq,if_neg k5];omega
theorem shf_k{c:Cd}{b:Gr}{m:Mo}{st:St2}(h:(st1 st).2=0)(k5:¬c.kind=5):c.shf b m st=(cdOf c.kind (seqL (shF b m) c.kids (st1 st)).1,(seqL (shF b m) c.kids (st1 st)).2):=by
 rw[c.shf_eq,shStep,if_neg (by simp[h]),if_pos k5]
theorem shf_e{c:Cd}{b:Gr}{m:Mo}{st:St2}(h:(st1 st).2=0)(k5:c.kind=5)(he:(oR b c.g).2=0):
  c.shf b m st=(cdOf 4 (seqL (ovF m c.m fun b m st=>Cd.shfH c.kids b m st) (oR b c.g).1 (st1 st)).1,(seqL (ovF m c.m fun b m st=>Cd.shfH c.kids b m st) (oR b c.g).1 (st1 st)).2):=by
 rw[c.shf_eq,shStep,if_neg (by simp[h]),if_neg (by simp[k5]),if_neg (by simp[he])]
theorem shf_x{c:Cd}{b:Gr}{m:Mo}{st:St2}(h:(st1 st).2=0)(k5:c.kind=5)(he:¬(oR b c.g).2=0):c.shf b m st=(cdOf 4 [],((st1 st).1,(oR b c.g).2)):=by
 rw[c.shf_eq,shStep,if_neg (by simp[h]),if_neg (by simp[k5]),if_pos he]
def up(k:Int)(s:St2):St2:=(s.1+k,s.2)
theorem nodup_iota(n:Nat):(iota n).Nodup:=by
 rw[nodup_getD];intro i j hij hj;rw[iota_length] at hj;rw[iota_getD (by omega),iota_getD hj];omega
theorem mem_iota{x:Int}{n:Nat}(h:x∈iota n):0<=x/\x<n:=by
 obtain⟨i,hi,rfl⟩:=List.mem_map.1 h;have:=List.mem_range.1 hi
 omega
structure Pre (a b:Gr):Prop where
 va:vG a=0
 vb:vG b=0
 n:∃t,b.nodes=a.nodes++t
 e:∃t,b.edges=a.edges++t
theorem Pre.emb{a b:Gr}(h:Pre a b):Emb a b (idM a):=by
 obtain⟨t,ht⟩:=h.n;obtain⟨u,hu⟩:=h.e;have ea:=validG_edges h.va;refine⟨validM_of ⟨h.va,h.vb,by simp[idM],by simp[idM],fun x hx=>?_,fun x hx=>?_,fun i hi=>?_,fun i hi=>?_⟩,nodup_iota _,nodup_iota _⟩
 .have:=mem_iota (show x∈iota a.nodes.length from hx)
  rw[ht];simp only[List.length_append];omega
 .have:=mem_iota (show x∈iota a.edges.length from hx)
  rw[hu];simp only[List.length_append];omega
 .simp only[idM];rw[iota_getD hi,Int.toNat_natCast,ht,getD_pre hi]
 .simp only[idM];have hx:=ea (a.edges.getD i default) (getD_mem hi);rw[iota_getD hi,Int.toNat_natCast,hu,getD_pre hi,iota_getD (by omega),iota_getD (by omega)];rw[Int.toNat_of_nonneg hx.1,Int.toNat_of_nonneg hx.2.2.1]
theorem Pre.refl{a:Gr}(h:vG a=0):Pre a a:=⟨h,h,⟨[],by simp⟩,⟨[],by simp⟩⟩
theorem emb_nil{b:Gr}(h:vG b=0):Emb ⟨[],[]⟩ b ⟨[],[]⟩:=(Pre.emb (a:=⟨[],[]⟩) ⟨rfl,h,⟨b.nodes,rfl⟩,⟨b.edges,rfl⟩⟩)
def mtI(F G:List Int)(n:Nat):List Int:=(List.range n).map fun (j:Nat)=>if indexI G j<0 then -1 else F.getD (indexI G j).toNat 0
theorem mtI_len(F G:List Int)(n:Nat):(mtI F G n).length=n:=by simp[mtI]
theorem mtI_get{F G:List Int}{n j:Nat}(h:j<n):(mtI F G n).getD j 0=if indexI G j<0 then -1 else F.getD (indexI G j).toNat 0:=by simp[mtI,h]
theorem mtI_at{F G:List Int}{n i:Nat}(hG:G.Nodup)(hr:∀x∈G,0<=x/\x<n)(h:i<G.length):(mtI F G n).getD (G.getD i 0).toNat 0=F.getD i 0:=by
 have h1:=hr _ (getD_mem (d:=0) h);rw[mtI_get (by omega)];have e:(((G.getD i 0).toNat:Nat):Int)=G.getD i 0:=by omega
 rw[e];rcases indexI_spec G (G.getD i 0) with ⟨_,hn⟩|⟨k,h2,h3,h4⟩
 .exact absurd (getD_mem (d:=0) h) hn
 .have:=getD_inj hG h3 h h4
  subst this;rw[h2,if_neg (by omega)];rfl
theorem mtI_cases{F G:List Int}{n j:Nat}(h:j<n):((mtI F G n).getD j 0 = -1/\(j:Int)∉G)∨∃i,i<G.length/\G.getD i 0=j/\(mtI F G n).getD j 0=F.getD i 0:=by
 rw[mtI_get h];rcases indexI_spec G j with ⟨h1,hn⟩|⟨k,h2,h3,h4⟩
 .left;rw[h1];exact⟨rfl,hn⟩
 .right;refine⟨k,h3,h4,?_⟩;rw[h2,if_neg (by omega)];rfl
theorem mtI_isM{ok:Nat->Nat->Bool}{F G:List Int}{na n:Nat}(hl:F.length=G.length)(hF:F.Nodup)(hG:G.Nodup)(rF:∀x∈F,0<=x/\x<na)(rG:∀x∈G,0<=x/\x<n)(hok:∀i,i<G.length->ok (G.getD i 0).toNat (F.getD i 0).toNat=true):isM ok na n (mtI F G n):=by
 refine⟨mtI_len _ _ _,fun j hj=>?_⟩;rcases mtI_cases (F:=F) (G:=G) hj with ⟨h1,_⟩|⟨i,h2,h3,h4⟩
 .exact .inl h1
 .right;have r1:=rF _ (getD_mem (d:=0) (show i<F.length by omega));refine⟨(F.getD i 0).toNat,by rw[h4];omega,by omega,?_,?_⟩
  .have:=hok i h2
   rw[h3] at this;simpa using this
  .intro hm;obtain⟨q,hq,e⟩:=List.getElem_of_mem hm;rw[List.length_take,mtI_len] at hq;rw[List.getElem_take] at e;have e2:(mtI F G n).getD q 0=(F.getD i 0):=by
    rw[List.getD_eq_getElem?_getD,List.getElem?_eq_getElem (by rw[mtI_len];omega),Option.getD_some,e];omega
   rcases mtI_cases (F:=F) (G:=G) (show q<n by omega) with ⟨k1,_⟩|⟨i',k2,k3,k4⟩
   .rw[k1] at e2;omega
   .have:=getD_inj hF (show i'<F.length by omega) (by omega) (k4.symm.trans e2)
    subst this;omega
def pushO(b c:Gr)(f g:Mo):Ov:=glue b c (mtI f.nodes g.nodes c.nodes.length) (mtI f.edges g.edges c.edges.length)
theorem spn_pair{a b c:Gr}{f g:Mo}(hf:Emb a b f)(hg:Emb a c g):isPair b c (mtI f.nodes g.nodes c.nodes.length,mtI f.edges g.edges c.edges.length):=by
 have v:=hf.vm;have w:=hg.vm;have ln:f.nodes.length=g.nodes.length:=by rw[v.ln,w.ln]
 have le:f.edges.length=g.edges.length:=by rw[v.le,w.le]
 refine⟨mtI_isM ln hf.n hg.n v.n w.n fun i hi=>?_,mtI_isM le hf.e hg.e v.e w.e fun i hi=>?_⟩
 .rw[okN,decide_eq_true_eq,v.nt i (by rw[<-w.ln];exact hi),w.nt i (by rw[<-w.ln];exact hi)]
 .have hia:i<a.edges.length:=by rw[<-w.le];exact hi
  have hx:=validG_edges v.va (a.edges.getD i default) (getD_mem hia);rw[okE,decide_eq_true_eq,v.et i hia,w.et i hia];simp only;rw[mtI_at hg.n w.n (by rw[w.ln];omega),mtI_at hg.n w.n (by rw[w.ln];omega)]
theorem pushO_emb{a b c:Gr}{f g:Mo}(hf:Emb a b f)(hg:Emb a c g)(hs:b.nodes.length+c.nodes.length<=40/\b.edges.length+c.edges.length<=80):
  vG (pushO b c f g).g=0/\Emb b (pushO b c f g).g (pushO b c f g).l/\Emb c (pushO b c f g).g (pushO b c f g).r:=by
 have hp:=spn_pair hf hg;have h1:=glue_law hf.vm.vb hg.vm.vb hs hp;have h2:=glue_law2 hf.vm.vb hg.vm.vb hs hp;exact⟨h1.1,Emb.of h2.1,Emb.of h2.2.1⟩
def ascAt(l:List Int)(n:Int)(i:Nat):Int:=if l.getD i 0<0∨n<=l.getD i 0 then 6 else if 0<i/\l.getD i 0<=l.getD (i-1) 0 then 12 else 0
def ascE(l:List Int)(n:Int):Int:=firstE (ascAt l n) l.length
def dangAt(g:Gr)(p:Mo)(i:Nat):Int:=if (g.edges.getD (p.edges.getD i 0).toNat default).fr∈p.nodes/\(g.edges.getD (p.edges.getD i 0).toNat default).to∈p.nodes then 0 else 14
def rightP(g:Gr)(p:Mo):Int :=
 if ascE p.nodes g.nodes.length≠0 then ascE p.nodes g.nodes.length else if ascE p.edges g.edges.length≠0 then ascE p.edges g.edges.length else firstE (dangAt g p) p.edges.length
def validP(g:Gr)(p:Mo):Int:=if vG g≠0 then vG g else rightP g p
theorem asc_lt{l:List Int}{n:Int}(h:ascE l n=0):∀j i,i<j->j<l.length->l.getD i 0<l.getD j 0
 | 0,i,hi,_=>absurd hi (Nat.not_lt_zero _)
 | j+1,i,hi,hj=>by
  have h1:=firstE_all _ h (j+1) hj;unfold ascAt at h1;split at h1
  .cases h1
  .split at h1
   .cases h1
   .rename_i h3;have h4:l.getD j 0<l.getD (j+1) 0:=by
     have:j+1-1=j:=rfl
     rw[this] at h3;omega
    by_cases e:i=j
    .subst e;exact h4
    .have:=asc_lt h j i (by omega) (by omega)
     omega
theorem asc_rng{l:List Int}{n:Int}(h:ascE l n=0):∀x∈l,0<=x/\x<n:=fun x hx=>by
 obtain⟨i,hi,rfl⟩:=mem_getD hx;have h1:=firstE_all _ h i hi;unfold ascAt at h1;split at h1
 .cases h1
 .omega
theorem asc_of{l:List Int}{n:Int}(h1:∀x∈l,0<=x/\x<n)(h2:∀j i,i<j->j<l.length->l.getD i 0<l.getD j 0):ascE l n=0:=firstE_zero _ fun i hi=>by
 have r:=h1 _ (getD_mem (d:=0) hi);unfold ascAt;rw[if_neg (by omega),if_neg];rintro⟨h3,h4⟩;have:=h2 i (i-1) (by omega) hi
 omega
structure VP (g:Gr) (p:Mo):Prop where
 va:vG g=0
 n:∀x∈p.nodes,0<=x/\x<g.nodes.length
 e:∀x∈p.edges,0<=x/\x<g.edges.length
 sn:∀j i,i<j->j<p.nodes.length->p.nodes.getD i 0<p.nodes.getD j 0
 se:∀j i,i<j->j<p.edges.length->p.edges.getD i 0<p.edges.getD j 0
 c:∀x∈p.edges,(g.edges.getD x.toNat default).fr∈p.nodes/\(g.edges.getD x.toNat default).to∈p.nodes
theorem VP.of{g:Gr}{p:Mo}(h:validP g p=0):VP g p:=by
 unfold validP at h;split at h
 .contradiction
 .rename_i h1;unfold rightP at h;split at h
  .contradiction
  .rename_i h2;split at h
   .contradiction
   .rename_i h3;have h2':=Decidable.not_not.1 h2
    have h3':=Decidable.not_not.1 h3
    refine⟨Decidable.not_not.1 h1,asc_rng h2',asc_rng h3',asc_lt h2',asc_lt h3',fun x hx=>?_⟩;obtain⟨i,hi,rfl⟩:=mem_getD hx;have h4:=firstE_all _ h i hi;unfold dangAt at h4;split at h4
    .assumption
    .cases h4
theorem VP.v{g:Gr}{p:Mo}(h:VP g p):validP g p=0:=by
 unfold validP rightP;rw[if_neg (by simp[h.va]),if_neg (by simp[asc_of h.n h.sn]),if_neg (by simp[asc_of h.e h.se])];refine firstE_zero _ fun i hi=>?_
 unfold dangAt;rw[if_pos (h.c _ (getD_mem (d:=0) hi))]
theorem nodup_of_lt{l:List Int}(h:∀j i,i<j->j<l.length->l.getD i 0<l.getD j 0):l.Nodup:=by
 rw[nodup_getD];intro i j hij hj e;have:=h j i hij hj
 omega
theorem len_of{l:List Int}{n:Nat}(h:l.Nodup)(hr:∀x∈l,0<=x/\x<n):l.length<=n:=by
 have:=nodup_le l (iota n) h fun x hx=>by
  have:=hr x hx
  simp only[iota,List.mem_map,List.mem_range];exact⟨x.toNat,by omega,by omega⟩
 simpa[iota] using this
theorem VP.len{g:Gr}{p:Mo}(h:VP g p):p.nodes.length<=g.nodes.length/\p.edges.length<=g.edges.length:=⟨len_of (nodup_of_lt h.sn) h.n,len_of (nodup_of_lt h.se) h.e⟩
def exE1(g:Gr)(p:Mo)(k:Int):E:=⟨(g.edges.getD k.toNat default).ty,indexI p.nodes (g.edges.getD k.toNat default).fr,indexI p.nodes (g.edges.getD k.toNat default).to⟩
def exG(g:Gr)(p:Mo):Gr:=⟨p.nodes.map fun k=>g.nodes.getD k.toNat 0,p.edges.map (exE1 g p)⟩
theorem indexI_in{l:List Int}{x:Int}(h:x∈l):0<=indexI l x/\indexI l x<l.length/\l.getD (indexI l x).toNat 0=x:=by
 rcases indexI_spec l x with ⟨_,hn⟩|⟨k,h2,h3,h4⟩
 .exact absurd h hn
 .rw[h2];exact⟨by omega,by omega,h4⟩
theorem indexI_gd{l:List Int}(hl:l.Nodup){i:Nat}(h:i<l.length):indexI l (l.getD i 0)=i:=by
 obtain⟨h1,h2,h3⟩:=indexI_in (getD_mem (d:=0) h);have:=getD_inj hl (show (indexI l (l.getD i 0)).toNat<l.length by omega) h h3
 omega
theorem VP.emb{g:Gr}{p:Mo}(h:VP g p):Emb (exG g p) g p:=by
 have hl:=h.len;obtain⟨hs,ht,he⟩:=validG_types h.va;have hv:vG (exG g p)=0:=by
  refine validG_of (by simp only[exG,List.length_map];omega) (fun n hn=>?_) fun e hx=>?_
  .simp only[exG,List.mem_map] at hn;obtain⟨k,hk,rfl⟩:=hn;have:=h.n k hk
   exact ht _ (getD_mem (by omega))
  .simp only[exG,List.mem_map] at hx;obtain⟨k,hk,rfl⟩:=hx;have h1:=h.e k hk;have h2:=h.c k hk;have h3:=(fitsB_iff _ _).1 (he _ (getD_mem (d:=default) (show k.toNat<g.edges.length by omega)));have i1:=indexI_in h2.1;have i2:=indexI_in h2.2;rw[fitsB_iff];simp only[exE1,exG,List.length_map];exact⟨h3.1,⟨i1.1,i1.2.1⟩,⟨i2.1,i2.2.1⟩⟩
 refine⟨validM_of ⟨hv,h.va,by simp[exG],by simp[exG],h.n,h.e,fun i hi=>?_,fun i hi=>?_⟩,nodup_of_lt h.sn,nodup_of_lt h.se⟩
 .have hi':i<p.nodes.length:=by simpa[exG] using hi
  simp[exG,hi']
 .have hi':i<p.edges.length:=by simpa[exG] using hi
  have e1:(exG g p).edges.getD i default=exE1 g p (p.edges.getD i 0):=by simp[exG,hi']
  have h2:=h.c _ (getD_mem (d:=0) hi');rw[e1];simp only[exE1];rw[(indexI_in h2.1).2.2,(indexI_in h2.2).2.2]
def liftM(q h:Mo):Mo:=⟨h.nodes.map (indexI q.nodes),h.edges.map (indexI q.edges)⟩
theorem mapI_getD{f:Int->Int}{l:List Int}{i:Nat}(h:i<l.length):(l.map f).getD i 0=f (l.getD i 0):=by simp[h]
theorem lift_emb{a c y:Gr}{q h:Mo}(hq:Emb c y q)(hh:Emb a y h)(hn:∀x∈h.nodes,x∈q.nodes)(he:∀x∈h.edges,x∈q.edges):Emb a c (liftM q h):=by
 have v:=hq.vm;have w:=hh.vm;have inj:∀(l m:List Int),m.Nodup->(∀x∈m,x∈l)->(m.map (indexI l)).Nodup:=fun l m hm hs=>by
  rw[nodup_getD];intro i j hij hj;rw[List.length_map] at hj;rw[mapI_getD (by omega),mapI_getD hj];intro e;have i1:=indexI_in (hs _ (getD_mem (d:=0) (show i<m.length by omega)));have i2:=indexI_in (hs _ (getD_mem (d:=0) hj));have e2:m.getD i 0=m.getD j 0:=by rw[<-i1.2.2,<-i2.2.2,e]
  have:=getD_inj hm (by omega) hj e2
  omega
 refine⟨validM_of ⟨w.va,v.va,by simp[liftM,w.ln],by simp[liftM,w.le],fun x hx=>?_,fun x hx=>?_,fun i hi=>?_,fun i hi=>?_⟩,inj _ _ hh.n hn,inj _ _ hh.e he⟩
 .obtain⟨k,hk,rfl⟩:=List.mem_map.1 hx;have:=indexI_in (hn k hk)
  rw[v.ln] at this;exact⟨this.1,this.2.1⟩
 .obtain⟨k,hk,rfl⟩:=List.mem_map.1 hx;have:=indexI_in (he k hk)
  rw[v.le] at this;exact⟨this.1,this.2.1⟩
 .have hi':i<h.nodes.length:=by rw[w.ln];exact hi
  have i1:=indexI_in (hn _ (getD_mem (d:=0) hi'));simp only[liftM];rw[mapI_getD hi',<-w.nt i hi];have:=v.nt (indexI q.nodes (h.nodes.getD i 0)).toNat (by rw[<-v.ln];omega)
  rw[<-this,i1.2.2]
 .have hi':i<h.edges.length:=by rw[w.le];exact hi
  have i1:=indexI_in (he _ (getD_mem (d:=0) hi'));have e1:(liftM q h).edges.getD i 0=indexI q.edges (h.edges.getD i 0):=mapI_getD hi'
  have hx:=validG_edges w.va (a.edges.getD i default) (getD_mem hi);have e2:(liftM q h).nodes.getD (a.edges.getD i default).fr.toNat 0=indexI q.nodes (h.nodes.getD (a.edges.getD i default).fr.toNat 0):=mapI_getD (by rw[w.ln];omega)
  have e3:(liftM q h).nodes.getD (a.edges.getD i default).to.toNat 0=indexI q.nodes (h.nodes.getD (a.edges.getD i default).to.toNat 0):=mapI_getD (by rw[w.ln];omega)
  rw[e1,e2,e3];have hk:(indexI q.edges (h.edges.getD i 0)).toNat<c.edges.length:=by rw[<-v.le];omega
  have t1:=v.et _ hk;rw[i1.2.2,w.et i hi] at t1;have hy:=validG_edges v.va (c.edges.getD (indexI q.edges (h.edges.getD i 0)).toNat default) (getD_mem hk);generalize c.edges.getD (indexI q.edges (h.edges.getD i 0)).toNat default=ce at *;simp only[E.mk.injEq] at t1;have j1:indexI q.nodes (h.nodes.getD (a.edges.getD i default).fr.toNat 0)=ce.fr:=by
   rw[t1.2.1,indexI_gd hq.n (by rw[v.ln];omega)];omega
  have j2:indexI q.nodes (h.nodes.getD (a.edges.getD i default).to.toNat 0)=ce.to:=by
   rw[t1.2.2,indexI_gd hq.n (by rw[v.ln];omega)];omega
  rw[j1,j2,t1.1]
def ascL(l:List Int)(n:Nat):List Int:=((List.range n).filter fun (k:Nat)=>decide ((k:Int)∈l)).map fun (k:Nat)=>(k:Int)
theorem ascL_mem{l:List Int}{n:Nat}{x:Int}:x∈ascL l n↔x∈l/\0<=x/\x<n:=by
 simp only[ascL,List.mem_map,List.mem_filter,List.mem_range,decide_eq_true_eq];constructor
 .rintro⟨k,⟨h1,h2⟩,rfl⟩;exact⟨h2,by omega,by omega⟩
 .rintro⟨h1,h2,h3⟩;exact⟨x.toNat,⟨by omega,by rwa [show ((x.toNat:Nat):Int)=x by omega]⟩,by omega⟩
theorem ascL_pw(l:List Int)(n:Nat):(ascL l n).Pairwise (· < ·):=by
 unfold ascL;rw[List.pairwise_map];refine List.Pairwise.filter _ (List.Pairwise.imp (R:=(· < ·)) (fun h=>by omega) List.pairwise_lt_range)
theorem pw_getD{l:List Int}:l.Pairwise (· < ·)->∀j i,i<j->j<l.length->l.getD i 0<l.getD j 0:=fun h j i hij hj=>by
 have:=List.pairwise_iff_getElem.1 h i j (by omega) hj hij
 simpa[List.getD_eq_getElem?_getD,hj,show i<l.length by omega] using this
theorem pw_ext:∀{l m:List Int},l.Pairwise (· < ·)->m.Pairwise (· < ·)->(∀x,x∈l↔x∈m)->l=m
 | [],[],_,_,_=>rfl
 | [],y::m,_,_,h=>by have:=(h y).2 (by simp);simp at this
 | x::l,[],_,_,h=>by have:=(h x).1 (by simp);simp at this
 | x::l,y::m,hl,hm,h=>by
  rw[List.pairwise_cons] at hl hm;have h1:=(h x).1 (by simp);have h2:=(h y).2 (by simp);have e:x=y:=by
   rcases List.mem_cons.1 h1 with h1|h1
   .exact h1
   .rcases List.mem_cons.1 h2 with h2|h2
    .exact h2.symm
    .have:=hl.1 y h2
     have:=hm.1 x h1
     omega
  subst e;congr 1
  refine pw_ext hl.2 hm.2 fun z=>?_
  have:=h z
  simp only[List.mem_cons] at this;constructor
  .intro hz;rcases this.1 (.inr hz) with e|e
   .subst e;have:=hl.1 z hz;omega
   .exact e
  .intro hz;rcases this.2 (.inr hz) with e|e
   .subst e;have:=hm.1 z hz;omega
   .exact e
def imgP(y:Gr)(q:Mo):Mo:=⟨ascL q.nodes y.nodes.length,ascL q.edges y.edges.length⟩
theorem imgP_vp{c y:Gr}{q:Mo}(hq:Emb c y q):VP y (imgP y q):=by
 have v:=hq.vm;refine⟨v.vb,fun x hx=>(ascL_mem.1 hx).2,fun x hx=>(ascL_mem.1 hx).2,pw_getD (ascL_pw _ _),pw_getD (ascL_pw _ _),fun x hx=>?_⟩;obtain⟨h1,h2,h3⟩:=ascL_mem.1 hx;obtain⟨i,hi,rfl⟩:=mem_getD h1;have hi':i<c.edges.length:=by rw[<-v.le];exact hi
 have he:=validG_edges v.va (c.edges.getD i default) (getD_mem hi');have m1:q.nodes.getD (c.edges.getD i default).fr.toNat 0∈q.nodes:=getD_mem (by rw[v.ln];omega)
 have m2:q.nodes.getD (c.edges.getD i default).to.toNat 0∈q.nodes:=getD_mem (by rw[v.ln];omega)
 rw[v.et i hi'];exact⟨ascL_mem.2 ⟨m1,v.n _ m1⟩,ascL_mem.2 ⟨m2,v.n _ m2⟩⟩
theorem imgP_sub{y:Gr}{q:Mo}:(∀x∈(imgP y q).nodes,x∈q.nodes)/\∀x∈(imgP y q).edges,x∈q.edges:=⟨fun x hx=>(ascL_mem.1 hx).1,fun x hx=>(ascL_mem.1 hx).1⟩
def goneI(images keep:List Int):List Int:=((List.range images.length).filter fun (i:Nat)=>decide ((i:Int)∉keep)).map fun (i:Nat)=>images.getD i 0
def restI(n:Nat)(images keep:List Int):List Int:=((List.range n).filter fun (k:Nat)=>decide ((k:Int)∉goneI images keep)).map fun (k:Nat)=>(k:Int)
def dangL(g:Gr)(keep m:Mo):Bool:=(List.range g.edges.length).any fun (i:Nat)=>decide ((i:Int)∉m.edges/\((g.edges.getD i default).fr∈goneI m.nodes keep.nodes∨(g.edges.getD i default).to∈goneI m.nodes keep.nodes))
def cmpl(g:Gr)(keep m:Mo):Mo:=⟨restI g.nodes.length m.nodes keep.nodes,restI g.edges.length m.edges keep.edges⟩
theorem goneI_mem{images keep:List Int}{x:Int}:x∈goneI images keep↔∃i:Nat,i<images.length/\(i:Int)∉keep/\images.getD i 0=x:=by
 simp only[goneI,List.mem_map,List.mem_filter,List.mem_range,decide_eq_true_eq];constructor
 .rintro⟨i,⟨h1,h2⟩,h3⟩;exact⟨i,h1,h2,h3⟩
 .rintro⟨i,h1,h2,h3⟩;exact⟨i,⟨h1,h2⟩,h3⟩
theorem restI_mem{n:Nat}{images keep:List Int}{x:Int}:x∈restI n images keep↔(0<=x/\x<n)/\x∉goneI images keep:=by
 simp only[restI,List.mem_map,List.mem_filter,List.mem_range,decide_eq_true_eq];constructor
 .rintro⟨k,⟨h1,h2⟩,rfl⟩;exact⟨⟨by omega,by omega⟩,h2⟩
 .rintro⟨⟨h1,h2⟩,h3⟩;exact⟨x.toNat,⟨by omega,by rwa [show ((x.toNat:Nat):Int)=x by omega]⟩,by omega⟩
theorem restI_pw(n:Nat)(images keep:List Int):(restI n images keep).Pairwise (· < ·):=by
 unfold restI;rw[List.pairwise_map];refine List.Pairwise.filter _ (List.Pairwise.imp (R:=(· < ·)) (fun h=>by omega) List.pairwise_lt_range)
theorem kept_not_gone{images keep:List Int}(hn:images.Nodup){i:Nat}(hi:i<images.length)(hk:(i:Int)∈keep):images.getD i 0∉goneI images keep:=fun h=>by
 obtain⟨j,hj,hjk,e⟩:=goneI_mem.1 h;have:=getD_inj hn hj hi e
 subst this;exact hjk hk
theorem cmpl_vp{l g:Gr}{keep m:Mo}(hm:Emb l g m)(hk:VP l keep)(hd:dangL g keep m=false):VP g (cmpl g keep m):=by
 have v:=hm.vm;refine⟨v.vb,fun x hx=>(restI_mem.1 hx).1,fun x hx=>(restI_mem.1 hx).1,pw_getD (restI_pw _ _ _),pw_getD (restI_pw _ _ _),fun x hx=>?_⟩;obtain⟨⟨h1,h2⟩,h3⟩:=restI_mem.1 hx;have hxl:x.toNat<g.edges.length:=by omega
 have he:=validG_edges v.vb (g.edges.getD x.toNat default) (getD_mem hxl);have key:(g.edges.getD x.toNat default).fr∉goneI m.nodes keep.nodes/\(g.edges.getD x.toNat default).to∉goneI m.nodes keep.nodes:=by
  by_cases hxm:x∈m.edges
  .obtain⟨i,hi,rfl⟩:=mem_getD hxm;have hi':i<l.edges.length:=by rw[<-v.le];exact hi
   have hik:(i:Int)∈keep.edges:=Decidable.byContradiction fun hc=>h3 (goneI_mem.2 ⟨i,hi,hc,rfl⟩)
   have hc:=hk.c _ hik;have hle:=validG_edges v.va (l.edges.getD i default) (getD_mem hi');rw[Int.toNat_natCast] at hc;rw[v.et i hi'];refine⟨kept_not_gone hm.n (by rw[v.ln];omega) ?_,kept_not_gone hm.n (by rw[v.ln];omega) ?_⟩
   .rw[show (((l.edges.getD i default).fr.toNat:Nat):Int)=(l.edges.getD i default).fr by omega];exact hc.1
   .rw[show (((l.edges.getD i default).to.toNat:Nat):Int)=(l.edges.getD i default).to by omega];exact hc.2
  .unfold dangL at hd;rw[List.any_eq_false] at hd;have:=hd x.toNat (List.mem_range.2 hxl)
   simp only[decide_eq_true_eq,not_and,not_or] at this;exact this (by rwa [show ((x.toNat:Nat):Int)=x by omega])
 exact⟨restI_mem.2 ⟨⟨he.1,he.2.1⟩,key.1⟩,restI_mem.2 ⟨⟨he.2.2.1,he.2.2.2⟩,key.2⟩⟩
variable {P:Program}
theorem EffV.val{o:Oper}{ρ:Operand->AV}{box box':Bxs}{tok tok':Nat->Bool}{nt nt':Nat}{v:AV}(h:EffV P o ρ box tok nt v box' tok' nt'):isVal o.op=true:=by
 unfold EffV at h;split at h
 .rename_i c ho;split at h
  .rename_i f hf;rw[ho];obtain⟨cal,args,tys⟩:=c;simp only at hf;subst hf;rfl
  .exact h.elim
 .exact h.elim
theorem EffV.spec{o:Oper}{ρ:Operand->AV}{box box':Bxs}{tok tok':Nat->Bool}{nt nt':Nat}{v:AV}(h:EffV P o ρ box tok nt v box' tok' nt'):
  ∃x k i off rows,callPtr o.op=some x/\ρ x=.ptr k i off/\box'=upd box k (some rows):=by
 unfold EffV at h;split at h
 .split at h
  .split at h
   .obtain⟨x,k,i,off,rows,g1,g2,g3,g4,g5⟩:=h;exact⟨x,k,i,off,rows,g1,g2,g4⟩
   .exact h.elim
  .exact h.elim
 .exact h.elim
theorem Eff.up{wr:Bool}{base:Nat}{o:Oper}{ρ:Operand->AV}{box box':Bxs}{tok tok':Nat->Bool}{nt nt':Nat}{v:AV}(h:Eff P false base o ρ box tok nt v box' tok' nt'):Eff P wr base o ρ box tok nt v box' tok' nt':=by
 unfold Eff at h ⊢;cases hc:cls o.op<;>simp only[hc] at h ⊢<;>first|exact h|exact .inl (t_false h)
theorem Eff.down{wr:Bool}{base:Nat}{o:Oper}{ρ:Operand->AV}{box box':Bxs}{tok tok':Nat->Bool}{nt nt':Nat}{v:AV}(hv:isVal o.op=false)(h:Eff P wr base o ρ box tok nt v box' tok' nt'):Eff P false base o ρ box tok nt v box' tok' nt':=by
 unfold Eff at h ⊢;cases hc:cls o.op<;>simp only[hc] at h ⊢<;>first|exact h|skip
 rcases h with h|⟨_,h⟩
 .exact .inl h
 .rw[h.val] at hv;cases hv
theorem Step.up{wr:Bool}{base:Nat}{o:Oper}{S S':AS}(h:Step P false base o S S'):Step P wr base o S S':=by
 obtain⟨v,b,t,n,h1,h2⟩:=h;exact⟨v,b,t,n,h1.up,h2⟩
def ptrOp3(o:Op):Option Operand:=match ptrOp o with
 | some p=>some p
 | none=>callPtr o
def calm(x y:Oper):Bool:=match isVal x.op,isVal y.op with
 | true,true=>false
 | true,false=>decide (cls y.op=.n)||decide (cls y.op=.r)
 | false,true=>decide (cls x.op=.n)||decide (cls x.op=.r)
 | false,false=>!clash x y||isPtr x.op&&isPtr y.op
theorem load_ptr{o:Oper}(h:cls o.op=.r):∃p,ptrOp o.op=some p:=by
 cases hop:o.op<;>rw[hop] at h<;>simp only[cls,reduceCtorEq] at h
 .exact⟨_,rfl⟩
 .split at h<;>first|(rename_i e;cases e;done)|(cases h;done)|simp_all
theorem val_cls{o:Op}(h:isVal o=true):cls o=.t/\ptrOp o=none:=by
 unfold isVal at h;split at h
 .exact⟨rfl,rfl⟩
 .cases h
theorem calm_swap{base:Nat}{x y:Oper}{ρ:Operand->AV}{b0 b1 b2:Bxs}{t0 t1 t2:Nat->Bool}{n0 n1 n2:Nat}{vx vy:AV}(hc:calm x y=true)(hk:∀p q,ptrOp3 x.op=some p->ptrOp3 y.op=some q->(cls x.op≠.r∨cls y.op≠.r)->∀k i off k' i' off',ρ p=.ptr k i off->ρ q=.ptr k' i' off'->k≠k')(hx:Eff P true base x ρ b0 t0 n0 vx b1 t1 n1)(hy:Eff P true base y ρ b1 t1 n1 vy b2 t2 n2):∃c t n,Eff P true base y ρ b0 t0 n0 vy c t n/\Eff P true base x ρ c t n vx b2 t2 n2:=by
 unfold calm at hc;cases vx':isVal x.op<;>cases vy':isVal y.op<;>simp only[vx',vy'] at hc
 .have dx:=hx.down vx';have dy:=hy.down vy';cases hcl:clash x y with
  | false =>
   obtain⟨c,t,n,h1,h2⟩:=eff_swap hcl dx dy;exact⟨c,t,n,h1.up,h2.up⟩
  | true =>
   rw[hcl] at hc;simp only[Bool.not_true,Bool.false_or,Bool.and_eq_true] at hc;obtain⟨p,hp⟩:=Option.isSome_iff_exists.1 hc.1;obtain⟨q,hq⟩:=Option.isSome_iff_exists.1 hc.2;have hp3:ptrOp3 x.op=some p:=by unfold ptrOp3;rw[hp]
   have hq3:ptrOp3 y.op=some q:=by unfold ptrOp3;rw[hq]
   have hr:cls x.op≠.r∨cls y.op≠.r:=by
    by_cases e1:cls x.op=.r
    .by_cases e2:cls y.op=.r
     .simp[clash,e1,e2] at hcl
     .exact .inr e2
    .exact .inl e1
   obtain⟨c,t,n,h1,h2⟩:=eff_far hp hq (hk p q hp3 hq3 hr) dx dy;exact⟨c,t,n,h1.up,h2.up⟩
 .-- the call comes second
  obtain⟨cy,py⟩:=val_cls vy';unfold Eff at hx hy ⊢;simp only[Bool.or_eq_true,decide_eq_true_eq] at hc;rcases hc with hc|hc<;>simp only[hc,cy] at hx hy ⊢
  .obtain⟨e,rfl,rfl,rfl⟩:=hx;exact⟨_,_,_,hy,e,rfl,rfl,rfl⟩
  .obtain⟨e,rfl,rfl,rfl⟩:=hx;obtain⟨p,hp⟩:=load_ptr hc;refine⟨_,_,_,hy,?_,rfl,rfl,rfl⟩;rcases hy with ⟨_,rfl⟩|⟨_,hv⟩
   .exact e
   .obtain⟨z,k,i,off,rows,g1,g2,rfl⟩:=hv.spec;refine effR_ptr hp hc e fun k1 i1 off1 h1=>?_
    exact hk p z (by unfold ptrOp3;rw[hp]) (by unfold ptrOp3;rw[py];exact g1) (.inr (by rw[cy];decide)) _ _ _ _ _ _ h1 g2
 .-- the call comes first
  obtain⟨cx,px⟩:=val_cls vx';unfold Eff at hx hy ⊢;simp only[Bool.or_eq_true,decide_eq_true_eq] at hc;rcases hc with hc|hc<;>simp only[hc,cx] at hx hy ⊢
  .obtain⟨e,rfl,rfl,rfl⟩:=hy;exact⟨_,_,_,⟨e,rfl,rfl,rfl⟩,hx⟩
  .obtain⟨e,rfl,rfl,rfl⟩:=hy;obtain⟨q,hq⟩:=load_ptr hc;refine⟨_,_,_,⟨?_,rfl,rfl,rfl⟩,hx⟩;rcases hx with ⟨_,rfl⟩|⟨_,hv⟩
   .exact e
   .obtain⟨z,k,i,off,rows,g1,g2,rfl⟩:=hv.spec;refine effR_back hq hc (fun k1 i1 off1 h1=>?_) e;exact Ne.symm (hk z q (by unfold ptrOp3;rw[px];exact g1) (by unfold ptrOp3;rw[hq]) (.inl (by rw[cx];decide)) _ _ _ _ _ _ g2 h1)
 .cases hc
def regOk3(ops:Array Oper):Bool :=
 let an:=ancs ops.toList []
 dstUniq ops&&(List.range ops.size).all fun i=>(match ops[i]? with|some o=>(direct o).all fun j=>decide (j<i)|none=>true) &&
  (List.range i).all fun j=>(an.getD i 0).testBit j||(match ops[j]?,ops[i]? with
   | some x,some y=>Oper.apart ops x y&&calm x y
   | _,_=>false)
def unPairs(ops:Array Oper):List (Operand × Operand) :=
 let an:=ancs ops.toList []
 (List.range ops.size).flatMap fun i=>(List.range i).filterMap fun j=>if (an.getD i 0).testBit j then none else match ops[j]?,ops[i]? with
  | some x,some y=>match ptrOp3 x.op,ptrOp3 y.op with
   | some p,some q=>if cls x.op=.r/\cls y.op=.r then none else some (p,q)
   | _,_=>none
  | _,_=>none
def FarP(S:AS):List (Operand × Operand)->Prop
 | []=>True
 | (p,q)::r=>NK (S.ev p) (S.ev q)/\FarP S r
theorem FarP.at{S:AS}{p q:Operand}:∀{L:List (Operand × Operand)},FarP S L->(p,q)∈L->NK (S.ev p) (S.ev q)
 | (a,b)::r,h,hm=>by
  rcases List.mem_cons.1 hm with e|hm
  .cases e;exact h.1
  .exact FarP.at h.2 hm
theorem unPairs_mem{ops:Array Oper}{i j:Nat}{x y:Oper}{p q:Operand}(hx:ops[j]?=some x)(hy:ops[i]?=some y)(hij:j<i)(hb:((ancs ops.toList []).getD i 0).testBit j=false)(hp:ptrOp3 x.op=some p)(hq:ptrOp3 y.op=some q)(hr:cls x.op≠.r∨cls y.op≠.r):(p,q)∈unPairs ops:=by
 have his:i<ops.size:=(Array.getElem?_eq_some_iff.1 hy).1
 unfold unPairs;simp only[List.mem_flatMap,List.mem_range,List.mem_filterMap];refine⟨i,his,j,hij,?_⟩;have hnr:¬(cls x.op=.r/\cls y.op=.r):=fun h=>by rcases hr with hr|hr;exact hr h.1;exact hr h.2
 rw[hb,hx,hy];simp[hp,hq,hnr]
theorem any_sound3{n nb base:Nat}{ops:Array Oper}{Q:Exit->Act->World->Prop}{Sf:AS}{G0:Gh}{w0:World}{b0:Bxs}(hreg:regOk3 ops=true)(hal:allocOk ops=true)(hdst:dstOk n ops=true)(hnb:base+n<=nb)(hfar:FarP Sf (unPairs ops))(hQ:∀a' w' G',RelS n nb G' Sf a' w'->LeK base G0 w0 b0 G' w' Sf.box->Q .normal a' w')(fuel:Nat)(listed:Array Bool)(rem:List Nat)(S:AS)(a:Act)(w:World)(G:Gh)(hrem:rem=List.range ops.size)(hside:Side ops S)(h1:listed.size=ops.size)(h2:rem=(List.range ops.size).filter (fun i=>!listed.getD i true))(h3:rem.length=fuel)(h4:∀i o,ops[i]?=some o->listed.getD i false=true->∀j∈direct o,listed.getD j false=true)(h5:IRun P true base ops rem S Sf)(h6:RelS n nb G S a w)(h7:∀i∈rem,∀o,ops[i]?=some o->Pend P base o G S.box)(h8:LeK base G0 w0 b0 G w S.box):wpAny P .any ops Q fuel listed a w:=by
 unfold regOk3 at hreg;simp only[Bool.and_eq_true] at hreg;obtain⟨hu,hreg⟩:=hreg;have key:∀(i:Nat) (o:Oper),ops[i]?=some o->(∀j∈direct o,j<i)/\∀j x,ops[j]?=some x->j<i->((ancs ops.toList []).getD i 0).testBit j=true∨x.apart ops o=true/\calm x o=true:=by
  intro i o ho;have his:i<ops.size:=(Array.getElem?_eq_some_iff.1 ho).1
  have hall:=List.all_eq_true.1 hreg i (by simpa using his);rw[ho] at hall;simp only[Bool.and_eq_true] at hall;refine⟨fun j hj=>by simpa using List.all_eq_true.1 hall.1 j hj,fun j x hx hj=>?_⟩;have h2:=List.all_eq_true.1 hall.2 j (by simpa using hj);rw[hx] at h2;simpa only[Bool.or_eq_true,Bool.and_eq_true] using h2
 have start:Ivs Sf S:=by
  intro t;by_cases hd:∃o∈ops.toList,o.dst=some t
  .obtain⟨o,ho,hd⟩:=hd;exact .inr (hside o ho t hd)
  .refine .inl (irun_keeps (fun j _ x hx hxd=>hd ⟨x,by simpa using Array.mem_of_getElem? hx,hxd⟩) h5).symm
 refine any_sound' (wr:=true) (fun i o ho=>(key i o ho).1) (Iv:=Ivs Sf) (fun i o S' S'' rest ho hni hst hrun hiv=>ivs_step hu i o S' S'' rest ho hni hst hrun hiv) ?_ hal hdst hnb hQ fuel listed rem S a w G h1 h2 h3 h4 start h5 h6 h7 h8;intro i j o x ho hx hj hb S' S1 S2 hiv g1 g2;rcases (key i o ho).2 j x hx hj with h|⟨h,h'⟩
 .rw[hb] at h;cases h
 .refine gstep_swap' h (fun {c0 c1 c2 s0 s1 s2 m0 m1 m2 vx vy} e1 e2=>?_) g1 g2;have back:∀(z:Operand) k i off,S'.ev z=.ptr k i off->Sf.ev z=.ptr k i off:=by
   intro z k i off hz;cases z with
   | tmp t =>
    rcases hiv t with e|e
    .exact e.symm.trans hz
    .have hz':S'.tmps t=.ptr k i off:=hz
     rw[hz'] at e;exact e.elim
   | const c=>exact hz
   | global c=>exact hz
   | func c=>exact hz
  refine calm_swap h' (fun p q hp hq hr k i1 off k' i2 off' hk hk'=>?_) e1 e2;have hnk:=hfar.at (unPairs_mem hx ho hj hb hp hq hr);rw[back p _ _ _ hk,back q _ _ _ hk'] at hnk;exact hnk
def StopW(P:Program)(o:Oper)(fid:FuncId)(args:List AV)(S:AS)(K:AS->Prop):Prop :=
 (∃v tok' nt',RCall P fid args S.box S.tok S.nt v tok' nt'/\K ⟨putT S.tmps o.dst v,S.box,tok',nt'⟩) ∨
 ∃x k i off rows v tok' nt',callPtr o.op=some x/\S.ev x=.ptr k i off/\S.box k≠none/\WCall P fid args k S.box S.tok S.nt v rows tok' nt'/\K ⟨putT S.tmps o.dst v,upd S.box k (some rows),tok',nt'⟩
def FOneW(P:Program)(cx:Cx)(o:Oper)(K:AS->Prop)(S:AS):Prop:=match callFn o S.ev with
 | some (fid,args)=>StopW P o fid args S K
 | none=>FOne P cx true o K S
def FOpsW(P:Program)(cx:Cx)(ops:Array Oper):List Oper->(AS->Prop)->AS->Prop
 | [],K,S=>K S
 | o::r,K,S=>match o.guard with
  | none=>FOneW P cx o (FOpsW P cx ops r K) S
  | some (j,want)=>match yieldA ops S j with
   | some (some b)=>Gd b want (FOneW P cx o (FOpsW P cx ops r K)) (FSkip o.dst (FOpsW P cx ops r K)) S
   | some none=>FSkip o.dst (FOpsW P cx ops r K) S
   | none=>False
theorem fOpsW_true{cx:Cx}{ops:Array Oper}{K:AS->Prop}:∀(l:List Oper) (S:AS),FOpsW P cx ops l K S->∃S',ARun P true cx.base ops l S S'/\K S'
 | [],S,h=>⟨S,rfl,h⟩
 | o::r,S,h=>by
  have one:FOneW P cx o (FOpsW P cx ops r K) S->∃S1 S',Step P true cx.base o S S1/\ARun P true cx.base ops r S1 S'/\K S':=by
   intro h1;unfold FOneW at h1;split at h1
   .rename_i fid args hc;unfold callFn at hc;split at hc
    .rename_i c ho;split at hc
     .rename_i f hcal;split at hc
      .rename_i fid' caps hf;simp only[Option.some.injEq,Prod.mk.injEq] at hc;obtain⟨rfl,rfl⟩:=hc;have hcl:cls o.op=.t:=by
        rw[ho];obtain⟨cal,args,tys⟩:=c;simp only at hcal;subst hcal;rfl
       rcases h1 with ⟨v,tok',nt',hd,hk'⟩|⟨x,k,i,off,rows,v,tok',nt',g1,g2,g3,hw,hk'⟩
       .obtain⟨S',h2,h3⟩:=fOpsW_true r _ hk';refine⟨_,S',⟨v,S.box,tok',nt',?_,rfl⟩,h2,h3⟩;unfold Eff;rw[hcl];refine .inl ⟨.inr ?_,rfl⟩;unfold EffC;simp only[ho,hcal,hf];exact hd
       .obtain⟨S',h2,h3⟩:=fOpsW_true r _ hk';refine⟨_,S',⟨v,upd S.box k (some rows),tok',nt',?_,rfl⟩,h2,h3⟩;unfold Eff;rw[hcl];refine .inr ⟨rfl,?_⟩;unfold EffV;rw[ho] at g1 ⊢;simp only[hcal,hf];exact⟨x,k,i,off,rows,g1,g2,g3,rfl,hw⟩
      .cases hc
     .cases hc
    .cases hc
   .rename_i hc;rcases fOne_cases h1 with ⟨_,S1,hs,hk⟩|⟨hdr,_⟩|⟨fid,args,hc',hk⟩
    .obtain⟨S',h2,h3⟩:=fOpsW_true r S1 hk;exact⟨S1,S',hs.up,h2,h3⟩
    .cases hdr
    .rw[hc] at hc';cases hc'
  unfold FOpsW at h;unfold ARun;split at h
  .rename_i hg;obtain⟨S1,S',h1,h2,h3⟩:=one h;exact⟨S',⟨S1,by unfold GStep;rw[hg];exact h1,h2⟩,h3⟩
  .rename_i j want hg;split at h
   .rename_i b hy;by_cases e:b=want
    .obtain⟨S1,S',h1,h2,h3⟩:=one (h.1 e);exact⟨S',⟨S1,by unfold GStep;rw[hg];simp only[hy,e,↓reduceIte];exact h1,h2⟩,h3⟩
    .obtain⟨S',h2,h3⟩:=fOpsW_true r _ (h.2 (by cases b<;>cases want<;>simp_all));exact⟨S',⟨_,by unfold GStep;rw[hg];simp only[hy,Option.some.injEq,e,↓reduceIte],h2⟩,h3⟩
   .rename_i hy;obtain⟨S',h2,h3⟩:=fOpsW_true r _ h;exact⟨S',⟨_,by unfold GStep;rw[hg];simp only[hy,reduceCtorEq,↓reduceIte],h2⟩,h3⟩
   .exact h.elim
def FRegW(P:Program)(cx:Cx)(ops:Array Oper)(K:AS->Prop)(S:AS):Prop:=match preF P cx.base ops.toList S.box with
 | some b=>FOpsW P cx ops ops.toList K ⟨S.tmps,b,S.tok,S.nt⟩
 | none=>False
theorem AL.region3{cx:Cx}{nt0:Nat}{K:Exit->AS->Prop}{r:List CI}{S:AS}{id:Nat}{ops:Array Oper}(hf:P.follows .mixedOrders=true)(hnb:cx.base+cx.n<=cx.nb)(hok:(allocOk ops&&dstOk cx.n ops&&regOk3 ops)=true)(hside:Side ops S)(L:List (Operand × Operand))(hL:unPairs ops=L)(h:FRegW P cx ops (fun S'=>FarP S' L/\AL P cx nt0 K r S') S):AL P cx nt0 K (.c (.region id ops true)::r) S:=by
 simp only[AL];simp only[Bool.and_eq_true] at hok;obtain⟨⟨hal,hdst⟩,hreg⟩:=hok;intro G0 w0 he hn G a w hr hl;have hd:=dstOk_spec hdst;have hpre:PreB P cx.base ops.toList S.box fun b=>∃S',ARun P true cx.base ops ops.toList { S with box:=b } S'/\FarP S' L/\AL P cx nt0 K r S':=by
  unfold FRegW at h;split at h
  .rename_i b hb;exact preF_sound _ _ b hb (fOpsW_true _ _ h)
  .exact h.elim
 obtain⟨b,hb,hr1,hp,hkeep⟩:=preB_sound hnb ops.toList S.box (S:=S) hr (fun o ho d hod=>hd o d (by simpa using ho) hod) (allocOk_nodup hal) hpre;have hl1:LeC cx G0 w0 G w { S with box:=b }:=⟨hl.1,fun k hk hg=>by
  rw[<-hl.2 k hk hg];refine hkeep k fun hm=>?_
  obtain⟨o,ho,he⟩:=List.mem_filterMap.1 hm;split at he
  .rename_i T s h1 h2;simp only[Option.some.injEq] at he;subst he;exact absurd hk (by simp)
  .cases he⟩
 obtain⟨S',hrun,hfar,hK⟩:=hb;refine wp_region_any hf ?_;have hrd:RelS cx.n cx.nb G { S with box:=b } a w.drew:=hr1.drew
 have hld:LeC cx G0 w0 G w.drew { S with box:=b }:=hl1.step ⟨Le.drew,fun k _ hg=>⟨hg,rfl⟩⟩
 refine any_sound3 (n:=cx.n) (nb:=cx.nb) (base:=cx.base) (Sf:=S') (G0:=G) (w0:=w.drew) (b0:=b) hreg hal hdst hnb (by rw[hL];exact hfar) (fun a' w' G' h1 h2=>⟨S',G',hK,h1,hld.step h2⟩) ops.size (Array.replicate ops.size false) (List.range ops.size) { S with box:=b } a w.drew G rfl hside (by simp) ?_ (by simp) ?_ (IRun.of_all hrun) hrd ?_ (LeK.refl _ _ _ _)
 .rw[List.filter_eq_self.2];intro i hi;simp at hi;simp[Array.getD,hi]
 .intro i o ho hlst;have hi:=(Array.getElem?_eq_some_iff.1 ho).1;simp[Array.getD,hi] at hlst
 .intro i _ o ho;exact hp o (by simpa using Array.mem_of_getElem? ho)
theorem StopW.of_r{o:Oper}{fid:FuncId}{args:List AV}{S:AS}{K:AS->Prop}{v:AV}{tok':Nat->Bool}{nt':Nat}(h:RCall P fid args S.box S.tok S.nt v tok' nt')(hk:K ⟨putT S.tmps o.dst v,S.box,tok',nt'⟩):StopW P o fid args S K:=.inl ⟨v,tok',nt',h,hk⟩
theorem StopW.of_d{o:Oper}{fid:FuncId}{args:List AV}{S:AS}{K:AS->Prop}{v:AV}{tok':Nat->Bool}{nt':Nat}(h:DCall P fid args S.tok S.nt v tok' nt')(hk:K ⟨putT S.tmps o.dst v,S.box,tok',nt'⟩):StopW P o fid args S K:=.of_r (h.r _) hk
theorem StopW.of_w{o:Oper}{fid:FuncId}{args:List AV}{S:AS}{K:AS->Prop}{v:AV}{tok':Nat->Bool}{nt':Nat}{x:Operand}{k i off:Nat}{rows:List (List AV)}(hx:callPtr o.op=some x)(hp:S.ev x=.ptr k i off)(hb:S.box k≠none)(h:WCall P fid args k S.box S.tok S.nt v rows tok' nt')(hk:K ⟨putT S.tmps o.dst v,upd S.box k (some rows),tok',nt'⟩):StopW P o fid args S K:=.inr ⟨x,k,i,off,rows,v,tok',nt',hx,hp,hb,h,hk⟩
attribute [simp] FRegW FOneW callFn FarP
@[simp] theorem FOpsW_nil{cx:Cx}{ops:Array Oper}{K:AS->Prop}{t:Nat->AV}{b:Bxs}{k:Nat->Bool}{n:Nat}:FOpsW P cx ops [] K ⟨t,b,k,n⟩=K ⟨t,b,k,n⟩:=by simp only[FOpsW]
@[simp] theorem FOpsW_cons{cx:Cx}{ops:Array Oper}{o:Oper}{r:List Oper}{K:AS->Prop}{t:Nat->AV}{b:Bxs}{k:Nat->Bool}{n:Nat}:FOpsW P cx ops (o::r) K ⟨t,b,k,n⟩=match o.guard with
  | none=>FOneW P cx o (FOpsW P cx ops r K) ⟨t,b,k,n⟩
  | some (j,want)=>match yieldA ops ⟨t,b,k,n⟩ j with
   | some (some g)=>Gd g want (FOneW P cx o (FOpsW P cx ops r K)) (FSkip o.dst (FOpsW P cx ops r K)) ⟨t,b,k,n⟩
   | some none=>FSkip o.dst (FOpsW P cx ops r K) ⟨t,b,k,n⟩
   | none=>False:=by
 simp only[FOpsW]
def QSh(r:Cd × St2)(ks:Nat)(box:Bxs)(nb:Nat)(tok:Tks)(nt:Nat)(v:AV)(m:AMem):Prop :=
 v=r.1.av/\m=⟨upd box ks (some [[I r.2.1,I r.2.2]]),nb,tok,nt⟩
theorem shF_len(b:Gr)(m:Mo):∀(l:List Cd) (st:St2),(seqL (shF b m) l st).1.length=l.length
 | [],st=>rfl
 | x::r,st=>by
  simp only[seqL,shF,List.length_append,List.length_cons,List.length_nil,shF_len b m r];omega
theorem outS{a b:Int}{box:Bxs}{k base:Nat}{p q:Nat->Prop}:∀k' rows,k'<base->(upd box k (some [[I a,I b]])) k'=some rows->box k'=some rows∨∀r∈rows,∀x∈r,OkIn p q x:=by
 intro k' rows hk' hr;by_cases e:k'=k
 .subst e;rw[uS] at hr;cases hr;exact .inr (by simp)
 .rw[uO _ _ e] at hr;exact .inl hr
abbrev nilS:AV:=.osl 0 [] .full
abbrev z0i:AV:=.d (.raw (.int .i64 0))
def stSk(c:Cd)(b:Gr)(m:Mo)(u:St2)(ks nb:Nat)(box:Bxs)(x:Acc):AS :=
 ⟨tl [(45,.d (conds c.kids)),(46,I c.kids.length),(47,I x.i),(9,.ptr (nb+9) 0 0),(0,.ptr ks 0 0),(5,.ptr (nb+5) 0 0),(6,.ptr (nb+6) 0 0),(8,.ptr (nb+8) 0 0)],
  lb nb (upd box ks (some [[I (seqL (shF b m) (c.kids.take x.i) u).2.1,I (seqL (shF b m) (c.kids.take x.i) u).2.2]]))
   [(9,[[I c.kind,.osl 9 ((seqL (shF b m) (c.kids.take x.i) u).1.map Cd.cells) x.own,nilS,nilS,nilS,nilS,nilS,z0i,nilS]]),(5,[b.cells2]),(6,[m.cells2]),(8,[[z0i,nilS,nilS,nilS,nilS,nilS,nilS,z0i,nilS]])],x.tok,x.nt⟩
theorem ovF_yes{m mm:Mo}{H:Gr->Mo->St2->Cd × St2}{o:Ov}{st:St2}(h:agrO m mm o=true):ovF m mm H o st=([exOf o (H o.g o.r (inc st.1,st.2)).1],(H o.g o.r (inc st.1,st.2)).2):=if_pos h
theorem ovF_no{m mm:Mo}{H:Gr->Mo->St2->Cd × St2}{o:Ov}{st:St2}(h:¬agrO m mm o=true):ovF m mm H o st=([],st):=if_neg h
theorem Cd.shfH_get{l:List Cd}(h:0<l.length)(b:Gr)(m:Mo)(st:St2):Cd.shfH l b m st=Cd.shf l[0] b m st:=by
 match l,h with
 | x::r,_=>simp[Cd.shfH]
def stSo(H:Gr->Mo->St2->Cd × St2)(c:Cd)(b:Gr)(m:Mo)(u:St2)(ks nb:Nat)(box:Bxs)(L:List Ov)(x:Acc):AS :=
 ⟨tl [(81,I x.i),(80,I L.length),(79,.d (ovs L)),(9,.ptr (nb+9) 0 0),(0,.ptr ks 0 0),(5,.ptr (nb+5) 0 0),(6,.ptr (nb+6) 0 0),(7,.ptr (nb+7) 0 0),(8,.ptr (nb+8) 0 0)],
  lb nb (upd box ks (some [[I (seqL (ovF m c.m H) (L.take x.i) u).2.1,I (seqL (ovF m c.m H) (L.take x.i) u).2.2]]))
   [(9,[[I 4,.osl 9 ((seqL (ovF m c.m H) (L.take x.i) u).1.map Cd.cells) x.own,nilS,nilS,nilS,nilS,nilS,z0i,nilS]]),(5,[b.cells2]),(6,[m.cells2]),(7,[c.row]),(8,[[z0i,nilS,nilS,nilS,nilS,nilS,nilS,z0i,nilS]])],x.tok,x.nt⟩
theorem ovs_ok{b p:Gr}{q:List Ov × Int}(hb:b.Fit)(hbv:vG b=0)(hp:p.Fit)(h:oR b p=q):(∀o∈q.1,OvOk b p o)/\∀o∈q.1,o.Fit:=by
 subst h;refine⟨fun o ho=>overlapsR_ok ho,fun o ho=>?_⟩;have hk:=overlapsR_ok ho;have hvp:vG p=0:=(validM_VM hk.r).va
 have h1:=(validG_types hbv).1;have h2:=(validG_types hvp).1;exact(overlapsR_fit b p ⟨by omega,by omega⟩ ⟨by omega,by omega⟩).2 o ho
theorem ovs_few{b p:Gr}{q:List Ov × Int}(hbv:vG b=0)(h:oR b p=q):q.1.length<=1000000:=by
 subst h;by_cases hp:vG p=0
 .have h1:=(validG_types hbv).1;have h2:=(validG_types hp).1;exact(overlapsR_fit b p ⟨by omega,by omega⟩ ⟨by omega,by omega⟩).1
 .simp[oR,hbv,hp]
theorem ovF_len(m mm:Mo)(H:Gr->Mo->St2->Cd × St2):∀(l:List Ov) (st:St2),(seqL (ovF m mm H) l st).1.length<=l.length
 | [],st=>by simp[seqL]
 | o::r,st=>by
  have h1:(ovF m mm H o st).1.length<=1:=by unfold ovF;split<;>simp
  have h2:=ovF_len m mm H r (ovF m mm H o st).2;simp only[seqL,List.length_append,List.length_cons];omega
set_option maxRecDepth 100000 in
theorem shift62_c:∀(n:Nat) (c:Cd),SizeOf.sizeOf c<n->c.Fit->∀a,c.ovr a=0->∀b:Gr,b.Fit->vG b=0->∀m:Mo,Inn m a b->∀(st:St2) (ks:Nat) (box:Bxs),box ks=some [[I st.1,I st.2]]->∀(nb:Nat) (tok:Tks) (nt:Nat),
  ACalls prog 197 [.ptr ks 0 0,b.av,m.av,c.av] ⟨box,nb,tok,nt⟩ (QSh (c.shf b m st) ks box nb tok nt)
 | 0,c,hn,_,_,_,_,_,_,_,_,_,_,_,_,_,tok,nt=>absurd hn (Nat.not_lt_zero _)
 | n+1,c,hn,hc,a,hv,b,hbf,hbv,m,hm,st,ks,box,hk,nb,tok,nt=>by
  have ih:=fun x (hx:x∈c.kids)=>shift62_c n x (by have:=Cd.kid_lt hx;omega) (hc.kid x hx) (c.inn a) ((Cd.ovr_zero hv).2.2 x hx)
  obtain⟨hs0,hst,_⟩:=Cd.ovr_zero hv;have hkb:=hc.kids;have hR:=c.shf_eq b m st;refine sI func197 ntmps197 fun Hb Ht=>?_
  have kn:=key_lt Hb hk;have hw:IntKind.i64.wrap (st.1+1)=inc st.1:=rfl
  repeat first|simp[lO kn,hk,uL kn,uS,hw]|refine sR ?_
  have ht0:=TK.start Ht;obtain⟨u,hu⟩:∃u,st1 st=u:=⟨_,rfl⟩
  have hu1:u.1=inc st.1:=by rw[<-hu];rfl
  have hu2:u.2=if 2000<inc st.1 then 3 else st.2:=by rw[<-hu];rfl
  refine AL.mid ⟨tl [(0,.ptr ks 0 0),(5,.ptr (nb+5) 0 0),(6,.ptr (nb+6) 0 0),(7,.ptr (nb+7) 0 0),(8,.ptr (nb+8) 0 0)],
   lb nb (upd box ks (some [[I u.1,I u.2]])) [(5,[b.cells2]),(6,[m.cells2]),(7,[c.row]),(8,[[.d (.raw (.int .i64 0)),.osl 0 [] .full,.osl 0 [] .full,.osl 0 [] .full,.osl 0 [] .full,.osl 0 [] .full,.osl 0 [] .full,.d (.raw (.int .i64 0)),.osl 0 [] .full]])],tok,nt⟩ ?_ ?_
  .by_cases h1:2000<inc st.1
   .rw[if_pos h1] at hu2;have d1:decide (2000<inc st.1)=true:=decide_eq_true h1
    simp only[d1];refine sC ?_;simp;repeat first|simp[lO kn,uL kn,uS,upd_upd]|refine sR ?_
    refine sE ?_;simp only[hu1,hu2];exact Weaks.mk' (nr _) (by simp[ToL,lk];exact to_ptr (by rw[lO kn,uS];simp)) (by simp[BoxL,lk]) outS
   .rw[if_neg h1] at hu2;have d1:decide (2000<inc st.1)=false:=decide_eq_false h1
    simp only[d1];refine sC ?_;simp;refine sE ?_;simp only[hu1,hu2];exact Weaks.mk' (nr _) (by simp[ToL,lk];exact to_ptr (by rw[lO kn,uS];simp)) (by simp[BoxL,lk]) outS
  .rw[shStep,hu] at hR;by_cases h2:u.2=0
   .rw[if_neg (by simp[h2])] at hR;have b2n:(u.2 !=0)=false:=by simp[h2]
    repeat (first|simp[lO kn,uL kn,uS,upd_upd,b2n]|refine sR ?_)
    refine sC ?_
    repeat (first|simp[lO kn,uL kn,uS,upd_upd,b2n]|refine sR ?_)
    by_cases k5:c.kind=5
    .have b5:(c.kind !=5)=false:=by simp[k5]
     rw[if_neg (by simp[k5])] at hR;obtain⟨H,hH⟩:∃H,(fun (b:Gr) (m:Mo) (st:St2)=>Cd.shfH c.kids b m st)=H:=⟨_,rfl⟩
     rw[hH] at hR;simp only[b5];refine sC ?_;simp;have hso:=overlapsF_c b c.g hbf hc.g tok nt;obtain⟨ov,hov⟩:∃q,oR b c.g=q:=⟨_,rfl⟩
     rw[hov] at hR hso;repeat first|simp[lO kn,uL kn,uS,upd_upd]|refine sR ?_
     refine sD (hso) ?_;repeat first|simp|refine sR ?_
     by_cases he:ov.2=0
     .rw[if_neg (by simp[he])] at hR;have be:(ov.2 !=0)=false:=by simp[he]
      simp only[be];refine sC ?_;simp;repeat first|simp[lO kn,uL kn,uS,upd_upd]|refine sR ?_
      refine sN ?_;have hcm:Inn c.m a c.g:=Inn.of (by
       have h5:=hst;rw[ovrStep,if_pos k5] at h5;split at h5
       .contradiction
       .rename_i h6;exact Decidable.not_not.1 h6)
      have hva:a.nodes.length<=1000000/\a.edges.length<=1000000:=by
       have h5:=hst;rw[ovrStep,if_pos k5] at h5;split at h5
       .contradiction
       .rename_i h6;have:=(validG_types (validM_VM (Decidable.not_not.1 h6)).va).1
        omega
      obtain⟨hok,hfit⟩:=ovs_ok hbf hbv hc.g hov;have hfew:=ovs_few hbv hov;refine sL (stSo H c b m u ks nb box ov.1) (fun x=>x.i<=ov.1.length/\TK tok nt x.tok x.nt [x.own]) (fun x=>ov.1.length-x.i) ⟨0,.full,tok,nt⟩ ⟨Nat.zero_le _,ht0.full⟩
       (Weaks.mk' (nr _) (by simp[ToL,lk];exact to_ptr (by rw[lO kn,uS];simp)) (by simp[BoxL,lk,seqL]) outS) ?_
      rintro⟨i,own,tok1,nt1⟩ S ⟨hi,htk⟩ hS;simp only[stSo] at hS hi htk;subst hS;have hw1:=sW (i:=i) (by omega);repeat first|simp|refine sR ?_|refine sC ?_
      refine⟨fun hlt=>?_,fun hge=>?_⟩
      .have hS:=seqL_take (ovF m c.m H) ov.1 u hlt;have hoo:=hok _ (List.getElem_mem hlt);have hof:=hfit _ (List.getElem_mem hlt);refine sR ?_;simp[hlt];generalize ov.1[i]=o at *;have vl:=validM_VM hoo.l;have vr:=validM_VM hoo.r;have ag1:=agree_c m.nodes o.l.nodes c.m.nodes o.r.nodes (by rw[hm.ln];exact hva.1) (fun x hx=>by rw[vl.ln];exact hm.n x hx) (by rw[hm.ln,hcm.ln];exact nr _) (fun x hx=>by rw[vr.ln];exact hcm.n x hx);have ag2:=agree_c m.edges o.l.edges c.m.edges o.r.edges (by rw[hm.le];exact hva.2) (fun x hx=>by rw[vl.le];exact hm.e x hx) (by rw[hm.le,hcm.le];exact nr _) (fun x hx=>by rw[vr.le];exact hcm.e x hx);repeat first|simp|refine sR ?_
       refine sD (ag1 _ _) ?_;simp;cases g1:agrK m.nodes o.l.nodes c.m.nodes o.r.nodes m.nodes.length
       .repeat first|simp|refine sR ?_|refine sC ?_
        refine sX ?_;simp only[AU,↓reduceIte];repeat first|simp[hw1]|refine sR ?_
        refine sE ?_;rw[ovF_no (by simp[agrO,g1])] at hS;refine⟨⟨i+1,own,tok1,nt1⟩,⟨hlt,htk⟩,by simp only;omega,?_⟩;simp only[stSo,hS];refine Weaks.mk' htk.le ?_ ?_ outS
        .simp[ToL,lk];exact to_ptr (by rw[lO kn,uS];simp)
        .simp[BoxL,lk]
       .repeat first|simp|refine sR ?_
        refine sD (ag2 _ _) ?_;simp;cases g2:agrK m.edges o.l.edges c.m.edges o.r.edges m.edges.length
        .repeat first|simp|refine sR ?_|refine sC ?_
         refine sX ?_;simp only[AU,↓reduceIte];repeat first|simp[hw1]|refine sR ?_
         refine sE ?_;rw[ovF_no (by simp[agrO,g1,g2])] at hS;refine⟨⟨i+1,own,tok1,nt1⟩,⟨hlt,htk⟩,by simp only;omega,?_⟩;simp only[stSo,hS];refine Weaks.mk' htk.le ?_ ?_ outS
         .simp[ToL,lk];exact to_ptr (by rw[lO kn,uS];simp)
         .simp[BoxL,lk]
        .repeat first|simp|refine sR ?_
         have h0lt:0<c.kids.length:=shape_one hs0 (.inr k5)
         have hii:c.inn a=c.g:=if_pos k5
         rw[hii] at ih;rw[ovF_yes (by simp[agrO,g1,g2])] at hS;generalize hst0:(seqL (ovF m c.m H) (ov.1.take i) u).2=s0 at *;have hwi:IntKind.i64.wrap (s0.1+1)=inc s0.1:=rfl
         have ihx:=ih _ (List.getElem_mem h0lt) o.g hof.g vl.vb o.r (Inn.of hoo.r) (inc s0.1,s0.2) ks;rw[<-Cd.shfH_get h0lt,show ∀b m st,Cd.shfH c.kids b m st=H b m st from fun b m st=>by rw[<-hH]] at ihx;refine sC ?_;simp;refine sR ?_;simp[lO kn,uL kn,uS,upd_upd];refine sN ?_;refine AL.region3 follows_Tryz (nr _) (by kernel_rfl) (Side.of (by simp)) [] (by kernel_rfl) ?_;simp[lO kn,uL kn,uS,upd_upd,h0lt,Cd.cells_eq,hwi];refine StopW.of_w rfl rfl (by simp only;rw[lO kn,uS];simp) (fun box' nb' hb'=>(ihx box' (by rw[hb'];simp only;rw[lO kn,uS]) nb' tok1 nt1).mono fun v m1 hq=>⟨hq.1,hq.2⟩) ?_;simp[lO kn,uL kn,uS,upd_upd];repeat first|simp[lO kn,uL kn,uS,upd_upd]|refine sR ?_
         refine⟨⟨?_,htk.live⟩,?_⟩
         .have:=ovF_len m c.m H (ov.1.take i) u
          rw[List.length_take] at this;omega
         repeat first|simp[hw1]|refine sR ?_
         refine sE ?_;refine⟨⟨i+1,.tok nt1,upd (own.kill tok1) nt1 true,nt1+1⟩,⟨hlt,htk.app⟩,by simp only;omega,?_⟩;simp only[stSo,hS];refine Weaks.mk' (by have:=htk.le;omega) ?_ ?_ outS
         .simp[ToL,lk];exact to_ptr (by rw[lO kn,uS];simp)
         .simp[BoxL,lk];refine to_snoc ?_ _;simp[exOf,Cd.cells_eq,Cd.kind,Cd.kids,Cd.m,Cd.g,Cd.sl,Cd.vars,Cd.te,slots,tests]
      .refine sX ?_;simp only[AU,↓reduceIte];have:i=ov.1.length:=by omega
       subst this;repeat first|simp|refine sR ?_
       refine sT ?_;try simp only[AU]
       refine⟨by simp,(Fin.gen (av:=(cdOf 4 (seqL (ovF m c.m H) ov.1 u).1).av) (tok':=tok) (nt':=nt) (by simp[resAs,resA,lk];rfl) (by rw[<-uL kn,Hb]) (nr _) htk.le (fun t ht=>⟨htk.old t ht,.inr (Ht t ht)⟩) outS (by simp[cdOf,conds,ints,AM.edges,slots,tests,Cd.kind,Cd.kids,Cd.m,Cd.g,Cd.sl,Cd.vars,Cd.te])).mono fun v m hq=>by rw[hR];exact hq⟩
     .rw[if_pos (by simp[he])] at hR;have be:(ov.2 !=0)=true:=by simp[he]
      simp only[be];refine sC ?_;simp;repeat first|simp[lO kn,uL kn,uS,upd_upd]|refine sR ?_
      refine sT ?_;try simp only[AU]
      refine⟨by simp,(Fin.gen (av:=(cdOf 4 []).av) (tok':=tok) (nt':=nt) (by simp[resAs,resA,lk];rfl) (by rw[<-uL kn,Hb]) (nr _) (nr _) (fun t ht=>⟨ht,.inl rfl⟩) outS (by simp[cdOf,conds,ints,AM.edges,slots,tests,Cd.kind,Cd.kids,Cd.m,Cd.g,Cd.sl,Cd.vars,Cd.te])).mono fun v m hq=>by rw[hR];exact hq⟩
    .have b5:(c.kind !=5)=true:=by simp[k5]
     rw[if_pos k5] at hR;simp only[b5];refine sC ?_;simp;repeat first|simp[lO kn,uL kn,uS,upd_upd]|refine sR ?_
     refine sN ?_;rw[kidN_eq] at hkb;refine sL (stSk c b m u ks nb box) (fun x=>x.i<=c.kids.length/\TK tok nt x.tok x.nt [x.own]) (fun x=>c.kids.length-x.i) ⟨0,.full,tok,nt⟩ ⟨Nat.zero_le _,ht0.full⟩
      (Weaks.mk' (nr _) (by simp[ToL,lk];exact to_ptr (by rw[lO kn,uS];simp)) (by simp[BoxL,lk,seqL]) outS) ?_
     rintro⟨i,own,tok1,nt1⟩ S ⟨hi,htk⟩ hS;simp only[stSk] at hS hi htk;subst hS;have hw1:=sW (i:=i) (by omega);have hii:c.inn a=a:=if_neg k5
     rw[hii] at ih;repeat first|simp|refine sR ?_|refine sC ?_
     refine⟨fun hlt=>?_,fun hge=>?_⟩
     .have hS:=seqL_take (shF b m) c.kids u hlt;have ihx:=ih _ (List.getElem_mem hlt) b hbf hbv m hm (seqL (shF b m) (c.kids.take i) u).2 ks;have hsh:∀q,shF b m c.kids[i] q=([(c.kids[i].shf b m q).1],(c.kids[i].shf b m q).2):=fun q=>rfl
      rw[hsh] at hS;refine sR ?_;simp[hlt,Cd.cells_eq,lO kn,uL kn,uS];generalize c.kids[i]=x at *;have hne9:nb+9≠ks:=by omega
      refine sN ?_;refine AL.region3 follows_Tryz (nr _) (by kernel_rfl) (Side.of (by simp)) [(Operand.tmp 51,Operand.tmp 53)] (by kernel_rfl) ?_;simp[lO kn,uL kn,uS];refine StopW.of_w rfl rfl (by simp only;rw[lO kn,uS];simp) (fun box' nb' hb'=>(ihx box' (by rw[hb'];simp only;rw[lO kn,uS]) nb' tok1 nt1).mono fun v m1 hq=>⟨hq.1,hq.2⟩) ?_;simp[lO kn,uL kn,uS,upd_upd,NK,hne9];refine⟨⟨?_,htk.live⟩,?_⟩
      .have:=shF_len b m (c.kids.take i) u
       rw[List.length_take] at this;omega
      repeat first|simp[hw1]|refine sR ?_
      refine sE ?_;refine⟨⟨i+1,.tok nt1,upd (own.kill tok1) nt1 true,nt1+1⟩,⟨hlt,htk.app⟩,by simp only;omega,?_⟩;simp only[stSk,hS];refine Weaks.mk' (by have:=htk.le;omega) ?_ ?_ outS
      .simp[ToL,lk];exact to_ptr (by rw[lO kn,uS];simp)
      .simp[BoxL,lk,hS,Cd.cells_eq]
     .refine sX ?_;simp only[AU,↓reduceIte];have:i=c.kids.length:=by omega
      subst this;repeat first|simp|refine sR ?_
      refine sT ?_;try simp only[AU]
      refine⟨by simp,(Fin.gen (av:=(cdOf c.kind (seqL (shF b m) c.kids u).1).av) (tok':=tok) (nt':=nt) (by simp[resAs,resA,lk];rfl) (by rw[<-uL kn,Hb]) (nr _) htk.le (fun t ht=>⟨htk.old t ht,.inr (Ht t ht)⟩) outS (by simp[cdOf,conds,ints,AM.edges,slots,tests,Cd.kind,Cd.kids,Cd.m,Cd.g,Cd.sl,Cd.vars,Cd.te])).mono fun v m hq=>by rw[hR];exact hq⟩
   .rw[if_pos h2] at hR;have b2:(u.2 !=0)=true:=by simp[h2]
    repeat first|simp[lO kn,uL kn,uS,upd_upd,b2]|refine sR ?_|refine sC ?_
    refine sT ?_;try simp only[AU]
    refine⟨by simp,(Fin.gen (av:=(cdOf c.kind []).av) (tok':=tok) (nt':=nt) (by simp[resAs,resA,lk];rfl) (by rw[<-uL kn,Hb]) (nr _) (nr _) (fun t ht=>⟨ht,.inl rfl⟩) outS (by simp[cdOf,conds,ints,AM.edges,slots,tests,Cd.kind,Cd.kids,Cd.m,Cd.g,Cd.sl,Cd.vars,Cd.te])).mono fun v m hq=>by rw[hR];exact hq⟩
end Go.AM
