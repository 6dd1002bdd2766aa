import Derived.WalkKit
import Derived.Laws.CopyRow
set_option linter.unusedSimpArgs false
set_option linter.unusedVariables false
namespace Go.AM
theorem aa.{u}:type_of% @List.getElem_mem.{u}:=@List.getElem_mem
theorem bj.{u}:type_of% @Array.getElem?_eq_some_iff.{u}:=@Array.getElem?_eq_some_iff
theorem cb:type_of% @Nat.le_trans:=@Nat.le_trans
theorem ct:type_of% @Nat.lt_of_lt_of_le:=@Nat.lt_of_lt_of_le
theorem b6.{u}:type_of% @List.getElem_append_left.{u}:=@List.getElem_append_left
theorem ch.{u}:type_of% @List.getElem_append_right.{u}:=@List.getElem_append_right
theorem fj.{u}:type_of% @List.getElem_take.{u}:=@List.getElem_take
theorem ba.{u}:type_of% @List.getElem?_eq_some_iff.{u}:=@List.getElem?_eq_some_iff
theorem ab.{u}:type_of% @List.getElem?_eq_getElem.{u}:=@List.getElem?_eq_getElem
theorem ai:type_of% @Nat.zero_le:=@Nat.zero_le
theorem bl.{u,v}:type_of% @List.getElem_map.{u,v}:=@List.getElem_map
theorem aq.{u}:type_of% @List.all_eq_true.{u}:=@List.all_eq_true
theorem bg.{u}:type_of% @List.eq_nil_of_length_eq_zero.{u}:=@List.eq_nil_of_length_eq_zero
theorem bo:type_of% @Go.RowKit.Below.heap_alloc:=@Go.RowKit.Below.heap_alloc
theorem ad.{u}:type_of% @Option.some.injEq.{u}:=@Option.some.injEq
theorem aw.{u,v}:type_of% @Prod.mk.injEq.{u,v}:=@Prod.mk.injEq
theorem fk:type_of% @Go.heap_alloc_new:=@Go.heap_alloc_new
theorem fc:type_of% @Go.setRow_other:=@Go.setRow_other
theorem ci.{u}:type_of% @List.length_cons.{u}:=@List.length_cons
theorem ah.{u}:type_of% @List.take_succ_eq_append_getElem.{u}:=@List.take_succ_eq_append_getElem
theorem cr.{u}:type_of% @List.flatten_cons.{u}:=@List.flatten_cons
theorem am.{u}:type_of% @List.length_append.{u}:=@List.length_append
theorem cf:type_of% @Nat.add_mul:=@Nat.add_mul
theorem eq.{u}:type_of% @List.nil_append.{u}:=@List.nil_append
theorem cd:type_of% @Nat.zero_add:=@Nat.zero_add
theorem gw:type_of% @Nat.add_assoc:=@Nat.add_assoc
theorem cw.{u}:type_of% @List.append_assoc.{u}:=@List.append_assoc
theorem fg.{u}:type_of% @List.mem_of_getElem?.{u}:=@List.mem_of_getElem?
theorem bm:type_of% @Nat.mul_le_mul_right:=@Nat.mul_le_mul_right
theorem cj.{u}:type_of% @List.length_take.{u}:=@List.length_take
theorem dd.{u}:type_of% @List.getElem?_append_right.{u}:=@List.getElem?_append_right
theorem ep:type_of% @Nat.add_sub_cancel_left:=@Nat.add_sub_cancel_left
theorem bi.{u}:type_of% @List.getElem?_append_left.{u}:=@List.getElem?_append_left
theorem ak.{u}:type_of% @List.take_of_length_le.{u}:=@List.take_of_length_le
theorem c8.{u}:type_of% @List.take_append_of_le_length.{u}:=@List.take_append_of_le_length
theorem cy.{u,v}:type_of% @Option.map_eq_some_iff.{u,v}:=@Option.map_eq_some_iff
theorem ax:type_of% @Go.Sem.run_bind:=@Go.Sem.run_bind
theorem bp:type_of% @Go.run_underlying:=@Go.run_underlying
theorem aj:type_of% @Go.Result.andThen_ok:=@Go.Result.andThen_ok
theorem a8:type_of% @Go.Sem.run_pure:=@Go.Sem.run_pure
theorem bu:type_of% @Bool.false_eq_true:=@Bool.false_eq_true
theorem f9.{u,v}:type_of% @List.getElem?_map.{u,v}:=@List.getElem?_map
theorem gq:type_of% @List.getElem_range:=@List.getElem_range
theorem e8:type_of% @Go.cell_of_row:=@Go.cell_of_row
theorem d4.{u}:type_of% @List.getElem?_eq_none.{u}:=@List.getElem?_eq_none
theorem bc.{u,v}:type_of% @List.mem_map.{u,v}:=@List.mem_map
theorem br.{u,v}:type_of% @List.length_map.{u,v}:=@List.length_map
theorem gz:type_of% @Nat.mul_one:=@Nat.mul_one
theorem fl:type_of% @Nat.add_zero:=@Nat.add_zero
theorem cu.{u}:type_of% @List.mem_of_mem_drop.{u}:=@List.mem_of_mem_drop
theorem bt.{u}:type_of% @List.mem_of_mem_take.{u}:=@List.mem_of_mem_take
theorem e9.{u}:type_of% @List.getElem?_take_of_lt.{u}:=@List.getElem?_take_of_lt
theorem gr.{u}:type_of% @List.getElem?_drop.{u}:=@List.getElem?_drop
theorem gh.{u}:type_of% @List.drop_eq_nil_of_le.{u}:=@List.drop_eq_nil_of_le
theorem fo:type_of% @not_true_eq_false:=@not_true_eq_false
theorem co.{u}:type_of% @List.eq_of_mem_replicate.{u}:=@List.eq_of_mem_replicate
theorem gl.{u}:type_of% @List.mem_flatten.{u}:=@List.mem_flatten
theorem d8.{u,v}:type_of% @congrArg.{u,v}:=@congrArg
theorem di.{u,v}:type_of% @List.map_cons.{u,v}:=@List.map_cons
theorem d6.{u,v}:type_of% @List.map_nil.{u,v}:=@List.map_nil
theorem dv.{u,v}:type_of% @Option.bind_eq_some_iff.{u,v}:=@Option.bind_eq_some_iff
theorem ap.{u}:type_of% @List.mem_append.{u}:=@List.mem_append
theorem gg.{u}:type_of% @List.flatten_append.{u}:=@List.flatten_append
theorem ef:type_of% @Nat.lt_succ_self:=@Nat.lt_succ_self
open Go
theorem nr0(n:Nat):n<=n:=Nat.le_refl n
inductive D where
 | raw (v:Value)
 | sl (sz:Nat) (es:List (List D))
 deriving Inhabited
inductive Own where
 | full
 | tok (t:Nat)
inductive AV where
 | bot
 | d (x:D)
 | osl (sz:Nat) (es:List (List D)) (o:Own)
 | ptr (k i off:Nat)
 | cptr (cs:List D) (off:Nat)
 | msl (k off n sz:Nat)
 | fn (f:Fn) (caps:List AV)
 | agg (cs:List AV)
 | tup (vs:List AV)
 | ex (t sz:Nat) (es:List (List D))
 | buf (E:TypeId) (t:Nat) (es:List (List D))
 | stk (t sz:Nat) (es:List (List D))
 | que (t sz:Nat) (es:List (List D))
 | mp (t:Nat) (es:List (ByteArray × List (List D) × Own))
 | mpd (es:List (ByteArray × List (List D)))
 | here (k:Nat) (T:TypeId)
instance:Inhabited AV:=⟨.bot⟩
inductive BK where
 | whole
 | part (f c:Nat)
 | box
 | ex
structure Gh where
 bx:Nat->Option (Nat × Nat)
 tk:Nat->Option (Option Nat)
 kind:Nat->BK
 nt:Nat
def Gh.ps(G:Gh)(a:Addr):Prop:=match G.kind a.block with
 | .whole=>True
 | .part f _=>a.off<f
 | .box=>False
 | .ex=>False
inductive RVd (c:Addr->Option Value) (ps:Addr->Prop):D->Value->Prop
 | raw {v:Value} (h:v.oneCell'=true):RVd c ps (.raw v) v
 | sl {sz:Nat} {es:List (List D)} {A:Option Addr} {cap:Nat} (u:Nat->Nat->Value) (i8:es.length<=cap) (i9:cap<=maxLen)
   (hsz:∀e∈es,e.length=sz) (hA:es≠[]->∃a,A=some a)
   (hc:∀a,A=some a->∀i j,i<es.length->j<sz->ps (a.add (i*sz+j))/\c (a.add (i*sz+j))=some (u i j))
   (hr:∀i j (hi:i<es.length) (hj:j<es[i].length),RVd c ps es[i][j] (u i j)) :
   RVd c ps (.sl sz es) (.slice A es.length cap)
theorem RVd.mono{c c':Addr->Option Value}{ps ps':Addr->Prop}(h:∀a u,ps a->c a=some u->ps' a/\c' a=some u){x:D}{v:Value}(r:RVd c ps x v):RVd c' ps' x v:=by
 induction r with
 | raw h1=>exact .raw h1
 | sl u i8 i9 hsz hA hc hr ih =>
  exact .sl u i8 i9 hsz hA (fun a ha i j hi hj=>h _ _ (hc a ha i j hi hj).1 (hc a ha i j hi hj).2) ih
def tI(G:Gh)(sz:Nat)(n:Nat)(o:Own)(v:Value):Prop:=match o with
 | .full=>∃A,v=.slice A n n/\(sz=0->A=none)
 | .tok t=>t<G.nt/\∀x,G.tk t=some x->match x with
   | none=>∃A,v=.slice A n n
   | some g=>∃cap,v=.slice (some ⟨g,0,none⟩) n cap/\G.kind g=.part (n*sz) (cap*sz)
def ExR(G:Gh)(w:World)(t sz:Nat)(es:List (List D))(v:Value):Prop:=t<G.nt/\(∃A n c,v=.slice A n c)/\∀x,G.tk t=some x->∃g cap cs e,x=some g/\v=.slice (some ⟨g,0,none⟩) es.length cap/\es.length<=cap/\cap<=maxLen/\G.kind g=.ex /\
 w.heap[g]?=some (.cells cs e (0,0))/\(∀r∈es,r.length=sz)/\es.flatten.length=cs.toList.length/\(∀i (h1:i<es.flatten.length) (h2:i<cs.toList.length),RVd w.cell? G.ps es.flatten[i] cs.toList[i])/\∀v∈cs.toList,v.oneCell'=true
structure cN (c:Addr->Option Value) (ps:Addr->Prop) (sz:Nat) (es:List (List D)) (vs:List Value):Prop where
 len:vs.length=es.length*sz
 one:∀u∈vs,u.oneCell'=true
 each:∀e∈es,e.length=sz
 read:∀i j (hi:i<es.length) (hj:j<es[i].length),∃u,vs[i*sz+j]?=some u/\RVd c ps es[i][j] u
theorem cN.mono{c c':Addr->Option Value}{ps ps':Addr->Prop}(h:∀a u,ps a->c a=some u->ps' a/\c' a=some u){sz:Nat}{es:List (List D)}{vs:List Value}(r:cN c ps sz es vs):cN c' ps' sz es vs where
 len:=r.len
 one:=r.one
 each:=r.each
 read i j hi hj:=let ⟨u,hu,hr⟩:=r.read i j hi hj;⟨u,hu,hr.mono h⟩
def zF(G:Gh)(w:World)(t sz:Nat)(es:List (List D))(v:Value):Prop:=t<G.nt/\∃A cap,v=.slice A es.length cap/\es.length<=cap/\cap<=maxLen/\∀x,G.tk t=some x->match x with
 | none=>cap=0
 | some g=>A=some ⟨g,0,none⟩/\∃vs sp e,G.kind g=.ex/\w.heap[g]?=some (.cells (vs++sp).toArray e (0,0))/\(vs++sp).length=cap*sz/\cN w.cell? G.ps sz es vs/\∀u∈sp,u.oneCell'=true
def aEt(G:Gh)(sz n t:Nat)(v:Value):Prop:=t<G.nt/\∀x,G.tk t=some x->(∃A,v=.slice A n n)∨∃g d cap,x=some g/\v=.slice (some ⟨g,d,none⟩) n cap/\G.kind g=.part (d+n*sz) (d+cap*sz)
theorem aEt.imp{G G':Gh}{sz n t:Nat}{v:Value}(h:aEt G sz n t v)(ht:t<G'.nt)(hx:∀x,G'.tk t=some x->G.tk t=some x/\∀g,x=some g->∀f c,G.kind g=.part f c->G'.kind g=.part f c):aEt G' sz n t v :=
 ⟨ht,fun x wb=>by
  obtain⟨h1,h2⟩:=hx x wb;rcases h.2 x h1 with h3|⟨g,d,cap,rfl,h4,h5⟩
  .exact .inl h3
  .exact .inr ⟨g,d,cap,rfl,h4,h2 g rfl _ _ h5⟩⟩
def EnR(c:Addr->Option Value)(ps:Addr->Prop)(es:List (ByteArray × List (List D)))(en:Array MapEntry):Prop:=es.length=en.size/\∀i (h1:i<es.length) (h2:i<en.size),en[i].key=.string es[i].1/\RVd c ps (.sl 1 es[i].2) en[i].val
theorem EnR.mono{c c':Addr->Option Value}{ps ps':Addr->Prop}(h:∀a u,ps a->c a=some u->ps' a/\c' a=some u){es:List (ByteArray × List (List D))}{en:Array MapEntry}(r:EnR c ps es en):EnR c' ps' es en:=⟨r.1,fun i h1 h2=>⟨(r.2 i h1 h2).1,(r.2 i h1 h2).2.mono h⟩⟩
def mpE(es:List (ByteArray × List (List D) × Own)):List (ByteArray × List (List D)):=es.map fun e=>(e.1,e.2.1)
def MpR(G:Gh)(w:World)(t:Nat)(es:List (ByteArray × List (List D) × Own))(v:Value):Prop:=t<G.nt/\(∀e∈es,∀t',e.2.2=.tok t'->t'<G.nt)/\∃r,v=.map (some r)/\∀x,G.tk t=some x->x=some r/\G.kind r=.ex /\
 ∃en k,w.heap[r]?=some (.map en k)/\EnR w.cell? G.ps (mpE es) en/\∀i (h1:i<es.length) (h2:i<en.size),tI G 1 es[i].2.1.length es[i].2.2 en[i].val
theorem MpR.imp{G G':Gh}{w w':World}{t:Nat}{es:List (ByteArray × List (List D) × Own)}{v:Value}(h:MpR G w t es v)(ht:t<G'.nt)(n8:∀e∈es,∀t',e.2.2=.tok t'->t'<G.nt->t'<G'.nt)(hc:∀a u,G.ps a->w.cell? a=some u->G'.ps a/\w'.cell? a=some u)(hx:∀x,G'.tk t=some x->G.tk t=some x/\∀g,x=some g->G.kind g=.ex->G'.kind g=.ex/\w'.heap[g]?=w.heap[g]?)(ho:∀e∈es,∀n u,tI G 1 n e.2.2 u->tI G' 1 n e.2.2 u):MpR G' w' t es v:=by
 obtain⟨_,h0,r,hv,h⟩:=h;refine⟨ht,fun e he t' e1=>n8 e he t' e1 (h0 e he t' e1),r,hv,fun x wb=>?_⟩;obtain⟨h1,h2⟩:=hx x wb;obtain⟨rfl,hk,en,k,hh,he,hw⟩:=h x h1;obtain⟨k1,k2⟩:=h2 r rfl hk;exact⟨rfl,k1,en,k,k2.trans hh,he.mono hc,fun i g1 g2=>ho _ (aa g1) _ _ (hw i g1 g2)⟩
def MpD(G:Gh)(w:World)(es:List (ByteArray × List (List D)))(v:Value):Prop:=∃r,v=.map (some r)/\G.kind r=.whole/\∃en k,w.heap[r]?=some (.map en k)/\EnR w.cell? G.ps es en
theorem MpD.imp{G G':Gh}{w w':World}{es:List (ByteArray × List (List D))}{v:Value}(h:MpD G w es v)(hc:∀a u,G.ps a->w.cell? a=some u->G'.ps a/\w'.cell? a=some u)(hk:∀r,r<w.heap.size->G.kind r=.whole->G'.kind r=.whole/\w'.heap[r]?=w.heap[r]?):MpD G' w' es v:=by
 obtain⟨r,hv,h1,en,k,hh,he⟩:=h;obtain⟨k1,k2⟩:=hk r (bj.1 hh).1 h1;exact⟨r,hv,k1,en,k,k2.trans hh,he.mono hc⟩
inductive RV (G:Gh) (w:World):AV->Value->Prop
 | bot {v:Value}:RV G w .bot v
 | d {x:D} {v:Value} (h:RVd w.cell? G.ps x v):RV G w (.d x) v
 | osl {sz:Nat} {es:List (List D)} {o:Own} {v:Value} (h:RVd w.cell? G.ps (.sl sz es) v) (ho:tI G sz es.length o v):RV G w (.osl sz es o) v
 | ptr {k i off b sz:Nat} (h:G.bx k=some (b,sz)):RV G w (.ptr k i off) (.pointer (some ⟨b,i*sz+off,none⟩))
 | cptr {cs:List D} {off:Nat} (a:Addr) (u:Nat->Value) (hc:∀j,j<cs.length->G.ps (a.add j)/\w.cell? (a.add j)=some (u j))
   (hr:∀j (hj:j<cs.length),RVd w.cell? G.ps cs[j] (u j)):RV G w (.cptr cs off) (.pointer (some (a.add off)))
 | msl {k off n b sz cap:Nat} (h:G.bx k=some (b,sz)) (hn:n<=cap) (hc:cap<=maxLen):RV G w (.msl k off n sz) (.slice (some ⟨b,off*sz,none⟩) n cap)
 | fn {f:Fn} {caps:List AV} {vs:List Value} (hl:caps.length=vs.length) (h:∀i (h1:i<caps.length) (h2:i<vs.length),RV G w caps[i] vs[i]) :
   RV G w (.fn f caps) (.func f #[] vs.toArray)
 | agg {cs:List AV} {vs:List Value} (hl:cs.length=vs.length) (h:∀i (h1:i<cs.length) (h2:i<vs.length),RV G w cs[i] vs[i])
   (h1:∀v∈vs,v.oneCell'=true):RV G w (.agg cs) (.agg vs.toArray)
 | tup {cs:List AV} {vs:List Value} (hl:cs.length=vs.length) (h:∀i (h1:i<cs.length) (h2:i<vs.length),RV G w cs[i] vs[i]) :
   RV G w (.tup cs) (.tuple vs.toArray)
 | ex {t sz:Nat} {es:List (List D)} {v:Value} (h:ExR G w t sz es v):RV G w (.ex t sz es) v
 | buf {E:TypeId} {t:Nat} {es:List (List D)} {v:Value} (h:RVd w.cell? G.ps (.sl 1 es) v) (ho:tI G 1 es.length (.tok t) v) (hn:G.tk t≠some none)
   (he:∀g,G.tk t=some (some g)->∃cs f,w.heap[g]?=some (.cells cs E f)):RV G w (.buf E t es) v
 | stk {t sz:Nat} {es:List (List D)} {v:Value} (h:zF G w t sz es v):RV G w (.stk t sz es) v
 | que {t sz:Nat} {es:List (List D)} {v:Value} (h:RVd w.cell? G.ps (.sl sz es) v) (ho:aEt G sz es.length t v):RV G w (.que t sz es) v
 | mp {t:Nat} {es:List (ByteArray × List (List D) × Own)} {v:Value} (h:MpR G w t es v):RV G w (.mp t es) v
 | mpd {es:List (ByteArray × List (List D))} {v:Value} (h:MpD G w es v):RV G w (.mpd es) v
 | here {k b sz:Nat} {T:TypeId} {cs:Array Value} {f:Nat × Nat} (h:G.bx k=some (b,sz)) (ht:w.heap[b]?=some (.cells cs T f)):RV G w (.here k T) (.pointer none)
structure Le (G:Gh) (w:World) (G':Gh) (w':World):Prop where
 os:w'.os=w.os
 tape:w'.tape=w.tape
 output:w'.output=w.output
 size:w.heap.size<=w'.heap.size
 whole:∀b,b<w.heap.size->G.kind b=.whole->G'.kind b=.whole/\w'.heap[b]?=w.heap[b]?
 part:∀b f c,G.kind b=.part f c->(∃f',f<=f'/\G'.kind b=.part f' c)/\∀a:Addr,a.block=b->a.off<f->w'.cell? a=w.cell? a
 bx:∀k x,G.bx k=some x->G'.bx k=some x
 nt:G.nt<=G'.nt
 tk:∀t,t<G.nt->G'.tk t=none∨(G'.tk t=G.tk t/\∀g,G.tk t=some (some g)->G'.kind g=G.kind g/\(G.kind g=.ex->w'.heap[g]?=w.heap[g]?))
 ty:∀(b:Nat) cs T f,w.heap[b]?=some (.cells cs T f)->∃cs' f',w'.heap[b]?=some (.cells cs' T f')
theorem Le.refl(G:Gh)(w:World):Le G w G w :=
 ⟨rfl,rfl,rfl,nr0 _,fun _ _ h=>⟨h,rfl⟩,fun _ f _ h=>⟨⟨f,nr0 _,h⟩,fun _ _ _=>rfl⟩,fun _ _ h=>h,nr0 _,fun _ _=>.inr ⟨rfl,fun _ _=>⟨rfl,fun _=>rfl⟩⟩,fun _ _ _ _ h=>⟨_,_,h⟩⟩
theorem Le.trans{G1 G2 G3:Gh}{w1 w2 w3:World}(h:Le G1 w1 G2 w2)(k:Le G2 w2 G3 w3):Le G1 w1 G3 w3 where
 os:=k.os.trans h.os
 tape:=k.tape.trans h.tape
 output:=k.output.trans h.output
 size:=cb h.size k.size
 whole b hb hk:=by
  obtain⟨h1,h2⟩:=h.whole b hb hk;obtain⟨k1,k2⟩:=k.whole b (ct hb h.size) h1;exact⟨k1,k2.trans h2⟩
 part b f c hk:=by
  obtain⟨⟨f1,hf1,h1⟩,h2⟩:=h.part b f c hk;obtain⟨⟨f2,uk,k1⟩,k2⟩:=k.part b f1 c h1;exact⟨⟨f2,cb hf1 uk,k1⟩,fun a ha ho=>(k2 a ha (ct ho hf1)).trans (h2 a ha ho)⟩
 bx j x hx:=k.bx j x (h.bx j x hx)
 nt:=cb h.nt k.nt
 tk t ht:=by
  rcases k.tk t (ct ht h.nt) with k1|⟨k1,k2⟩
  .exact .inl k1
  .rcases h.tk t ht with h1|⟨h1,h2⟩
   .exact .inl (k1.trans h1)
   .exact .inr ⟨k1.trans h1,fun g hg=>by
     obtain⟨a1,a2⟩:=h2 g hg;obtain⟨b1,b2⟩:=k2 g (h1.trans hg);exact⟨b1.trans a1,fun he=>(b2 (a1.trans he)).trans (a2 he)⟩⟩
 ty b cs T f hb:=by
  obtain⟨_,_,h1⟩:=h.ty b cs T f hb;exact k.ty b _ T _ h1
theorem yM{w:World}{a:Addr}{u:Value}(h:w.cell? a=some u):a.block<w.heap.size:=World.block_lt_of_cell? w a h
theorem Le.cells{G G':Gh}{w w':World}(h:Le G w G' w')(a:Addr)(u:Value)(hp:G.ps a)(hc:w.cell? a=some u):G'.ps a/\w'.cell? a=some u:=by
 unfold Gh.ps at hp ⊢;cases hk:G.kind a.block with
 | whole =>
  obtain⟨h1,h2⟩:=h.whole a.block (yM hc) hk;rw[h1];exact⟨trivial,by rw[World.cell?_of_block (w:=w) h2];exact hc⟩
 | part f c =>
  rw[hk] at hp;obtain⟨⟨f',hf,h1⟩,h2⟩:=h.part a.block f c hk;rw[h1];exact⟨ct hp hf,(h2 a rfl hp).trans hc⟩
 | box=>rw[hk] at hp;exact hp.elim
 | ex=>rw[hk] at hp;exact hp.elim
theorem tI.mono{G G':Gh}{w w':World}(h:Le G w G' w'){sz n:Nat}{o:Own}{v:Value}(r:tI G sz n o v):tI G' sz n o v:=by
 cases o with
 | full=>exact r
 | tok t =>
  obtain⟨r1,r2⟩:=r;refine⟨ct r1 h.nt,fun x hx=>?_⟩;rcases h.tk t r1 with k|⟨k,k2⟩
  .rw[k] at hx;cases hx
  .have:=r2 x (k ▸ hx)
   cases x with
   | none=>exact this
   | some g =>
    obtain⟨cap,hv,hg⟩:=this;exact⟨cap,hv,(k2 g (k ▸ hx)).1.trans hg⟩
theorem ExR.mono{G G':Gh}{w w':World}(h:Le G w G' w'){t sz:Nat}{es:List (List D)}{v:Value}(r:ExR G w t sz es v):ExR G' w' t sz es v:=by
 obtain⟨r1,r0,r2⟩:=r;refine⟨ct r1 h.nt,r0,fun x hx=>?_⟩;rcases h.tk t r1 with k|⟨k,k2⟩
 .rw[k] at hx;cases hx
 .obtain⟨g,cap,cs,e,rfl,h2,h3,h4,h5,h6,h7,h8,h9,yi⟩:=r2 x (k ▸ hx);obtain⟨b1,b2⟩:=k2 g (k ▸ hx);exact⟨g,cap,cs,e,rfl,h2,h3,h4,b1.trans h5,(b2 h5).trans h6,h7,h8,fun i g1 g2=>(h9 i g1 g2).mono h.cells,yi⟩
theorem zF.mono{G G':Gh}{w w':World}(h:Le G w G' w'){t sz:Nat}{es:List (List D)}{v:Value}(r:zF G w t sz es v):zF G' w' t sz es v:=by
 obtain⟨r1,A,cap,hv,hc,hm,r2⟩:=r;refine⟨ct r1 h.nt,A,cap,hv,hc,hm,fun x hx=>?_⟩;rcases h.tk t r1 with k|⟨k,k2⟩
 .rw[k] at hx;cases hx
 .have h0:=r2 x (k ▸ hx);cases x with
  | none=>exact h0
  | some g =>
   obtain⟨hA,vs,sp,e,h5,h6,h7,h8,h9⟩:=h0;obtain⟨b1,b2⟩:=k2 g (k ▸ hx);exact⟨hA,vs,sp,e,b1.trans h5,(b2 h5).trans h6,h7,h8.mono h.cells,h9⟩
theorem aEt.mono{G G':Gh}{w w':World}(h:Le G w G' w'){sz n t:Nat}{v:Value}(r:aEt G sz n t v):aEt G' sz n t v:=by
 refine r.imp (ct r.1 h.nt) fun x hx=>?_
 rcases h.tk t r.1 with k|⟨k,k2⟩
 .rw[k] at hx;cases hx
 .have hg:=k ▸ hx;refine⟨hg,fun g e f c he=>?_⟩;subst e;exact(k2 g hg).1.trans he
theorem MpR.mono{G G':Gh}{w w':World}(h:Le G w G' w'){t:Nat}{es:List (ByteArray × List (List D) × Own)}{v:Value}(r:MpR G w t es v):MpR G' w' t es v:=by
 refine r.imp (ct r.1 h.nt) (fun _ _ _ _ k=>ct k h.nt) h.cells (fun x hx=>?_) fun e _ n u ho=>ho.mono h
 rcases h.tk t r.1 with k|⟨k,k2⟩
 .rw[k] at hx;cases hx
 .have hg:=k ▸ hx;refine⟨hg,fun g e he=>?_⟩;subst e;obtain⟨b1,b2⟩:=k2 g hg;exact⟨b1.trans he,b2 he⟩
theorem MpD.mono{G G':Gh}{w w':World}(h:Le G w G' w'){es:List (ByteArray × List (List D))}{v:Value}(r:MpD G w es v):MpD G' w' es v:=r.imp h.cells fun b hb hk=>h.whole b hb hk
theorem RV.mono{G G':Gh}{w w':World}(h:Le G w G' w'){x:AV}{v:Value}(r:RV G w x v):RV G' w' x v:=by
 induction r with
 | bot=>exact .bot
 | d h1=>exact .d (h1.mono h.cells)
 | osl h1 h2=>exact .osl (h1.mono h.cells) (h2.mono h)
 | ptr h1=>exact .ptr (h.bx _ _ h1)
 | cptr a u hc hr=>exact .cptr a u (fun j hj=>h.cells _ _ (hc j hj).1 (hc j hj).2) (fun j hj=>(hr j hj).mono h.cells)
 | msl h1 h2 h3=>exact .msl (h.bx _ _ h1) h2 h3
 | fn hl _ ih=>exact .fn hl ih
 | agg hl _ h1 ih=>exact .agg hl ih h1
 | tup hl _ ih=>exact .tup hl ih
 | ex h1=>exact .ex (h1.mono h)
 | stk h1=>exact .stk (h1.mono h)
 | que h1 h2=>exact .que (h1.mono h.cells) (h2.mono h)
 | mp h1=>exact .mp (h1.mono h)
 | mpd h1=>exact .mpd (h1.mono h)
 | buf h1 h2 h3 h4 =>
  refine .buf (h1.mono h.cells) (h2.mono h) (fun e=>?_) fun g e=>?_
  .rcases h.tk _ h2.1 with k|⟨k,_⟩
   .rw[k] at e;cases e
   .exact h3 (k ▸ e)
  .rcases h.tk _ h2.1 with k|⟨k,_⟩
   .rw[k] at e;cases e
   .obtain⟨_,_,h5⟩:=h4 g (k ▸ e);exact h.ty _ _ _ _ h5
 | here h1 h2 =>
  obtain⟨_,_,h3⟩:=h.ty _ _ _ _ h2;exact .here (h.bx _ _ h1) h3
def RVs(G:Gh)(w:World)(xs:List AV)(vs:List Value):Prop:=xs.length=vs.length/\∀i (h1:i<xs.length) (h2:i<vs.length),RV G w xs[i] vs[i]
theorem RVs.mono{G G':Gh}{w w':World}(h:Le G w G' w'){xs:List AV}{vs:List Value}(r:RVs G w xs vs):RVs G' w' xs vs :=
 ⟨r.1,fun i h1 h2=>(r.2 i h1 h2).mono h⟩
theorem RVs.nil{G:Gh}{w:World}:RVs G w [] []:=⟨rfl,fun _ h=>by simp at h⟩
theorem RVs.cons{G:Gh}{w:World}{x:AV}{v:Value}{xs:List AV}{vs:List Value}(h:RV G w x v)(r:RVs G w xs vs):RVs G w (x::xs) (v::vs) :=
 ⟨by simp[r.1],fun i h1 h2=>by
  cases i with
  | zero=>exact h
  | succ i=>exact r.2 i (by simpa using h1) (by simpa using h2)⟩
theorem RVs.append{G:Gh}{w:World}{xs ys:List AV}{vs us:List Value}(h:RVs G w xs vs)(k:RVs G w ys us):RVs G w (xs++ys) (vs++us):=by
 refine⟨by simp[h.1,k.1],fun i h1 h2=>?_⟩;by_cases hi:i<xs.length
 .rw[b6 hi,b6 (by rw[<-h.1];exact hi)];exact h.2 i hi _
 .have hl:=h.1;rw[ch (by omega),ch (by omega)];have:=k.2 (i-xs.length) (by simp at h1;omega) (by have:=k.1;simp at h1;omega)
  simpa[hl] using this
theorem RVs.take{G:Gh}{w:World}{xs:List AV}{vs:List Value}(h:RVs G w xs vs)(n:Nat):RVs G w (xs.take n) (vs.take n) :=
 ⟨by simp[h.1],fun i h1 h2=>by
  simp only[fj];exact h.2 i (by simp at h1;omega) (by simp at h2;omega)⟩
theorem RVs.drop{G:Gh}{w:World}{xs:List AV}{vs:List Value}(h:RVs G w xs vs)(n:Nat):RVs G w (xs.drop n) (vs.drop n) :=
 ⟨by simp[h.1],fun i h1 h2=>by
  simp only[List.getElem_drop];exact h.2 (n+i) (by simp at h1;omega) (by simp at h2;omega)⟩
theorem RVs.get{G:Gh}{w:World}{xs:List AV}{vs:List Value}(h:RVs G w xs vs){i:Nat}{x:AV}(hx:xs[i]?=some x):∃v,vs[i]?=some v/\RV G w x v:=by
 obtain⟨hi,rfl⟩:=ba.1 hx;have hv:i<vs.length:=by rw[<-h.1];exact hi
 exact⟨vs[i],ab hv,h.2 i hi hv⟩
structure bH where
 box:Nat->Option (List (List AV))
 nb:Nat
 tok:Nat->Bool
 nt:Nat
abbrev aPd(G:Gh)(w:World)(g:Nat):Prop:=∃(f:Nat) (cur:Array Value) (o:Obj),((G.kind g=.part f cur.size/\∃e,o=.cells cur e (0,0))∨G.kind g=.ex)/\w.heap[g]?=some o
def aFE:Nat->Option (List D):=fun _=>none
def nV(G:Gh)(w:World):Prop:=∀g cs,aFE g=some cs->∃u:Nat->Value,(∀j,j<cs.length->G.ps ((⟨g,0,none⟩:Addr).add j)/\w.cell? ((⟨g,0,none⟩:Addr).add j)=some (u j))/\∀j (hj:j<cs.length),RVd w.cell? G.ps cs[j] (u j)
theorem nV.mono{G G':Gh}{w w':World}(h:∀a u,G.ps a->w.cell? a=some u->G'.ps a/\w'.cell? a=some u)(k:nV G w):nV G' w':=fun g cs hg=>by
 obtain⟨u,h1,h2⟩:=k g cs hg;exact⟨u,fun j hj=>h _ _ (h1 j hj).1 (h1 j hj).2,fun j hj=>(h2 j hj).mono h⟩
def aJQ(g:Nat):AV:=match aFE g with
 | some cs=>.cptr cs 0
 | none=>.bot
theorem nV.rv{G:Gh}{w:World}(k:nV G w)(g:Nat):RV G w (aJQ g) (.pointer (some ⟨g,0,none⟩)):=by
 unfold aJQ;split
 .rename_i cs hg;obtain⟨u,h1,h2⟩:=k g cs hg;exact .cptr (off:=0) ⟨g,0,none⟩ u h1 h2
 .exact .bot
structure aV (G:Gh) (m:bH) (w:World):Prop where
 box:∀k rows b sz,m.box k=some rows->G.bx k=some (b,sz)->G.kind b=.box/\∃cs e,w.heap[b]?=some (.cells cs e (0,0))/\(∀r∈rows,r.length=sz)/\RVs G w rows.flatten cs.toList/\(∀v∈cs.toList,v.oneCell'=true)
 nobox:∀k,m.box k=none->G.bx k=none
 inj:∀k k' b sz sz',G.bx k=some (b,sz)->G.bx k'=some (b,sz')->k=k'
 nb:∀k,m.nb<=k->m.box k=none
 nt:G.nt=m.nt
 toks:∀t,m.tok t=true->t<m.nt/\∃x,G.tk t=some x
 tokb:∀t g,G.tk t=some (some g)->aPd G w g
 tinj:∀t t' g,G.tk t=some (some g)->G.tk t'=some (some g)->t=t'
 tnt:∀t x,G.tk t=some x->t<G.nt
 fresh:∀b,w.heap.size<=b->G.kind b=.whole
 glob:nV G w
def aT(P:Program)(T:TypeId):Option Nat:=(P.info? T).map (·.size)
def bytesOf(P:Program)(T:TypeId):Option Nat:=(P.info? T).map (·.bytes)
def aX(P:Program)(T:TypeId):Option Bool:=(P.underlying T).map fun|.struct _=>true|.array .. => true|_=>false
def aF(P:Program)(T:TypeId):Option TypeId:=match P.underlying T with|some (.slice e)=>some e|_=>none
def qC(P:Program)(T:TypeId):Option (Nat × TypeId):=match P.underlying T with|some (.array n e)=>some (n,e)|_=>none
def aB(P:Program)(T:TypeId)(f:Nat):Option (TypeId × Nat):=match P.underlying T with|some (.struct fs)=>(fs[f]?).map fun x=>(x.type,x.offset)|_=>none
def aY(P:Program)(T:TypeId):Bool:=match P.underlying T with|some .string=>true|_=>false
def cF(v:Value):AV:=match v with
 | .slice none 0 0=>.osl 0 [] .full
 | .agg _=>.bot
 | .tuple _=>.bot
 | v=>.d (.raw v)
def aGc(v:Value):AV:=match v with
 | .agg cs=>if cs.toList.all (·.oneCell') then .agg (cs.toList.map cF) else .bot
 | v=>cF v
def AV.cells?:AV->Option (List AV)
 | .bot=>none
 | .tup _=>none
 | .agg cs=>some cs
 | v=>some [v]
def AV.toD:AV->Option D
 | .d x=>some x
 | .osl sz es _=>some (.sl sz es)
 | _=>none
def zS:List AV->Option (List D)
 | []=>some []
 | x::r=>match x.toD,zS r with|some d,some ds=>some (d::ds)|_,_=>none
def gP:List AV->Option (List Value)
 | []=>some []
 | .d (.raw v)::r=>(gP r).map (v :: ·)
 | _::_=>none
def iA:AV->Option Value
 | .d (.raw v)=>some v
 | .agg cs=>(gP cs).map fun l=>.agg l.toArray
 | _=>none
def setCells{α:Type}(r:List α)(off:Nat):List α->List α
 | []=>r
 | c::cs=>setCells (r.set off c) (off+1) cs
def upd{α:Type}(f:Nat->α)(k:Nat)(v:α):Nat->α:=fun j=>if j=k then v else f j
theorem uS{α:Type}(f:Nat->α)(k:Nat)(v:α):upd f k v k=v:=by simp[upd]
theorem uO{α:Type}(f:Nat->α){k j:Nat}(v:α)(h:j≠k):upd f k v j=f j:=by simp[upd,h]
def AV.elems?:AV->Option (Nat × List (List D))
 | .d (.sl sz es)=>some (sz,es)
 | .osl sz es _=>some (sz,es)
 | .que _ sz es=>some (sz,es)
 | _=>none
theorem RV.elems{G:Gh}{w:World}{x:AV}{v:Value}{sz:Nat}{es:List (List D)}(h:RV G w x v)(he:x.elems?=some (sz,es)):RVd w.cell? G.ps (.sl sz es) v:=by
 cases h with
 | d h1 =>
  rename_i x;cases x with
  | raw v=>simp[AV.elems?] at he
  | sl s e=>simp[AV.elems?] at he;obtain⟨rfl,rfl⟩:=he;exact h1
 | osl h1 h2=>simp[AV.elems?] at he;obtain⟨rfl,rfl⟩:=he;exact h1
 | bot=>simp[AV.elems?] at he
 | ptr h=>simp[AV.elems?] at he
 | here h _=>simp[AV.elems?] at he
 | buf h _ _ _=>simp[AV.elems?] at he
 | cptr a u hc hr=>simp[AV.elems?] at he
 | msl h1 h2 h3=>simp[AV.elems?] at he
 | fn hl h=>simp[AV.elems?] at he
 | agg hl h h1=>simp[AV.elems?] at he
 | tup hl h=>simp[AV.elems?] at he
 | ex h=>simp[AV.elems?] at he
 | stk h=>simp[AV.elems?] at he
 | que h1 h2=>simp[AV.elems?] at he;obtain⟨rfl,rfl⟩:=he;exact h1
 | mp h=>simp[AV.elems?] at he
 | mpd h=>simp[AV.elems?] at he
theorem RV.of_ofVal1{G:Gh}{w:World}(v:Value):RV G w (cF v) v:=by
 unfold cF;split
 .exact .osl (.sl (fun _ _=>default) (ai _) (by decide) (by simp) (by simp) (by simp) (by simp)) ⟨none,rfl,fun _=>rfl⟩
 .exact .bot
 .exact .bot
 .rename_i h1 h2 h3;refine .d (.raw ?_);cases v<;>simp_all[Value.oneCell']
theorem RV.of_ofVal{G:Gh}{w:World}(v:Value):RV G w (aGc v) v:=by
 unfold aGc;split
 .rename_i cs;split
  .rename_i h;have:=RV.agg (G:=G) (w:=w) (cs:=cs.toList.map cF) (vs:=cs.toList) (by simp) (fun i h1 h2=>by simp only[bl];exact RV.of_ofVal1 _) (fun u hu=>aq.1 h u hu)
   simpa using this
  .exact .bot
 .exact RV.of_ofVal1 v
theorem RV.raw{G:Gh}{w:World}{v:Value}(h:v.oneCell'=true):RV G w (.d (.raw v)) v:=.d (.raw h)
theorem nN{G:Gh}{w:World}:∀{cs:List AV} {l:List Value} {vs:List Value},gP cs=some l->RVs G w cs vs->vs=l
 | [],l,vs,h,r=>by
  simp[gP] at h;subst h;exact bg (by simpa using r.1.symm)
 | c::cs,l,vs,h,r=>by
  cases vs with
  | nil=>simp[RVs] at r
  | cons v vs =>
   have r0:RV G w c v:=r.2 0 (by simp) (by simp)
   have r1:RVs G w cs vs:=⟨by simpa using r.1,fun i h1 h2=>r.2 (i+1) (by simpa using h1) (by simpa using h2)⟩
   cases c with
   | d x =>
    cases x with
    | raw u =>
     simp[gP] at h;obtain⟨l',hl,rfl⟩:=h;have:=nN hl r1
     cases r0 with
     | d h1=>cases h1;rw[this]
    | sl _ _=>simp[gP] at h
   | _=>simp[gP] at h
theorem dC{G:Gh}{w:World}{x:AV}{u v:Value}(h:iA x=some u)(r:RV G w x v):v=u:=by
 cases x with
 | d x =>
  cases x with
  | raw y=>simp[iA] at h;subst h;cases r with|d h1=>cases h1;rfl
  | sl _ _=>simp[iA] at h
 | agg cs =>
  simp[iA] at h;obtain⟨l,hl,rfl⟩:=h;cases r with
  | agg lh h1 h2=>rw[nN hl ⟨lh,h1⟩]
 | _=>simp[iA] at h
theorem RV.cells{G:Gh}{w:World}{x:AV}{v:Value}{cs:List AV}(h:RV G w x v)(hc:x.cells?=some cs):RVs G w cs v.cells.toList/\∀u∈v.cells.toList,u.oneCell'=true:=by
 cases h with
 | bot=>simp[AV.cells?] at hc
 | tup hl h=>simp[AV.cells?] at hc
 | agg hl h h1=>simp[AV.cells?] at hc;subst hc;exact⟨⟨hl,h⟩,h1⟩
 | d h1 =>
  simp[AV.cells?] at hc;subst hc;have ho:v.oneCell'=true:=by cases h1 with|raw h=>exact h|sl=>rfl
  have hv:v.cells = #[v]:=by cases v<;>simp_all[Value.cells,Value.oneCell']
  rw[hv];exact⟨RVs.cons (.d h1) RVs.nil,by simp[ho]⟩
 | osl h1 h2 =>
  simp[AV.cells?] at hc;subst hc;have ho:v.oneCell'=true:=by cases h1 with|sl=>rfl
  have hv:v.cells = #[v]:=by cases v<;>simp_all[Value.cells,Value.oneCell']
  rw[hv];exact⟨RVs.cons (.osl h1 h2) RVs.nil,by simp[ho]⟩
 | ptr h1=>simp[AV.cells?] at hc;subst hc;exact⟨RVs.cons (.ptr h1) RVs.nil,by simp[Value.cells,Value.oneCell']⟩
 | buf h1 h2 h3 h4 =>
  simp[AV.cells?] at hc;subst hc;have ho:v.oneCell'=true:=by cases h1 with|sl=>rfl
  have hv:v.cells = #[v]:=by cases v<;>simp_all[Value.cells,Value.oneCell']
  rw[hv];exact⟨RVs.cons (.buf h1 h2 h3 h4) RVs.nil,by simp[ho]⟩
 | here h1 h2=>simp[AV.cells?] at hc;subst hc;exact⟨RVs.cons (.here h1 h2) RVs.nil,by simp[Value.cells,Value.oneCell']⟩
 | cptr a u h1 h2=>simp[AV.cells?] at hc;subst hc;exact⟨RVs.cons (.cptr a u h1 h2) RVs.nil,by simp[Value.cells,Value.oneCell']⟩
 | msl h1 h2 h3=>simp[AV.cells?] at hc;subst hc;exact⟨RVs.cons (.msl h1 h2 h3) RVs.nil,by simp[Value.cells,Value.oneCell']⟩
 | fn hl h=>simp[AV.cells?] at hc;subst hc;exact⟨RVs.cons (.fn hl h) RVs.nil,by simp[Value.cells,Value.oneCell']⟩
 | ex h1 =>
  simp[AV.cells?] at hc;subst hc;obtain⟨A,n,c,rfl⟩:=h1.2.1;exact⟨RVs.cons (.ex h1) RVs.nil,by simp[Value.cells,Value.oneCell']⟩
 | stk h1 =>
  simp[AV.cells?] at hc;subst hc;obtain⟨A,c,rfl,_⟩:=h1.2;exact⟨RVs.cons (.stk h1) RVs.nil,by simp[Value.cells,Value.oneCell']⟩
 | que h1 h2 =>
  simp[AV.cells?] at hc;subst hc;have ho:v.oneCell'=true:=by cases h1 with|sl=>rfl
  have hv:v.cells = #[v]:=by cases v<;>simp_all[Value.cells,Value.oneCell']
  rw[hv];exact⟨RVs.cons (.que h1 h2) RVs.nil,by simp[ho]⟩
 | mp h1 =>
  simp[AV.cells?] at hc;subst hc;obtain⟨r,rfl,_⟩:=h1.2.2;exact⟨RVs.cons (.mp h1) RVs.nil,by simp[Value.cells,Value.oneCell']⟩
 | mpd h1 =>
  simp[AV.cells?] at hc;subst hc;obtain⟨r,rfl,h2⟩:=h1;exact⟨RVs.cons (.mpd ⟨r,rfl,h2⟩) RVs.nil,by simp[Value.cells,Value.oneCell']⟩
theorem aH0{G:Gh}{w:World}{x:AV}{v:Value}{y:D}(h:RV G w x v)(hd:x.toD=some y):RVd w.cell? G.ps y v:=by
 cases h with
 | d h1=>simp[AV.toD] at hd;subst hd;exact h1
 | osl h1 h2=>simp[AV.toD] at hd;subst hd;exact h1
 | _=>simp[AV.toD] at hd
theorem oI{G:Gh}{w:World}:∀{xs:List AV} {vs:List Value} {ds:List D},RVs G w xs vs->zS xs=some ds ->
  ds.length=vs.length/\∀i (h1:i<ds.length) (h2:i<vs.length),RVd w.cell? G.ps ds[i] vs[i]
 | [],vs,ds,r,h=>by
  simp[zS] at h;subst h;exact⟨r.1,fun i h1=>by simp at h1⟩
 | x::xs,vs,ds,r,h=>by
  cases vs with
  | nil=>simp[RVs] at r
  | cons v vs =>
   simp only[zS] at h;split at h
   .rename_i d ds' h1 h2;simp at h;subst h;have r0:RV G w x v:=r.2 0 (by simp) (by simp)
    have r1:RVs G w xs vs:=⟨by simpa using r.1,fun i h1 h2=>r.2 (i+1) (by simpa using h1) (by simpa using h2)⟩
    obtain⟨k1,k2⟩:=oI r1 h2;refine⟨by simp[k1],fun i g1 g2=>?_⟩;cases i with
    | zero=>exact aH0 r0 h1
    | succ i=>exact k2 i (by simpa using g1) (by simpa using g2)
   .cases h
theorem Le.alloc{G:Gh}{w:World}(hf:∀b,w.heap.size<=b->G.kind b=.whole)(o:Obj):Le G w G (w.alloc o) where
 os:=rfl
 tape:=rfl
 output:=rfl
 size:=by simp
 whole b hb hk:=⟨hk,bo w o b hb⟩
 part b f c hk:=⟨⟨f,nr0 _,hk⟩,fun a ha ho=>World.cell?_alloc_old w o a (fun h=>by
  have:=hf b (by omega)
  rw[hk] at this;cases this)⟩
 bx _ _ h:=h
 nt:=nr0 _
 tk _ _:=.inr ⟨rfl,fun g _=>⟨rfl,fun hk=>bo w o g (Nat.lt_of_not_le fun h=>by
  have:=hf g h
  rw[hk] at this;cases this)⟩⟩
 ty b cs T f hb:=⟨cs,f,(bo w o b (bj.1 hb).1).trans hb⟩
theorem bY{w:World}{b:Nat}{o:Obj}(h:w.heap[b]?=some o):b<w.heap.size:=(bj.1 h).1
theorem aV.alloc{G:Gh}{m:bH}{w:World}(h:aV G m w)(o:Obj):aV G m (w.alloc o) where
 box k rows b sz hk hb:=by
  obtain⟨h1,cs,e,h2,h3,h4,h5⟩:=h.box k rows b sz hk hb;exact⟨h1,cs,e,(bo w o b (bY h2)).trans h2,h3,h4.mono (Le.alloc h.fresh o),h5⟩
 nobox:=h.nobox
 inj:=h.inj
 nb:=h.nb
 nt:=h.nt
 toks:=h.toks
 tokb t g ht:=by
  obtain⟨f,cur,e,h1,h2⟩:=h.tokb t g ht;exact⟨f,cur,e,h1,(bo w o g (bY h2)).trans h2⟩
 tinj:=h.tinj
 tnt:=h.tnt
 glob:=h.glob.mono (Le.alloc h.fresh o).cells
 fresh b hb:=h.fresh b (by simp at hb;omega)
theorem Le.drew{G:Gh}{w:World}:Le G w G w.drew :=
 ⟨rfl,rfl,rfl,nr0 _,fun _ _ h=>⟨h,rfl⟩,fun _ f _ h=>⟨⟨f,nr0 _,h⟩,fun _ _ _=>rfl⟩,fun _ _ h=>h,nr0 _,fun _ _=>.inr ⟨rfl,fun _ _=>⟨rfl,fun _=>rfl⟩⟩,fun _ _ _ _ h=>⟨_,_,h⟩⟩
theorem aV.drew{G:Gh}{m:bH}{w:World}(h:aV G m w):aV G m w.drew where
 box k rows b sz hk hb:=by
  obtain⟨h1,cs,e,h2,h3,h4,h5⟩:=h.box k rows b sz hk hb;exact⟨h1,cs,e,h2,h3,h4.mono Le.drew,h5⟩
 nobox:=h.nobox
 inj:=h.inj
 nb:=h.nb
 nt:=h.nt
 toks:=h.toks
 tokb:=h.tokb
 tinj:=h.tinj
 tnt:=h.tnt
 glob:=h.glob.mono Le.drew.cells
 fresh:=h.fresh
def Gh.mkbox(G:Gh)(k b sz:Nat):Gh:={ G with bx:=upd G.bx k (some (b,sz)),kind:=upd G.kind b .box }
theorem Le.mkbox{G:Gh}{w:World}(hf:∀b,w.heap.size<=b->G.kind b=.whole)(hb:∀t g,G.tk t=some (some g)->g<w.heap.size){k:Nat}(hk:G.bx k=none)(sz:Nat)(o:Obj):Le G w (G.mkbox k w.heap.size sz) (w.alloc o) where
 os:=rfl
 tape:=rfl
 output:=rfl
 size:=by simp
 whole b hb hk:=⟨by simp only[Gh.mkbox];rw[uO _ _ (by omega)];exact hk,bo w o b hb⟩
 part b f c hk:=by
  have hne:b≠w.heap.size:=fun h=>by
   have:=hf b (by omega)
   rw[hk] at this;cases this
  exact⟨⟨f,nr0 _,by simp only[Gh.mkbox];rw[uO _ _ hne];exact hk⟩,fun a ha ho=>World.cell?_alloc_old w o a (by omega)⟩
 bx j x hj:=by
  simp only[Gh.mkbox];rw[uO _ _ (fun e=>by subst e;rw[hk] at hj;cases hj)];exact hj
 nt:=nr0 _
 tk t ht:=.inr ⟨rfl,fun g hg=>by
  have hlt:=hb t g hg;simp only[Gh.mkbox];rw[uO _ _ (by omega)];exact⟨rfl,fun _=>bo w o g hlt⟩⟩
 ty b cs T f hb:=⟨cs,f,(bo w o b (bj.1 hb).1).trans hb⟩
theorem aV.tlt{G:Gh}{m:bH}{w:World}(h:aV G m w)(t g:Nat)(hg:G.tk t=some (some g)):g<w.heap.size:=by
 obtain⟨_,_,_,_,h2⟩:=h.tokb t g hg;exact bY h2
theorem aV.blt{G:Gh}{m:bH}{w:World}(h:aV G m w){k b sz:Nat}(hb:G.bx k=some (b,sz)):b<w.heap.size/\G.kind b=.box:=by
 cases hm:m.box k with
 | none=>rw[h.nobox k hm] at hb;cases hb
 | some rows =>
  obtain⟨h1,_,_,h2,_⟩:=h.box k rows b sz hm hb;exact⟨bY h2,h1⟩
theorem aV.mkbox'{G:Gh}{m:bH}{w:World}(h:aV G m w){k:Nat}(hk:G.bx k=none)(j8:k<m.nb){sz:Nat}{rows:List (List AV)}(hs:∀r∈rows,r.length=sz){cs:Array Value}(e:TypeId)(hR:RVs (G.mkbox k w.heap.size sz) (w.alloc (.cells cs e)) rows.flatten cs.toList)(h1:∀v∈cs.toList,v.oneCell'=true):
  aV (G.mkbox k w.heap.size sz) { m with box:=upd m.box k (some rows) } (w.alloc (.cells cs e)):=by
 have iv:=Le.mkbox (k:=k) h.fresh h.tlt hk sz (.cells cs e);constructor
 case box =>
  intro j rs b s hj hb;by_cases e1:j=k
  .subst e1;simp only[uS,Gh.mkbox] at hj hb;simp only[ad,aw] at hj hb;obtain⟨rfl,rfl⟩:=hb;subst hj;exact⟨by simp[Gh.mkbox,uS],cs,e,fk w _,hs,hR,h1⟩
  .simp only[Gh.mkbox] at hj hb;rw[uO _ _ e1] at hj hb;obtain⟨g1,cs',e',g2,g3,g4,g5⟩:=h.box j rs b s hj hb;refine⟨?_,cs',e',(bo w _ b (bY g2)).trans g2,g3,g4.mono iv,g5⟩;simp only[Gh.mkbox];rw[uO _ _ (by have:=bY g2;omega)];exact g1
 case nobox =>
  intro j hj;by_cases e1:j=k
  .subst e1;simp[uS] at hj
  .simp only[Gh.mkbox] at hj ⊢;rw[uO _ _ e1] at hj ⊢;exact h.nobox j hj
 case inj =>
  intro j j' b s s' hj nk;simp only[Gh.mkbox] at hj nk;by_cases e1:j=k<;>by_cases e2:j'=k
  .exact e1.trans e2.symm
  .subst e1;rw[uS] at hj;rw[uO _ _ e2] at nk;simp only[ad,aw] at hj;have:=(h.blt nk).1
   omega
  .subst e2;rw[uS] at nk;rw[uO _ _ e1] at hj;simp only[ad,aw] at nk;have:=(h.blt hj).1
   omega
  .rw[uO _ _ e1] at hj;rw[uO _ _ e2] at nk;exact h.inj j j' b s s' hj nk
 case nb =>
  intro j hj;simp only at hj ⊢;rw[uO _ _ (by omega)];exact h.nb j hj
 case nt=>exact h.nt
 case toks=>exact h.toks
 case tokb =>
  intro t g ht;obtain⟨f,cur,e',g1,g2⟩:=h.tokb t g ht;refine⟨f,cur,e',?_,(bo w _ g (bY g2)).trans g2⟩;simp only[Gh.mkbox];rw[uO _ _ (by have:=bY g2;omega)];exact g1
 case tinj=>exact h.tinj
 case tnt=>exact h.tnt
 case glob=>exact h.glob.mono (Le.mkbox (k:=k) h.fresh h.tlt hk sz (.cells cs e)).cells
 case fresh =>
  intro b hb;simp at hb;simp only[Gh.mkbox];rw[uO _ _ (by omega)];exact h.fresh b (by omega)
theorem aV.mkbox{G:Gh}{m:bH}{w:World}(h:aV G m w){k:Nat}(hk:G.bx k=none)(j8:k<m.nb){sz:Nat}{rows:List (List AV)}(hs:∀r∈rows,r.length=sz){cs:Array Value}(e:TypeId)(hR:RVs G w rows.flatten cs.toList)(h1:∀v∈cs.toList,v.oneCell'=true):
  aV (G.mkbox k w.heap.size sz) { m with box:=upd m.box k (some rows) } (w.alloc (.cells cs e)) :=
 h.mkbox' hk j8 hs e (hR.mono (Le.mkbox (k:=k) h.fresh h.tlt hk sz (.cells cs e))) h1
theorem oC(w:World)(b j:Nat)(cs c0:Array Value)(T:TypeId)(f:Nat × Nat)(hj:w.heap[j]?=some (.cells c0 T f)):∃cs' f',(w.setRow b cs).heap[j]?=some (.cells cs' T f'):=by
 by_cases e:j=b
 .subst e;exact⟨cs,f,setRow_heap w j c0 cs T f hj⟩
 .exact⟨c0,f,(fc w b j cs e).trans hj⟩
theorem Le.setRow{G:Gh}{w:World}{b:Nat}(hk:G.kind b=.box)(cs:Array Value):Le G w G (w.setRow b cs) where
 os:=rfl
 tape:=rfl
 output:=rfl
 size:=by simp[World.setRow]
 whole j hj h:=⟨h,fc w b j cs (fun e=>by subst e;rw[hk] at h;cases h)⟩
 part j f c h:=⟨⟨f,nr0 _,h⟩,fun a ha _=>cell_setRow_other w b cs a (fun e=>by subst ha;subst e;rw[hk] at h;cases h)⟩
 bx _ _ h:=h
 nt:=nr0 _
 tk _ _:=.inr ⟨rfl,fun g _=>⟨rfl,fun he=>fc w b g cs (fun e=>by subst e;rw[hk] at he;cases he)⟩⟩
 ty j c0 T f hj:=oC w b j cs c0 T f hj
theorem aV.setRow{G:Gh}{m:bH}{w:World}(h:aV G m w){k b sz:Nat}(hb:G.bx k=some (b,sz)){rows:List (List AV)}(hs:∀r∈rows,r.length=sz){cs cs0:Array Value}{e:TypeId}(h0:w.heap[b]?=some (.cells cs0 e (0,0)))(hR:RVs G w rows.flatten cs.toList)(h1:∀v∈cs.toList,v.oneCell'=true):
  aV G { m with box:=upd m.box k (some rows) } (w.setRow b cs):=by
 have hk:=(h.blt hb).2;have iv:=Le.setRow (w:=w) hk cs;constructor
 case box =>
  intro j rs b' s hj hb';by_cases e1:j=k
  .subst e1;rw[hb] at hb';simp only[ad,aw] at hb';obtain⟨rfl,rfl⟩:=hb';simp only[uS,ad] at hj;subst hj;exact⟨hk,cs,e,setRow_heap w b cs0 cs e (0,0) h0,hs,hR.mono iv,h1⟩
  .simp only at hj;rw[uO _ _ e1] at hj;obtain⟨g1,cs',e',g2,g3,g4,g5⟩:=h.box j rs b' s hj hb';have hne:b'≠b:=fun e2=>by subst e2;exact e1 (h.inj j k b' s sz hb' hb)
   exact⟨g1,cs',e',(fc w b b' cs hne).trans g2,g3,g4.mono iv,g5⟩
 case nobox =>
  intro j hj;by_cases e1:j=k
  .subst e1;simp[uS] at hj
  .simp only at hj;rw[uO _ _ e1] at hj;exact h.nobox j hj
 case inj=>exact h.inj
 case nb =>
  intro j hj;simp only at hj ⊢;have hne:j≠k:=fun e1=>by
   subst e1;have:=h.nobox j (h.nb j hj)
   rw[hb] at this;cases this
  rw[uO _ _ hne];exact h.nb j hj
 case nt=>exact h.nt
 case toks=>exact h.toks
 case tokb =>
  intro t g ht;obtain⟨f,cur,e',g1,g2⟩:=h.tokb t g ht;exact⟨f,cur,e',g1,(fc w b g cs (fun e2=>by subst e2;rw[hk] at g1;rcases g1 with ⟨g1,_⟩|g1<;>cases g1)).trans g2⟩
 case tinj=>exact h.tinj
 case tnt=>exact h.tnt
 case glob=>exact h.glob.mono iv.cells
 case fresh =>
  intro j hj;exact h.fresh j (by simpa[World.setRow] using hj)
theorem eX{α:Type}:∀(cs r:List α) (off:Nat),(setCells r off cs).length=r.length
 | [],r,off=>rfl
 | c::cs,r,off=>by rw[setCells,eX];simp
theorem hJ{α:Type}:∀(cs r:List α) (off:Nat),off+cs.length<=r.length->setCells r off cs=r.take off++cs++r.drop (off+cs.length)
 | [],r,off,h=>by simp[setCells]
 | c::cs,r,off,h=>by
  simp only[ci] at h;rw[setCells,hJ cs (r.set off c) (off+1) (by simp;omega)];have h1:(r.set off c).take (off+1)=r.take off++[c]:=by
   rw[ah (by simp;omega)];simp[List.take_set_of_le]
  have h2:(r.set off c).drop (off+1+cs.length)=r.drop (off+(c::cs).length):=by
   rw[List.drop_set_of_lt (by omega)];congr 1
   simp only[ci];omega
  rw[h1,h2];simp
theorem RVs.set{G:Gh}{w:World}{xs:List AV}{vs:List Value}(h:RVs G w xs vs)(i:Nat){x:AV}{v:Value}(hx:RV G w x v):RVs G w (xs.set i x) (vs.set i v) :=
 ⟨by simp[h.1],fun j h1 h2=>by
  simp only[List.getElem_set];by_cases pr:i=j
  .simp[pr,hx]
  .simp only[pr,↓reduceIte];exact h.2 j (by simpa using h1) (by simpa using h2)⟩
theorem RVs.uncons{G:Gh}{w:World}{x:AV}{xs:List AV}{vs:List Value}(h:RVs G w (x::xs) vs):∃v us,vs=v::us/\RV G w x v/\RVs G w xs us:=by
 cases vs with
 | nil=>simp[RVs] at h
 | cons v us=>exact⟨v,us,rfl,h.2 0 (by simp) (by simp),⟨by simpa using h.1,fun i h1 h2=>h.2 (i+1) (by simpa using h1) (by simpa using h2)⟩⟩
theorem RVs.setCells{G:Gh}{w:World}:∀{cs:List AV} {us:List Value} {xs:List AV} {vs:List Value} {off:Nat},RVs G w xs vs->RVs G w cs us->RVs G w (setCells xs off cs) (setCells vs off us)
 | [],us,xs,vs,off,h,k=>by
  have:us=[]:=bg (by simpa using k.1.symm)
  subst this;exact h
 | c::cs,us,xs,vs,off,h,k=>by
  obtain⟨v,us',rfl,h1,h2⟩:=k.uncons;rw[AM.setCells,AM.setCells];exact RVs.setCells (cs:=cs) (us:=us') (xs:=xs.set off c) (vs:=vs.set off v) (off:=off+1) (h.set off h1) h2
theorem lS{α:Type}{p:α->Prop}:∀(cs r:List α) (off:Nat),(∀v∈r,p v)->(∀v∈cs,p v)->∀v∈AM.setCells r off cs,p v
 | [],r,off,h,k=>h
 | c::cs,r,off,h,k=>by
  rw[AM.setCells];refine lS cs (r.set off c) (off+1) (fun v hv=>?_) (fun v hv=>k v (by simp[hv]));rcases List.mem_or_eq_of_mem_set hv with h1|h1
  .exact h v h1
  .subst h1;exact k v (by simp)
theorem dJ{α:Type}{sz:Nat}:∀{rows:List (List α)},(∀r∈rows,r.length=sz)->rows.flatten.length=rows.length*sz
 | [],_=>by simp
 | r::rows,h=>by
  rw[cr,am,dJ (fun r hr=>h r (by simp[hr])),h r (by simp),ci,cf];omega
theorem aCb{α:Type}{sz:Nat}:∀{rows:List (List α)} {i:Nat} {r:List α},(∀r∈rows,r.length=sz)->rows[i]?=some r ->
  rows.flatten=(rows.flatten).take (i*sz)++r++(rows.flatten).drop (i*sz+sz)
 | [],i,r,_,h=>by simp at h
 | r0::rows,0,r,hs,h=>by
  simp at h;subst h;have hl:=hs r0 (by simp);simp only[Nat.zero_mul,List.take_zero,eq,cd,cr];rw[<-hl];simp
 | r0::rows,i+1,r,hs,h=>by
  have hl:=hs r0 (by simp);have ih:=aCb (sz:=sz) (rows:=rows) (i:=i) (r:=r) (fun r hr=>hs r (by simp[hr])) (by simpa using h);have e1:(i+1)*sz=r0.length+i*sz:=by rw[hl,cf];omega
  rw[cr,e1];rw[List.take_length_add_append,gw,List.drop_length_add_append];rw[cw,cw,<-List.append_assoc (List.take _ _),<-ih]
theorem gU{α:Type}{sz:Nat}{rows:List (List α)}{i:Nat}{r:List α}(hs:∀r∈rows,r.length=sz)(h:rows[i]?=some r){j:Nat}(hj:j<sz):rows.flatten[i*sz+j]?=r[j]?:=by
 have hi:i<rows.length:=(ba.1 h).1
 have hr:r.length=sz:=hs r (fg h)
 have iv:i*sz<=rows.flatten.length:=by rw[dJ hs];exact bm _ (by omega)
 have l1:(List.take (i*sz) rows.flatten).length=i*sz:=by rw[cj];omega
 rw[aCb hs h,cw,dd (by rw[l1];omega),l1,ep,bi (by omega)]
theorem aDs{α:Type}{sz:Nat}:∀{rows:List (List α)} {i:Nat} {r:List α} (r':List α),(∀r∈rows,r.length=sz)->r'.length=sz->rows[i]?=some r ->
  (rows.set i r').flatten=(rows.flatten).take (i*sz)++r'++(rows.flatten).drop (i*sz+sz)
 | [],i,r,r',_,_,h=>by simp at h
 | r0::rows,0,r,r',hs,h',h=>by
  have hl:=hs r0 (by simp);simp only[List.set_cons_zero,Nat.zero_mul,List.take_zero,eq,cd,cr];rw[<-hl];simp
 | r0::rows,i+1,r,r',hs,h',h=>by
  have hl:=hs r0 (by simp);have ih:=aDs (sz:=sz) (rows:=rows) (i:=i) (r:=r) r' (fun r hr=>hs r (by simp[hr])) h' (by simpa using h);have e1:(i+1)*sz=r0.length+i*sz:=by rw[hl,cf];omega
  rw[List.set_cons_succ,cr,cr,e1];rw[List.take_length_add_append,gw,List.drop_length_add_append,ih];simp
theorem aEp{α:Type}{sz:Nat}{rows:List (List α)}{i off:Nat}{r:List α}(cs:List α)(hs:∀r∈rows,r.length=sz)(h:rows[i]?=some r)(wc:off+cs.length<=sz):
  (rows.set i (setCells r off cs)).flatten=setCells rows.flatten (i*sz+off) cs:=by
 have hi:i<rows.length:=(ba.1 h).1
 have hr:r.length=sz:=hs r (fg h)
 have iv:i*sz+sz<=rows.flatten.length:=by
  rw[dJ hs,<-Nat.succ_mul];exact bm _ (by omega)
 rw[aDs _ hs (by rw[eX,hr]) h,hJ _ _ _ (by omega),hJ _ _ _ (by omega)];have e:=aCb hs h;have t1:List.take (i*sz+off) rows.flatten=List.take (i*sz) rows.flatten++r.take off:=by
  conv=>lhs;rw[e]
  rw[cw,List.take_append];have l1:(List.take (i*sz) rows.flatten).length=i*sz:=by rw[cj];omega
  rw[l1,ak (by rw[l1];omega),ep,c8 (by omega)]
 have t2:List.drop (i*sz+off+cs.length) rows.flatten=r.drop (off+cs.length)++List.drop (i*sz+sz) rows.flatten:=by
  conv=>lhs;rw[e]
  have l1:(List.take (i*sz) rows.flatten).length=i*sz:=by rw[cj];omega
  rw[cw,List.drop_append,l1,List.drop_of_length_le (by rw[l1];omega),eq,List.drop_append_of_le_length (by omega)];congr 2
  omega
 rw[t1,t2];simp
variable {P:Program}
theorem bT{T n:Nat}(h:aT P T=some n)(w:World):(sizeOf T).run P w=.ok n w:=by
 unfold aT at h;obtain⟨i,hi,rfl⟩:=cy.1 h;simp[sizeOf,typeInfo,hi]
theorem iM{T:Nat}{t:Bool}(h:aX P T=some t)(w:World):(isAgg T).run P w=.ok t w:=by
 unfold aX at h;obtain⟨d,hd,rfl⟩:=cy.1 h;simp only[isAgg,ax,bp hd,aj];cases d<;>rfl
theorem add_add(a:Addr)(i j:Nat):(a.add i).add j=a.add (i+j):=by
 unfold Addr.add;by_cases hi:i=0<;>by_cases hj:j=0<;>simp[hi,hj,gw]
theorem bK(b o j:Nat):(⟨b,o,none⟩:Addr).add j=⟨b,o+j,none⟩:=by
 unfold Addr.add;split<;>simp_all
theorem RVd.one{c:Addr->Option Value}{ps:Addr->Prop}{x:D}{v:Value}(h:RVd c ps x v):v.oneCell'=true:=by
 cases h with
 | raw h=>exact h
 | sl=>rfl
def rB(ag:Bool)(n:Nat)(r:List AV)(off:Nat):Option AV:=if ag then (if off+n<=r.length then some (.agg ((r.drop off).take n)) else none) else r[off]?
def aGp(ag:Bool)(n:Nat)(cs:List D)(off:Nat):Option AV:=if ag then (if off+n<=cs.length then some (.agg (((cs.drop off).take n).map .d)) else none) else (cs[off]?).map .d
def qK(P:Program)(o:Oper)(ρ:Operand->AV)(box:Nat->Option (List (List AV)))(v:AV):Prop:=match o.op with
 | .load T p=>match aX P T,aT P T with
  | some ag,some n=>match ρ p with
   | .cptr cs off=>aGp ag n cs off=some v
   | .ptr k i off=>match box k with
    | some rows=>match rows[i]? with
     | some r=>rB ag n r off=some v
     | none=>False
    | none=>False
   | _=>False
  | _,_=>False
 | _=>False
theorem mD{T:Nat}{a:Addr}{u:Value}{w:World}(rm:aX P T=some false)(hc:w.cell? a=some u):(loadVar T a).run P w=.ok u w:=by
 simp[loadVar,iM rm,load,Sem.run,hc]
theorem lY{T n:Nat}{a:Addr}{us:List Value}{w:World}(rm:aX P T=some true)(hn:aT P T=some n)(hl:us.length=n)(hc:∀j u,us[j]?=some u->w.cell? (a.add j)=some u):
  (loadVar T a).run P w=.ok (.agg us.toArray) w:=by
 simp only[loadVar,ax,iM rm,aj,↓reduceIte,bT hn];rw[<-hl,run_loadCells_list w a us hc];rfl
theorem xC{o:Oper}{ρ:Operand->AV}{ρv:Operand->Value}{G:Gh}{m:bH}{w:World}{v:AV}(h:qK P o ρ m.box v)(hρ:∀x∈o.op.operands,RV G w (ρ x) (ρv x))(hm:aV G m w):∃u,(execOp ρv o).run P w=.ok (.value u) w/\RV G w v u:=by
 unfold qK at h;split at h
 .rename_i T p ho;have hp:=hρ p (by rw[ho];simp[Op.operands]);split at h
  .rename_i ag n rm hn;have fin:∀(a:Addr) (u:Value),ρv p=.pointer (some a)->(loadVar T a).run P w=.ok u w->RV G w v u->∃u,(execOp ρv o).run P w=.ok (.value u) w/\RV G w v u:=by
    intro a u ha hr hv;refine⟨u,?_,hv⟩;simp only[execOp,ho,Instr.loadAt,ha,Instr.sureAddr,ax,a8,aj,hr]
   split at h
   .rename_i cs off hx;rw[hx] at hp;generalize yj:ρv p=pv at hp;cases hp with
    | cptr a u hc hr =>
     unfold aGp at h;cases ag with
     | false =>
      simp only[bu,↓reduceIte] at h;obtain⟨d,hd,rfl⟩:=cy.1 h;obtain⟨hlt,rfl⟩:=ba.1 hd;exact fin _ _ yj (mD rm (hc off hlt).2) (.d (hr off hlt))
     | true =>
      simp only[↓reduceIte] at h;split at h
      .rename_i iv;simp only[ad] at h;subst h;refine fin _ _ yj (lY (us:=(List.range n).map fun j=>u (off+j)) rm hn (by simp) ?_) (.agg (by simp;omega) ?_ ?_)
       .intro j x hj;simp only[f9] at hj;obtain⟨j',nk,rfl⟩:=cy.1 hj;obtain⟨hlt,rfl⟩:=ba.1 nk;simp at hlt;rw[add_add];simpa using (hc (off+j) (by omega)).2
       .intro i h1 h2;simp at h1 h2;simp only[bl,fj,List.getElem_drop,gq];exact .d (hr (off+i) (by omega))
       .intro x hx;simp at hx;obtain⟨j,hj,rfl⟩:=hx;exact(hr (off+j) (by omega)).one
      .cases h
   .rename_i k i off hx;rw[hx] at hp;generalize yj:ρv p=pv at hp;cases hp with
    | ptr hb =>
     rename_i b sz;split at h
     .rename_i rows Hb;split at h
      .rename_i r hrow;obtain⟨_,cells,e,hh,hs,hR,h1⟩:=hm.box k rows b sz Hb hb;have n9:r.length=sz:=hs r (fg hrow)
       have s8:∀j x,off+j<sz->r[off+j]?=some x->∃u,w.cell? ⟨b,i*sz+off+j,none⟩=some u/\RV G w x u/\u.oneCell'=true:=by
        intro j x hlt hx;have pu:=gU hs hrow hlt;rw[hx] at pu;obtain⟨u,hu,mv⟩:=hR.get pu;refine⟨u,?_,mv,h1 u (fg hu)⟩;rw[e8 w b _ cells e (0,0) hh,gw];simpa using hu
       unfold rB at h;cases ag with
       | false =>
        simp only[bu,↓reduceIte] at h;have hlt:off<sz:=by rw[<-n9];exact(ba.1 h).1
        obtain⟨u,hu,mv,_⟩:=s8 0 v hlt h;exact fin _ _ yj (mD rm hu) mv
       | true =>
        simp only[↓reduceIte] at h;split at h
        .rename_i iv;simp only[ad] at h;subst h;have vu:∀j,∃u,j<n->w.cell? ⟨b,i*sz+off+j,none⟩=some u/\(∀x,r[off+j]?=some x->RV G w x u)/\u.oneCell'=true:=by
          intro j;by_cases hj:j<n
          .have hg:r[off+j]?=some (r[off+j]'(by omega)):=ab _
           obtain⟨u,h2,h3,h4⟩:=s8 j _ (by omega) hg;exact⟨u,fun _=>⟨h2,fun x hx=>by rw[hg] at hx;cases hx;exact h3,h4⟩⟩
          .exact⟨default,fun h=>absurd h hj⟩
         obtain⟨u,hu⟩:=Classical.axiomOfChoice vu;refine fin _ _ yj (lY (us:=(List.range n).map u) rm hn (by simp) ?_) (.agg (by simp;omega) ?_ ?_)
         .intro j x hj;simp only[f9] at hj;obtain⟨j',nk,rfl⟩:=cy.1 hj;obtain⟨hlt,rfl⟩:=ba.1 nk;simp at hlt;rw[bK];simpa using (hu j hlt).1
         .intro j h1 h2;simp at h1 h2;simp only[bl,fj,List.getElem_drop,gq];exact(hu j (by omega)).2.1 _ (ab _)
         .intro x hx;simp at hx;obtain⟨j,hj,rfl⟩:=hx;exact(hu j (by omega)).2.2
        .cases h
      .exact h.elim
     .exact h.elim
   .exact h.elim
  .exact h.elim
 .exact h.elim
variable {P:Program}
def cB(P:Program)(T:TypeId):Option (Nat × Nat × List Value):=match P.underlying T with
 | some (.slice E)=>match P.info? E with
  | some i=>match i.zero with
   | some z=>if z.cells.size=i.size/\0<i.size/\0<i.bytes/\z.cells.toList.all (·.oneCell')=true then some (i.size,i.bytes,z.cells.toList) else none
   | none=>none
  | none=>none
 | _=>none
theorem xF{T sz by':Nat}{zs:List Value}(h:cB P T=some (sz,by',zs)):∃E i z,P.underlying T=some (.slice E)/\P.info? E=some i/\i.zero=some z/\z.cells.toList=zs/\zs.length=sz/\i.size=sz/\i.bytes=by'/\0<sz/\0<by'/\∀u∈zs,u.oneCell'=true:=by
 unfold cB at h;split at h
 .rename_i E hE;split at h
  .rename_i i hi;split at h
   .rename_i z hz;split at h
    .rename_i hc;simp only[ad,aw] at h;obtain⟨rfl,rfl,rfl⟩:=h;exact⟨E,i,z,hE,hi,hz,rfl,by simpa using hc.1,rfl,rfl,hc.2.1,hc.2.2.1,fun u hu=>aq.1 hc.2.2.2 u hu⟩
    .cases h
   .cases h
  .cases h
 .cases h
theorem jM{α:Type}(l:List α):∀(n j:Nat),j<n*l.length->(List.replicate n l).flatten[j]?=l[j % l.length]?
 | 0,j,h=>by simp at h
 | n+1,j,h=>by
  rw[List.replicate_succ,cr];by_cases hj:j<l.length
  .rw[bi hj,Nat.mod_eq_of_lt hj]
  .rw[dd (by omega),jM l n (j-l.length) (by rw[cf,Nat.one_mul] at h;omega)];rw[<-Nat.mod_eq_sub_mod (by omega)]
theorem aA1(z:Array Value)(n:Nat)(h:0<z.size):(madeCells z (n*z.size)).toList=(List.replicate n z.toList).flatten:=by
 apply List.ext_getElem?;intro j;by_cases hj:j<n*z.size
 .have h1:=jM z.toList n j (by simpa using hj);rw[h1];have hm:j % z.size<z.size:=Nat.mod_lt _ h
  have h2:j<(madeCells z (n*z.size)).toList.length:=by simp[madeCells];exact hj
  rw[ab h2];simp[madeCells,hm]
 .rw[d4 (by simp[madeCells];omega),d4 (by simp[List.length_flatten];omega)]
def rH(y:AV)(box:Nat->Option (List (List AV))):Option (Prop × List (List AV)):=match y with
 | .msl k off n sz=>match box k with
  | some rows=>some (sz=1/\off+n<=rows.length,(rows.drop off).take n)
  | none=>none
 | .d (.sl sz es)=>some (sz=1/\es≠[],es.map fun e=>e.map AV.d)
 | .osl sz es _=>some (sz=1/\es≠[],es.map fun e=>e.map AV.d)
 | _=>none
theorem qJ{α:Type}:∀{rows:List (List α)} (_:∀r∈rows,r.length=1) (m:Nat),(rows.drop m).flatten=rows.flatten.drop m
 | [],_,m=>by simp
 | r::rows,h,0=>by simp
 | r::rows,h,m+1=>by
  have h1:=h r (by simp);rw[List.drop_succ_cons,qJ (fun q hq=>h q (by simp[hq])) m,cr]
  match r,h1 with
  | [x],_=>rfl
theorem lR{α:Type}:∀{rows:List (List α)} (_:∀r∈rows,r.length=1) (m:Nat),(rows.take m).flatten=rows.flatten.take m
 | [],_,m=>by simp
 | r::rows,h,0=>by simp
 | r::rows,h,m+1=>by
  have h1:=h r (by simp);rw[List.take_succ_cons,cr,lR (fun q hq=>h q (by simp[hq])) m,cr]
  match r,h1 with
  | [x],_=>rfl
theorem aHX{α:Type}{l:List α}(h:l.length=2):∃x y,l=[x,y]:=by
 match l,h with
 | [x,y],_=>exact⟨x,y,rfl⟩
theorem zK{y:AV}{yv:Value}{G:Gh}{m:bH}{w:World}{φ:Prop}{src:List (List AV)}(h:rH y m.box=some (φ,src))(hφ:φ)(hy:RV G w y yv)(hm:aV G m w):
  ∃a cap cs,yv=.slice (some a) src.length cap/\cs.length=src.length/\(∀j v,cs[j]?=some v->w.cell? (a.add j)=some v)/\(∀r∈src,r.length=1)/\RVs G w src.flatten cs/\∀v∈cs,v.oneCell'=true:=by
 have data:∀{es:List (List D)} {v:Value},es≠[]->RVd w.cell? G.ps (.sl 1 es) v->∃a cap cs,v=.slice (some a) (es.map fun e=>e.map AV.d).length cap/\cs.length=(es.map fun e=>e.map AV.d).length /\
   (∀j v,cs[j]?=some v->w.cell? (a.add j)=some v)/\(∀r∈(es.map fun e=>e.map AV.d),r.length=1)/\RVs G w (es.map fun e=>e.map AV.d).flatten cs/\∀v∈cs,v.oneCell'=true:=by
  intro es v hne h;cases h with
  | sl u i8 i9 hsz hA hc hr =>
   obtain⟨a,rfl⟩:=hA hne;have jq:∀r∈es.map (fun e=>e.map AV.d),r.length=1:=fun r qp=>by
    obtain⟨e,he,rfl⟩:=bc.1 qp;simpa using hsz e he
   refine⟨a,_,(List.range es.length).map fun i=>u i 0,by rw[br],by simp,fun j v hj=>?_,jq,⟨?_,fun i h1 h2=>?_⟩,fun v hv=>?_⟩
   .obtain⟨h1,rfl⟩:=ba.1 hj;simp only[br,List.length_range] at h1;have:=(hc a rfl j 0 h1 (by decide)).2
    simpa using this
   .rw[dJ jq];simp
   .have hi:i<es.length:=by simpa using h2
    have hlen:es[i].length=1:=hsz _ (aa hi)
    have hrow:(es.map fun e=>e.map AV.d)[i]?=some (es[i].map AV.d):=by simp[hi]
    have pu:=gU jq hrow (j:=0) (by decide);simp only[gz,fl] at pu;rw[ab h1] at pu;have h0:0<es[i].length:=by omega
    have e2:(es[i].map AV.d)[0]?=some (.d es[i][0]):=by simp[h0]
    rw[e2] at pu;rw[Option.some.inj pu];simp only[bl,gq];exact .d (hr i 0 hi h0)
   .obtain⟨i,hi,rfl⟩:=bc.1 hv;have oe:i<es.length:=by simpa using hi
    have hlen:es[i].length=1:=hsz _ (aa oe)
    exact(hr i 0 oe (by omega)).one
 unfold rH at h;split at h
 .rename_i k off n sz;split at h
  .rename_i rows hk;simp only[ad,aw] at h;obtain⟨rfl,rfl⟩:=h;obtain⟨rfl,ji⟩:=hφ;cases hy with
   | msl hb hn hc =>
    rename_i b cap;obtain⟨_,cells,e,hh,hs,hR,h1⟩:=hm.box k rows b 1 hk hb;have hlen:((rows.drop off).take n).length=n:=by simp;omega
    have nm:rows.length=cells.toList.length:=by have:=hR.1;rw[dJ hs] at this;simpa using this
    refine⟨⟨b,off*1,none⟩,cap,(cells.toList.drop off).take n,by rw[hlen],by simp at nm ⊢;omega,fun j v hj=>?_,fun r hr=>hs r (cu (bt hr)),?_,fun v hv=>h1 v (cu (bt hv))⟩
    .rw[bK,gz,e8 w b _ cells e (0,0) hh];have Dw:j<n:=by
      have:=(ba.1 hj).1
      simp at this;omega
     rw[e9 Dw,gr] at hj;simpa using hj
    .rw[lR (fun r hr=>hs r (cu hr)),qJ hs];exact(hR.drop off).take n
  .cases h
 .simp only[ad,aw] at h;obtain⟨rfl,rfl⟩:=h;obtain⟨rfl,hne⟩:=hφ;cases hy with
  | d hd=>exact data hne hd
 .simp only[ad,aw] at h;obtain⟨rfl,rfl⟩:=h;obtain⟨rfl,hne⟩:=hφ;cases hy with
  | osl hd _=>exact data hne hd
 .cases h
def nA(P:Program)(base:Nat)(o:Oper)(ρ:Operand->AV)(box:Nat->Option (List (List AV)))(v:AV)(box':Nat->Option (List (List AV))):Prop:=match o.op with
 | .store T p x=>match aT P T,(ρ x).cells?,ρ p with
  | some n,some cs,.ptr k i off=>match box k with
   | some rows=>match rows[i]? with
    | some r=>cs.length=n/\off+n<=r.length/\v=.bot/\box'=upd box k (some (rows.set i (setCells r off cs)))
    | none=>False
   | none=>False
  | _,_,_=>False
 | .box _ x=>match o.dst,(ρ x).cells? with
  | some s,some cs=>box (base+s)=none/\v=.ptr (base+s) 0 0/\box'=upd box (base+s) (some [cs])
  | _,_=>False
 | .makeSlice T l c=>match cB P T,o.dst,ρ l,ρ c with
  | some (sz,by',zs),some s,.d (.raw (.int _ n)),.d (.raw (.int _ n'))=>n'=n/\0<=n/\n.toNat*by'<=281474976710656/\box (base+s)=none/\v=.msl (base+s) 0 n.toNat sz /\
    box'=upd box (base+s) (some (List.replicate n.toNat (zs.map cF)))
  | _,_,_,_=>False
 | .call c=>match c.callee,c.args.toList.map ρ,c.argTypes.toList with
  | .builtin .copy,[.msl k off n sz,y],[T,_]=>match (aF P T).bind (aT P),box k,rH y box with
   | some 1,some rows,some (φ,src)=>φ/\sz=1/\off+n<=rows.length/\v=.d (.raw (.int .i64 ((min src.length n:Nat):Int))) /\
     box'=upd box k (some (rows.take off++src.take (min src.length n)++rows.drop (off+min src.length n)))
   | _,_,_=>False
  | .builtin .clear,[.msl k off n sz],[T]=>match cB P T,box k with
   | some (sz',_,zs),some rows=>sz'=sz/\off+n<=rows.length/\v=.tup []/\box'=upd box k (some (rows.take off++List.replicate n (zs.map cF)++rows.drop (off+n)))
   | _,_=>False
  | _,_,_=>False
 | _=>False
theorem wI{α:Type}{sz:Nat}:∀{rows:List (List α)} (_:∀r∈rows,r.length=sz) (m:Nat),(rows.drop m).flatten=rows.flatten.drop (m*sz)
 | [],_,m=>by simp
 | r::rows,h,0=>by simp
 | r::rows,h,m+1=>by
  have h1:=h r (by simp);have h2:(m+1)*sz=m*sz+sz:=by rw[cf];omega
  have h3:r.drop ((m+1)*sz)=[]:=gh (by omega)
  have h4:(m+1)*sz-r.length=m*sz:=by omega
  rw[List.drop_succ_cons,wI (fun q hq=>h q (by simp[hq])) m,cr,List.drop_append,h3,h4,eq]
theorem wO{α:Type}{sz:Nat}:∀{rows:List (List α)} (_:∀r∈rows,r.length=sz) (m:Nat),(rows.take m).flatten=rows.flatten.take (m*sz)
 | [],_,m=>by simp
 | r::rows,h,0=>by simp
 | r::rows,h,m+1=>by
  have h1:=h r (by simp);have h2:(m+1)*sz=m*sz+sz:=by rw[cf];omega
  have h3:r.take ((m+1)*sz)=r:=ak (by omega)
  have h4:(m+1)*sz-r.length=m*sz:=by omega
  rw[List.take_succ_cons,cr,wO (fun q hq=>h q (by simp[hq])) m,cr,List.take_append,h3,h4]
theorem aAt{α:Type}{sz:Nat}:∀{rows:List (List α)} (_:∀r∈rows,r.length=sz),rows.flatten.length=rows.length*sz
 | [],_=>by simp
 | r::rows,h=>by
  rw[cr,am,h r (by simp),aAt (fun q hq=>h q (by simp[hq])),ci,cf];omega
theorem sU(z:Array Value)(n:Nat)(h:0<z.size):(Builtin.zeroCells z n).toList=(List.replicate n z.toList).flatten:=aA1 z n h
theorem aCi{T b off:Nat}{v:Value}{w:World}{cur:Array Value}{e:TypeId}(hn:aT P T=some v.cells.size)(hg:w.heap[b]?=some (.cells cur e (0,0)))(hl:off+v.cells.size<=cur.size)(h1:∀u∈v.cells.toList,u.oneCell'=true):(storeVar T ⟨b,off,none⟩ v).run P w=.ok () (w.setRow b (setCells cur.toList off v.cells.toList).toArray):=by
 have hr:=run_storeCells_at P b off e v.cells.toList 0 cur w hg (by simpa using hl) h1;simp only[fl] at hr;rw[hJ _ _ _ (by simpa using hl)];simp only[storeVar,ax,bT hn,aj,ne_eq,fo,↓reduceIte];exact hr
def dO(P:Program)(o:Oper)(ρv:Operand->Value)(G:Gh)(w:World)(R:Value->Gh->World->Prop):Prop :=
 ∃nx u G' w',(execOp ρv o).run P w=.ok nx w'/\(nx=.value u∨nx=.skip/\u=undef)/\Le G w G' w'/\R u G' w'
theorem aFd{base:Nat}{o:Oper}{ρ:Operand->AV}{ρv:Operand->Value}{G:Gh}{m:bH}{w:World}{v:AV}{box':Nat->Option (List (List AV))}(h:nA P base o ρ m.box v box')(hρ:∀x∈o.op.operands,RV G w (ρ x) (ρv x))(hm:aV G m w)(hd:∀s,o.dst=some s->base+s<m.nb):
  dO P o ρv G w fun u G' w'=>RV G' w' v u/\aV G' { m with box:=box' } w'/\∀k,some k≠o.dst.map (base + ·)->G.bx k=none->G'.bx k=none/\box' k=m.box k:=by
 unfold nA at h;split at h
 .rename_i T p x ho;have hp:=hρ p (by rw[ho];simp[Op.operands]);have hx:=hρ x (by rw[ho];simp[Op.operands]);split at h
  .rename_i n cs k i off hn m9 wd;rw[wd] at hp;generalize yj:ρv p=pv at hp;cases hp with
   | ptr hb =>
    rename_i b sz;split at h
    .rename_i rows Hb;split at h
     .rename_i r hrow;obtain⟨rfl,h2,rfl,rfl⟩:=h;obtain⟨_,cells,e,hh,hs,hR,h1⟩:=hm.box k rows b sz Hb hb;have n9:r.length=sz:=hs r (fg hrow)
      have hi:i<rows.length:=(ba.1 hrow).1
      obtain⟨yk,hc1⟩:=hx.cells m9;have nm:(ρv x).cells.size=cs.length:=by have:=yk.1;simpa using this.symm
      have pu:rows.flatten.length=cells.toList.length:=hR.1
      rw[dJ hs] at pu;have iv:i*sz+sz<=cells.size:=by
       have:(i+1)*sz<=rows.length*sz:=bm _ (by omega)
       rw[cf] at this;simp at pu;omega
      have jc:(storeVar T ⟨b,i*sz+off,none⟩ (ρv x)).run P w=.ok () (w.setRow b (setCells cells.toList (i*sz+off) (ρv x).cells.toList).toArray) :=
       aCi (by rw[nm];exact hn) hh (by omega) hc1
      have o7:∀r'∈rows.set i (setCells r off cs),r'.length=sz:=by
       intro r' qp;rcases List.mem_or_eq_of_mem_set qp with h3|h3
       .exact hs r' h3
       .rw[h3,eX,n9]
      have kv:(rows.set i (setCells r off cs)).flatten=setCells rows.flatten (i*sz+off) cs:=aEp cs hs hrow (by omega)
      refine⟨.skip,undef,G,w.setRow b (setCells cells.toList (i*sz+off) (ρv x).cells.toList).toArray,?_,.inr ⟨rfl,rfl⟩,Le.setRow (hm.blt hb).2 _,.bot,hm.setRow hb o7 hh ?_ ?_,?_⟩
      .simp only[execOp,ho,Instr.storeAt,yj,Instr.sureAddr,ax,a8,aj,jc]
      .rw[kv];simpa using hR.setCells yk
      .simpa using lS (p:=fun u=>Value.oneCell' u=true) (ρv x).cells.toList cells.toList (i*sz+off) h1 hc1
      .intro j _ hj;refine⟨hj,uO _ _ (fun e=>?_)⟩;subst e;rw[hb] at hj;cases hj
     .exact h.elim
    .exact h.elim
  .exact h.elim
 .rename_i T x ho;have hx:=hρ x (by rw[ho];simp[Op.operands]);split at h
  .rename_i s cs hs m9;obtain⟨h1,rfl,rfl⟩:=h;obtain⟨yk,hc1⟩:=hx.cells m9;have n5:=hm.nobox _ h1;have hrel:=hm.mkbox (k:=base+s) n5 (hd s hs) (sz:=cs.length) (rows:=[cs]) (by simp) (cs:=(ρv x).cells) T (by simpa using yk) hc1;refine⟨.value (.pointer (some ⟨w.heap.size,0,none⟩)),_,G.mkbox (base+s) w.heap.size cs.length,w.alloc (.cells (ρv x).cells T),?_,.inl rfl,Le.mkbox hm.fresh hm.tlt n5 _ _,?_,hrel,?_⟩
   .simp only[execOp,ho,Instr.box,newVar,newRow,ax,a8,aj];rfl
   .have:(⟨w.heap.size,0,none⟩:Addr)=⟨w.heap.size,0*cs.length+0,none⟩:=by simp
    rw[this];exact .ptr (by simp[Gh.mkbox,uS])
   .intro k hk hg;have hne:k≠base+s:=fun e=>hk (by rw[hs,e];rfl)
    exact⟨by simp only[Gh.mkbox];rw[uO _ _ hne];exact hg,uO _ _ hne⟩
  .exact h.elim
 .rename_i T l c ho;have hl:=hρ l (by rw[ho];simp[Op.operands]);have hc:=hρ c (by rw[ho];simp[Op.operands]);split at h
  .rename_i sz by' zs s k1 n k2 n' hT hs Ac zz
   obtain⟨rfl,h0,hb,h1,rfl,rfl⟩:=h;obtain⟨E,i,z,hE,hi,hz,rfl,hlen,hsz,CK,li,xh,jq⟩:=xF hT;rw[Ac] at hl;rw[zz] at hc;have lh:ρv l=.int k1 n':=by generalize ρv l=x at hl;cases hl with|d h=>cases h with|raw=>rfl
   have ro:ρv c=.int k2 n':=by generalize ρv c=x at hc;cases hc with|d h=>cases h with|raw=>rfl
   have n5:=hm.nobox _ h1;have j8:n'.toNat<=281474976710656:=cb (Nat.le_mul_of_pos_right _ xh) hb
   have jc:=run_make (P:=P) w T E i z hE hi hz k1 k2 n' n' h0 (Int.le_refl _) (by
    have:((n'.toNat*by':Nat):Int)<=281474976710656:=by omega
    rw[Int.natCast_mul] at this;rw[CK,Int.mul_comm];have e:((n'.toNat:Nat):Int)=n':=by omega
    rw[e] at this;exact this) (by omega)
   have oy:z.cells.size=sz:=by simpa using hlen
   have kv:(madeCells z.cells (n'.toNat*i.size)).toList=(List.replicate n'.toNat z.cells.toList).flatten:=by
    rw[hsz,<-oy];exact aA1 _ _ (by omega)
   have hrel:=hm.mkbox (k:=base+s) n5 (hd s hs) (sz:=sz) (rows:=List.replicate n'.toNat (z.cells.toList.map cF)) (by
    intro r hr;rw[co hr];simpa using oy) (cs:=madeCells z.cells (n'.toNat*i.size)) E (by
    rw[kv];have e:(List.replicate n'.toNat (z.cells.toList.map cF)).flatten=((List.replicate n'.toNat z.cells.toList).flatten).map cF:=by
     rw[List.map_flatten,List.map_replicate]
    rw[e];exact⟨by simp,fun i h1 h2=>by simp only[bl];exact RV.of_ofVal1 _⟩) (by
    rw[kv];intro u hu;obtain⟨l',mo,hl2⟩:=gl.1 hu;rw[co mo] at hl2;exact jq u hl2)
   refine⟨.value (.slice (some ⟨w.heap.size,0,none⟩) n'.toNat n'.toNat),_,G.mkbox (base+s) w.heap.size sz,w.alloc (.cells (madeCells z.cells (n'.toNat*i.size)) E),?_,.inl rfl,Le.mkbox hm.fresh hm.tlt n5 _ _,?_,hrel,?_⟩
   .simp only[execOp,ho,lh,ro,ax,jc,aj,a8]
   .have:(⟨w.heap.size,0,none⟩:Addr)=⟨w.heap.size,0*sz,none⟩:=by simp
    rw[this];exact .msl (by simp[Gh.mkbox,uS]) (nr0 _) (by unfold maxLen;omega)
   .intro k hk hg;have hne:k≠base+s:=fun e=>hk (by rw[hs,e];rfl)
    exact⟨by simp only[Gh.mkbox];rw[uO _ _ hne];exact hg,uO _ _ hne⟩
  .exact h.elim
 .rename_i c ho;split at h
  .rename_i k off n sz y T T' i5 hargs lr;split at h
   .rename_i rows φ src hT hk mw;obtain⟨hφ,rfl,ji,rfl,rfl⟩:=h;obtain⟨x0,y0,ha⟩:∃x0 y0,c.args.toList=[x0,y0]:=aHX (by
     have hl:=d8 List.length hargs;rw[br] at hl;exact hl)
    rw[ha] at hargs;simp only[di,d6,List.cons.injEq,and_true] at hargs;obtain⟨Ad,rfl⟩:=hargs;have jo:∀z∈c.args.toList,z∈o.op.operands:=fun z hz=>by rw[ho];simp only[Op.operands,Call.operands];rw[<-Array.mem_toList_iff];simp;exact .inr (by simpa using hz)
    have hx:=hρ x0 (jo _ (by rw[ha];simp));have hy:=hρ y0 (jo _ (by rw[ha];simp));rw[Ad] at hx;obtain⟨E,hE,n6⟩:=dv.1 hT;have BC:P.underlying T=some (.slice E):=by
     unfold aF at hE;split at hE
     .simp only[ad] at hE;subst hE;assumption
     .cases hE
    obtain⟨a,cap',cs,Ae,nm,s8,pw,BD,jq⟩:=zK mw hφ hy hm;generalize o8:ρv x0=xv at hx;cases hx with
    | msl hb hn hc =>
     rename_i b cap;obtain⟨jb,cells,e,hh,hs,hR,h1⟩:=hm.box k rows b 1 hk hb;have n9:rows.length=cells.toList.length:=by have:=hR.1;rw[dJ hs] at this;simpa using this
     have pz:(cs.take (min src.length n)).length=min src.length n:=by rw[cj];omega
     have jc:=run_copy_row (P:=P) w T T' o.type E b (off*1) n cap a src.length cap' cells e (cs.take (min src.length n)) BC n6 hh pz
      (fun j v hj=>s8 j v (by
       have:=(ba.1 hj).1
       rw[e9 (by omega)] at hj;exact hj)) (by rw[pz];simp at n9;omega) (fun v hv=>jq v (bt hv))
     rw[pz,gz] at jc;have o7:∀r∈rows.take off++src.take (min src.length n)++rows.drop (off+min src.length n),r.length=1:=by
      intro r hr;rcases ap.1 hr with hr|hr
      .rcases ap.1 hr with hr|hr
       .exact hs r (bt hr)
       .exact pw r (bt hr)
      .exact hs r (cu hr)
     refine⟨.value (.int .i64 ((min src.length n:Nat):Int)),_,G,w.setRow b (cells.toList.take off++cs.take (min src.length n)++cells.toList.drop (off+min src.length n)).toArray,?_,.inl rfl,Le.setRow (hm.blt hb).2 _,.d (.raw rfl),hm.setRow hb o7 hh ?_ ?_,?_⟩
     .have BE:c.args = #[x0,y0]:=Array.ext' (by simpa using ha)
      have yl:c.argTypes = #[T,T']:=Array.ext' (by simpa using lr)
      rw[gz] at o8;simp only[execOp,ho,resolve,i5,BE,yl,List.map_toArray,di,d6,o8,Ae,ax,a8,aj,invoke,builtin,jc];rfl
     .rw[gg,gg,lR hs,lR pw,qJ hs];simpa using ((hR.take off).append (BD.take (min src.length n))).append (hR.drop (off+min src.length n))
     .intro v hv;simp only[ap] at hv;rcases hv with (hv|hv)|hv
      .exact h1 v (bt hv)
      .exact jq v (bt hv)
      .exact h1 v (cu hv)
     .intro j _ hj;refine⟨hj,uO _ _ (fun e=>?_)⟩;subst e;rw[hb] at hj;cases hj
   .exact h.elim
  .rename_i k off n sz T i5 hargs lr;split at h
   .rename_i sz' by' zs rows hT hk
    obtain⟨rfl,ji,rfl,rfl⟩:=h;obtain⟨x0,ha⟩:∃x0,c.args.toList=[x0]:=by
     have hl:=d8 List.length hargs;rw[br] at hl;exact List.length_eq_one_iff.1 hl
    rw[ha] at hargs;simp only[di,d6,List.cons.injEq,and_true] at hargs;have jo:∀z∈c.args.toList,z∈o.op.operands:=fun z hz=>by rw[ho];simp only[Op.operands,Call.operands];rw[<-Array.mem_toList_iff];simp;exact .inr (by simpa using hz)
    have hx:=hρ x0 (jo _ (by rw[ha];simp));rw[hargs] at hx;obtain⟨E,i,z,hE,hi,hz,rfl,hlen,hsz,CK,li,xh,jq⟩:=xF hT;generalize o8:ρv x0=xv at hx;have BE:c.args = #[x0]:=Array.ext' (by simpa using ha)
    have yl:c.argTypes = #[T]:=Array.ext' (by simpa using lr)
    have ka:∀w',(Builtin.clear_ #[T] o.type #[xv]).run P w=.ok (.tuple #[]) w'->(execOp ρv o).run P w=.ok (.value (.tuple #[])) w':=by
     intro w' hr;simp only[execOp,ho,resolve,i5,BE,yl,List.map_toArray,di,d6,o8,ax,a8,aj,invoke,builtin,hr]
    have Af:RV G w (.tup []) (.tuple #[]):=.tup (vs:=[]) rfl fun i h=>by simp at h
    have oy:z.cells.size=sz':=by simpa using hlen
    cases hx with
    | msl hb hn hc =>
     rename_i b cap;have jk:∀(rows':List (List AV)) (j:Nat),some j≠o.dst.map (base + ·)->G.bx j=none->G.bx j=none/\upd m.box k (some rows') j=m.box j:=fun rows' j _ hj=>⟨hj,uO _ _ (fun e=>by
      subst e;rw[hb] at hj;cases hj)⟩
     by_cases we:n=0
     .subst we;refine⟨_,_,G,w,ka w ?_,.inl rfl,Le.refl G w,Af,?_,jk _⟩
      .simp[Builtin.clear_,bp hE]
      .have e:rows.take off++List.replicate 0 (z.cells.toList.map cF)++rows.drop (off+0)=rows:=by simp
       rw[e];have e2:upd m.box k (some rows)=m.box:=by
        funext j
        by_cases h:j=k
        .subst h;rw[uS,hk]
        .exact uO _ _ h
       rw[e2];exact hm
     .obtain⟨jb,cells,e,hh,hs,hR,h1⟩:=hm.box k rows b sz' hk hb;have nm:cells.size=rows.length*sz':=by have:=hR.1;rw[aAt hs] at this;simpa using this.symm
      have CL:(Builtin.zeroCells z.cells n).toList.length=n*sz':=by rw[sU _ _ (by omega)];simp[List.length_flatten,oy]
      have hz1:∀u∈(Builtin.zeroCells z.cells n).toList,u.oneCell'=true:=by
       rw[sU _ _ (by omega)];intro u hu;obtain⟨l',mo,hl2⟩:=gl.1 hu;rw[co mo] at hl2;exact jq u hl2
      have Ag:off*sz'+n*sz'<=rows.length*sz':=by rw[<-Nat.add_mul];exact bm _ ji
      have jp:=run_storeCells_at P b (off*sz') e (Builtin.zeroCells z.cells n).toList 0 cells w hh (by rw[CL];omega) hz1;simp only[fl,CL] at jp;have wg:∀w,(zeroValue E).run P w=.ok z w:=fun w=>by simp[zeroValue,typeInfo,hi,hz]
      have jc:(Builtin.clear_ #[T] o.type #[.slice (some ⟨b,off*sz',none⟩) n cap]).run P w=.ok (.tuple #[]) (w.setRow b (cells.toList.take (off*sz')++(Builtin.zeroCells z.cells n).toList++cells.toList.drop (off*sz'+n*sz')).toArray):=by
       obtain⟨n',rfl⟩:=Nat.exists_eq_succ_of_ne_zero we;simp[Builtin.clear_,bp hE,wg,jp]
      have o7:∀r∈rows.take off++List.replicate n (z.cells.toList.map cF)++rows.drop (off+n),r.length=sz':=by
       intro r hr;rcases ap.1 hr with hr|hr
       .rcases ap.1 hr with hr|hr
        .exact hs r (bt hr)
        .rw[co hr];simpa using oy
       .exact hs r (cu hr)
      refine⟨_,_,G,_,ka _ jc,.inl rfl,Le.setRow (hm.blt hb).2 _,Af.mono (Le.setRow (hm.blt hb).2 _),hm.setRow hb o7 hh ?_ ?_,jk _⟩
      .rw[gg,gg,wO hs,wI hs,cf];have BF:RVs G w (List.replicate n (z.cells.toList.map cF)).flatten (Builtin.zeroCells z.cells n).toList:=by
        rw[sU _ _ (by omega)];have e:(List.replicate n (z.cells.toList.map cF)).flatten=((List.replicate n z.cells.toList).flatten).map cF:=by
         rw[List.map_flatten,List.map_replicate]
        rw[e];exact⟨by simp,fun i h1 h2=>by simp only[bl];exact RV.of_ofVal1 _⟩
       simpa using ((hR.take (off*sz')).append BF).append (hR.drop (off*sz'+n*sz'))
      .intro v hv;simp only[ap] at hv;rcases hv with (hv|hv)|hv
       .exact h1 v (bt hv)
       .exact hz1 v hv
       .exact h1 v (cu hv)
   .exact h.elim
  .exact h.elim
 .exact h.elim
def Own.live(tok:Nat->Bool):Own->Bool
 | .full=>true
 | .tok t=>tok t
def Own.kill(tok:Nat->Bool):Own->(Nat->Bool)
 | .full=>tok
 | .tok t=>upd tok t false
def Gh.kill(G:Gh):Own->Gh
 | .full=>G
 | .tok t=>{ G with tk:=upd G.tk t none }
theorem Le.kill{G:Gh}{w:World}(o:Own):Le G w (G.kill o) w:=by
 cases o with
 | full=>exact Le.refl G w
 | tok t =>
  exact⟨rfl,rfl,rfl,nr0 _,fun _ _ h=>⟨h,rfl⟩,fun _ f _ h=>⟨⟨f,nr0 _,h⟩,fun _ _ _=>rfl⟩,fun _ _ h=>h,nr0 _,fun s _=>by
   by_cases e:s=t
   .exact .inl (by subst e;simp[Gh.kill,uS])
   .exact .inr ⟨by simp only[Gh.kill];exact uO _ _ e,fun _ _=>⟨rfl,fun _=>rfl⟩⟩,fun _ _ _ _ h=>⟨_,_,h⟩⟩
theorem aV.kill{G:Gh}{m:bH}{w:World}(h:aV G m w)(o:Own):aV (G.kill o) { m with tok:=o.kill m.tok } w:=by
 cases o with
 | full=>exact h
 | tok t =>
  have tk':∀s x,(upd G.tk t none) s=some x->s≠t/\G.tk s=some x:=by
   intro s x hs;by_cases e:s=t
   .subst e;simp[uS] at hs
   .exact⟨e,by rw[uO _ _ e] at hs;exact hs⟩
  constructor
  case box =>
   intro k rows b sz hk hb;obtain⟨h1,cs,e,h2,h3,h4,h5⟩:=h.box k rows b sz hk hb;exact⟨h1,cs,e,h2,h3,h4.mono (Le.kill (.tok t)),h5⟩
  case nobox=>exact h.nobox
  case inj=>exact h.inj
  case nb=>exact h.nb
  case nt=>exact h.nt
  case toks =>
   intro s hs;simp only[Own.kill] at hs;by_cases e:s=t
   .subst e;simp[uS] at hs
   .rw[uO _ _ e] at hs;obtain⟨h1,x,h2⟩:=h.toks s hs;exact⟨h1,x,by simp only[Gh.kill];rw[uO _ _ e];exact h2⟩
  case tokb=>intro s g hs;exact h.tokb s g (tk' s _ hs).2
  case tinj=>intro s s' g hs pw;exact h.tinj s s' g (tk' s _ hs).2 (tk' s' _ pw).2
  case tnt=>intro s x hs;exact h.tnt s x (tk' s _ hs).2
  case glob=>exact h.glob.mono (Le.kill (.tok t)).cells
  case fresh=>exact h.fresh
def Gh.newtok(G:Gh)(x:Option Nat):Gh:={ G with tk:=upd G.tk G.nt (some x),nt:=G.nt+1 }
theorem Le.newtok{G:Gh}{w:World}(x:Option Nat):Le G w (G.newtok x) w :=
 ⟨rfl,rfl,rfl,nr0 _,fun _ _ h=>⟨h,rfl⟩,fun _ f _ h=>⟨⟨f,nr0 _,h⟩,fun _ _ _=>rfl⟩,fun _ _ h=>h,Nat.le_succ _,fun s hs=>.inr ⟨by
  simp only[Gh.newtok];exact uO _ _ (by omega),fun _ _=>⟨rfl,fun _=>rfl⟩⟩,fun _ _ _ _ h=>⟨_,_,h⟩⟩
theorem aV.newtok{G:Gh}{m:bH}{w:World}(h:aV G m w)(x:Option Nat)(hx:∀g,x=some g->(∀t,G.tk t≠some (some g))/\aPd G w g):
  aV (G.newtok x) { m with tok:=upd m.tok m.nt true,nt:=m.nt+1 } w:=by
 have tk':∀s y,(upd G.tk G.nt (some x)) s=some y->(s=G.nt/\y=x)∨(s≠G.nt/\G.tk s=some y):=by
  intro s y hs;by_cases e:s=G.nt
  .subst e;rw[uS] at hs;cases hs;exact .inl ⟨rfl,rfl⟩
  .exact .inr ⟨e,by rw[uO _ _ e] at hs;exact hs⟩
 constructor
 case box =>
  intro k rows b sz hk hb;obtain⟨h1,cs,e,h2,h3,h4,h5⟩:=h.box k rows b sz hk hb;exact⟨h1,cs,e,h2,h3,h4.mono (Le.newtok x),h5⟩
 case nobox=>exact h.nobox
 case inj=>exact h.inj
 case nb=>exact h.nb
 case nt=>simp only[Gh.newtok];rw[h.nt]
 case toks =>
  intro s hs;simp only at hs;by_cases e:s=m.nt
  .subst e;exact⟨ef _,x,by simp only[Gh.newtok];rw[h.nt,uS]⟩
  .rw[uO _ _ e] at hs;obtain⟨h1,y,h2⟩:=h.toks s hs;exact⟨Nat.lt_succ_of_lt h1,y,by simp only[Gh.newtok];rw[h.nt,uO _ _ e];exact h2⟩
 case tokb =>
  intro s g hs;rcases tk' s _ hs with ⟨_,e⟩|⟨_,e⟩
  .exact(hx g e.symm).2
  .exact h.tokb s g e
 case tinj =>
  intro s s' g hs pw;rcases tk' s _ hs with ⟨e1,e⟩|⟨e1,e⟩<;>rcases tk' s' _ pw with ⟨e2,e'⟩|⟨e2,e'⟩
  .exact e1.trans e2.symm
  .exact absurd e' ((hx g e.symm).1 s')
  .exact absurd e ((hx g e'.symm).1 s)
  .exact h.tinj s s' g e e'
 case tnt =>
  intro s y hs;simp only[Gh.newtok];rcases tk' s _ hs with ⟨e1,_⟩|⟨_,e⟩
  .omega
  .have:=h.tnt s y e;omega
 case glob=>exact h.glob.mono (Le.newtok x).cells
 case fresh=>exact h.fresh
def Gh.setKind(G:Gh)(g:Nat)(k:BK):Gh:={ G with kind:=upd G.kind g k }
theorem Le.newpart{G:Gh}{m:bH}{w:World}(h:aV G m w)(f c:Nat)(o:Obj):Le G w (G.setKind w.heap.size (.part f c)) (w.alloc o) where
 os:=rfl
 tape:=rfl
 output:=rfl
 size:=by simp
 whole b hb hk:=⟨by simp only[Gh.setKind];rw[uO _ _ (by omega)];exact hk,bo w o b hb⟩
 part b f c hk:=by
  have hne:b≠w.heap.size:=fun e=>by
   have:=h.fresh b (by omega)
   rw[hk] at this;cases this
  exact⟨⟨f,nr0 _,by simp only[Gh.setKind];rw[uO _ _ hne];exact hk⟩,fun a ha _=>World.cell?_alloc_old w o a (by omega)⟩
 bx _ _ h:=h
 nt:=nr0 _
 tk t _:=.inr ⟨rfl,fun g hg=>by
  have hlt:=h.tlt t g hg;simp only[Gh.setKind];rw[uO _ _ (by omega)];exact⟨rfl,fun _=>bo w o g hlt⟩⟩
 ty b cs T f hb:=⟨cs,f,(bo w o b (bj.1 hb).1).trans hb⟩
theorem aV.newpart{G:Gh}{m:bH}{w:World}(h:aV G m w)(f c:Nat)(o:Obj):aV (G.setKind w.heap.size (.part f c)) m (w.alloc o):=by
 have iv:=Le.newpart h f c o;constructor
 case box =>
  intro k rows b sz hk hb;obtain⟨h1,cs,e,h2,h3,h4,h5⟩:=h.box k rows b sz hk hb;refine⟨?_,cs,e,(bo w o b (bY h2)).trans h2,h3,h4.mono iv,h5⟩;simp only[Gh.setKind];rw[uO _ _ (by have:=bY h2;omega)];exact h1
 case nobox=>exact h.nobox
 case inj=>exact h.inj
 case nb=>exact h.nb
 case nt=>exact h.nt
 case toks=>exact h.toks
 case tokb =>
  intro t g ht;obtain⟨f',cur,e,h1,h2⟩:=h.tokb t g ht;refine⟨f',cur,e,?_,(bo w o g (bY h2)).trans h2⟩;simp only[Gh.setKind];rw[uO _ _ (by have:=bY h2;omega)];exact h1
 case tinj=>exact h.tinj
 case tnt=>exact h.tnt
 case glob=>exact h.glob.mono iv.cells
 case fresh =>
  intro b hb;simp at hb;simp only[Gh.setKind];rw[uO _ _ (by omega)];exact h.fresh b (by omega)
theorem Le.fill{G:Gh}{w:World}{g f f' c:Nat}(hk:G.kind g=.part f c)(hf:f<=f')(ht:∀t,G.tk t≠some (some g)){cur new:Array Value}{e:TypeId}{fr:Nat × Nat}(hg:w.heap[g]?=some (.cells cur e fr))(my:∀o,o<f->new[o]?=cur[o]?):Le G w (G.setKind g (.part f' c)) (w.setRow g new) where
 os:=rfl
 tape:=rfl
 output:=rfl
 size:=by simp[World.setRow]
 whole b hb h:=by
  have hne:b≠g:=fun e=>by subst e;rw[hk] at h;cases h
  exact⟨by simp only[Gh.setKind];rw[uO _ _ hne];exact h,fc w g b new hne⟩
 part b f0 c0 h:=by
  by_cases e:b=g
  .subst e;rw[hk] at h;cases h;refine⟨⟨f',hf,by simp[Gh.setKind,uS]⟩,fun a ha ho=>?_⟩;subst ha;simp only[World.cell?,hg,setRow_heap w a.block cur new _ _ hg];split
   .rfl
   .exact my a.off ho
  .exact⟨⟨f0,nr0 _,by simp only[Gh.setKind];rw[uO _ _ e];exact h⟩,fun a ha _=>cell_setRow_other w g new a (by omega)⟩
 bx _ _ h:=h
 nt:=nr0 _
 tk t _:=.inr ⟨rfl,fun j hj=>by
  have hne:j≠g:=fun e=>by subst e;exact ht t hj
  simp only[Gh.setKind];exact⟨uO _ _ hne,fun _=>fc w g j new hne⟩⟩
 ty b c0 T f0 hb:=oC w g b new c0 T f0 hb
theorem aV.fill{G:Gh}{m:bH}{w:World}(h:aV G m w){g f f' c:Nat}(hk:G.kind g=.part f c)(hf:f<=f')(ht:∀t,G.tk t≠some (some g)){cur new:Array Value}{e:TypeId}(hg:w.heap[g]?=some (.cells cur e (0,0)))(my:∀o,o<f->new[o]?=cur[o]?):aV (G.setKind g (.part f' c)) m (w.setRow g new):=by
 have iv:=Le.fill hk hf ht hg my;constructor
 case box =>
  intro k rows b sz jd hb;obtain⟨h1,cs,e',h2,h3,h4,h5⟩:=h.box k rows b sz jd hb;have hne:b≠g:=fun e=>by subst e;rw[hk] at h1;cases h1
  refine⟨?_,cs,e',(fc w g b new hne).trans h2,h3,h4.mono iv,h5⟩;simp only[Gh.setKind];rw[uO _ _ hne];exact h1
 case nobox=>exact h.nobox
 case inj=>exact h.inj
 case nb=>exact h.nb
 case nt=>exact h.nt
 case toks=>exact h.toks
 case tokb =>
  intro t j hj;obtain⟨f0,cur0,e0,h1,h2⟩:=h.tokb t j hj;have hne:j≠g:=fun e=>by subst e;exact ht t hj
  refine⟨f0,cur0,e0,?_,(fc w g j new hne).trans h2⟩;simp only[Gh.setKind];rw[uO _ _ hne];exact h1
 case tinj=>exact h.tinj
 case tnt=>exact h.tnt
 case glob=>exact h.glob.mono iv.cells
 case fresh =>
  intro b hb;have hb':w.heap.size<=b:=by simpa[World.setRow] using hb
  simp only[Gh.setKind];rw[uO _ _ (by have:=bY hg;omega)];exact h.fresh b hb'
theorem Le.newkind{G:Gh}{m:bH}{w:World}(h:aV G m w)(k:BK)(o:Obj):Le G w (G.setKind w.heap.size k) (w.alloc o) where
 os:=rfl
 tape:=rfl
 output:=rfl
 size:=by simp
 whole b hb hk:=⟨by simp only[Gh.setKind];rw[uO _ _ (by omega)];exact hk,bo w o b hb⟩
 part b f c hk:=by
  have hne:b≠w.heap.size:=fun e=>by
   have:=h.fresh b (by omega)
   rw[hk] at this;cases this
  exact⟨⟨f,nr0 _,by simp only[Gh.setKind];rw[uO _ _ hne];exact hk⟩,fun a ha _=>World.cell?_alloc_old w o a (by omega)⟩
 bx _ _ h:=h
 nt:=nr0 _
 tk t _:=.inr ⟨rfl,fun g hg=>by
  have hlt:=h.tlt t g hg;simp only[Gh.setKind];rw[uO _ _ (by omega)];exact⟨rfl,fun _=>bo w o g hlt⟩⟩
 ty b cs T f hb:=⟨cs,f,(bo w o b (bj.1 hb).1).trans hb⟩
theorem aV.newkind{G:Gh}{m:bH}{w:World}(h:aV G m w)(kd:BK)(o:Obj):aV (G.setKind w.heap.size kd) m (w.alloc o):=by
 have iv:=Le.newkind h kd o;constructor
 case box =>
  intro k rows b sz hk hb;obtain⟨h1,cs,e,h2,h3,h4,h5⟩:=h.box k rows b sz hk hb;refine⟨?_,cs,e,(bo w o b (bY h2)).trans h2,h3,h4.mono iv,h5⟩;simp only[Gh.setKind];rw[uO _ _ (by have:=bY h2;omega)];exact h1
 case nobox=>exact h.nobox
 case inj=>exact h.inj
 case nb=>exact h.nb
 case nt=>exact h.nt
 case toks=>exact h.toks
 case tokb =>
  intro t g ht;obtain⟨f',cur,e,h1,h2⟩:=h.tokb t g ht;refine⟨f',cur,e,?_,(bo w o g (bY h2)).trans h2⟩;simp only[Gh.setKind];rw[uO _ _ (by have:=bY h2;omega)];exact h1
 case tinj=>exact h.tinj
 case tnt=>exact h.tnt
 case glob=>exact h.glob.mono iv.cells
 case fresh =>
  intro b hb;simp at hb;simp only[Gh.setKind];rw[uO _ _ (by omega)];exact h.fresh b (by omega)
theorem Le.fillx{G:Gh}{w:World}{g:Nat}(hk:G.kind g=.ex)(ht:∀t,G.tk t≠some (some g)){cur new:Array Value}{e:TypeId}{fr:Nat × Nat}(hg:w.heap[g]?=some (.cells cur e fr)):Le G w G (w.setRow g new) where
 os:=rfl
 tape:=rfl
 output:=rfl
 size:=by simp[World.setRow]
 whole b hb h:=⟨h,fc w g b new (fun e=>by subst e;rw[hk] at h;cases h)⟩
 part b f0 c0 h:=⟨⟨f0,nr0 _,h⟩,fun a ha _=>cell_setRow_other w g new a (fun e=>by
  have:G.kind g=.part f0 c0:=by rw[<-e,ha];exact h
  rw[hk] at this;cases this)⟩
 bx _ _ h:=h
 nt:=nr0 _
 tk t _:=.inr ⟨rfl,fun j hj=>⟨rfl,fun _=>fc w g j new (fun e=>by subst e;exact ht t hj)⟩⟩
 ty b c0 T f0 hb:=oC w g b new c0 T f0 hb
theorem aV.fillx{G:Gh}{m:bH}{w:World}(h:aV G m w){g:Nat}(hk:G.kind g=.ex)(ht:∀t,G.tk t≠some (some g)){cur new:Array Value}{e:TypeId}(hg:w.heap[g]?=some (.cells cur e (0,0))):aV G m (w.setRow g new):=by
 have iv:=Le.fillx (new:=new) hk ht hg;constructor
 case box =>
  intro k rows b sz jd hb;obtain⟨h1,cs,e',h2,h3,h4,h5⟩:=h.box k rows b sz jd hb;exact⟨h1,cs,e',(fc w g b new (fun e=>by subst e;rw[hk] at h1;cases h1)).trans h2,h3,h4.mono iv,h5⟩
 case nobox=>exact h.nobox
 case inj=>exact h.inj
 case nb=>exact h.nb
 case nt=>exact h.nt
 case toks=>exact h.toks
 case tokb =>
  intro t j hj;obtain⟨f0,cur0,e0,h1,h2⟩:=h.tokb t j hj;exact⟨f0,cur0,e0,h1,(fc w g j new (fun e=>by subst e;exact ht t hj)).trans h2⟩
 case tinj=>exact h.tinj
 case tnt=>exact h.tnt
 case glob=>exact h.glob.mono iv.cells
 case fresh =>
  intro b hb;exact h.fresh b (by simpa[World.setRow] using hb)
abbrev Bxs:=Nat->Option (List (List AV))
abbrev Tks:=Nat->Bool
end Go.AM
