/-
 Parts of the proof, as merged from many texts: a machine over data, what the functions compute, plain laws.
-/
import Derived.Test.YtchfmhhbiealcaaGreatDoorPIA1
import Derived.MapKept
import Derived.Lib.AppendStr
set_option linter.unusedSimpArgs false
set_option linter.unusedVariables false
namespace Go.AM
open Go
variable {P:Program}
def aW(P:Program)(T:TypeId):Option (TypeId × Nat × Nat):=match P.underlying T with
 | some (.slice E)=>match P.info? E with
  | some i=>match i.zero with
   | some z=>if z.cells.size=i.size/\0<i.size/\0<i.bytes then some (E,i.size,i.bytes) else none
   | none=>none
  | none=>none
 | _=>none
theorem fE{T E sz by':Nat}(h:aW P T=some (E,sz,by')):P.underlying T=some (.slice E)/\∃i z,P.info? E=some i/\i.zero=some z/\z.cells.size=sz/\i.size=sz/\i.bytes=by'/\0<sz/\0<by':=by
 unfold aW at h;split at h
 .rename_i E' hE;split at h
  .rename_i i hi;split at h
   .rename_i z hz;split at h
    .rename_i hc;simp only[Option.some.injEq,Prod.mk.injEq] at h;obtain⟨rfl,rfl,rfl⟩:=h;exact⟨hE,i,z,hi,hz,hc.1,rfl,rfl,hc.2.1,hc.2.2⟩
    .cases h
   .cases h
  .cases h
 .cases h
structure gX (c:Addr->Option Value) (ps:Addr->Prop) (sz:Nat) (es:List (List D)) (A:Option Addr) (vs:List Value):Prop where
 len:vs.length=es.length*sz
 at_:∀a,A=some a->∀q u,vs[q]?=some u->ps (a.add q)/\c (a.add q)=some u
 one:∀u∈vs,u.oneCell'=true
 some_:es≠[]->∃a,A=some a
 each:∀e∈es,e.length=sz
 read:∀i j (hi:i<es.length) (hj:j<es[i].length),∃u,vs[i*sz+j]?=some u/\RVd c ps es[i][j] u
theorem RVd.flat{c:Addr->Option Value}{ps:Addr->Prop}{sz:Nat}{es:List (List D)}{v:Value}(h:RVd c ps (.sl sz es) v):
    ∃A cap vs,v=.slice A es.length cap/\es.length<=cap/\cap<=maxLen/\gX c ps sz es A vs:=by
  cases h with
  | sl u hcap hmax hsz hA hc hr =>
    rename_i A cap;refine⟨A,cap,(List.range (es.length*sz)).map fun q=>u (q / sz) (q % sz),rfl,hcap,hmax,⟨by simp,?_,?_,hA,hsz,?_⟩⟩
    . intro a ha q x hq
      simp only[List.getElem?_map] at hq;obtain⟨q',hq',rfl⟩:=Option.map_eq_some_iff.1 hq;obtain⟨hlt,rfl⟩:=List.getElem?_eq_some_iff.1 hq';simp at hlt ⊢;have hpos:0<sz:=by
       rcases Nat.eq_zero_or_pos sz with h|h;· subst h;simp at hlt
       . exact h
      have h1:q / sz<es.length:=(Nat.div_lt_iff_lt_mul hpos).2 hlt
      have h2:=hc a ha (q / sz) (q % sz) h1 (Nat.mod_lt _ hpos);rw[Nat.mul_comm,Nat.div_add_mod] at h2;exact h2
    . intro x hx
      simp at hx;obtain⟨q,hlt,rfl⟩:=hx;have hpos:0<sz:=by
       rcases Nat.eq_zero_or_pos sz with h|h;· subst h;simp at hlt
       . exact h
      have h1:q / sz<es.length:=(Nat.div_lt_iff_lt_mul hpos).2 hlt
      have h3:=hsz _ (List.getElem_mem h1);exact(hr (q / sz) (q % sz) h1 (by rw[h3];exact Nat.mod_lt _ hpos)).one
    . intro i j hi hj
      have hl:=hsz _ (List.getElem_mem hi);have hlt:i*sz+j<es.length*sz:=by
        have:(i+1)*sz<=es.length*sz:=Nat.mul_le_mul_right _ (by omega)
        rw[Nat.add_mul] at this;omega
      have e1:(i*sz+j) / sz=i:=by
        rw[Nat.mul_comm,Nat.mul_add_div (by omega),Nat.div_eq_of_lt (by omega)];omega
      have e2:(i*sz+j) % sz=j:=by
        rw[Nat.mul_comm,Nat.mul_add_mod,Nat.mod_eq_of_lt (by omega)]
      exact⟨u i j,by simp[hlt,e1,e2],hr i j hi hj⟩
theorem RVd.of_flat{c:Addr->Option Value}{ps:Addr->Prop}{sz:Nat}{es:List (List D)}{A:Option Addr}{cap:Nat}{vs:List Value}(hcap:es.length<=cap)(hmax:cap<=maxLen)(h:gX c ps sz es A vs):
  RVd c ps (.sl sz es) (.slice A es.length cap):=by
 refine .sl (fun i j=>vs.getD (i*sz+j) default) hcap hmax h.each h.some_ ?_ ?_
 .intro a ha i j hi hj;obtain⟨u,hu,_⟩:=h.read i j hi (by rw[h.each _ (List.getElem_mem hi)];exact hj);obtain⟨h1,h2⟩:=h.at_ a ha _ u hu;refine⟨h1,?_⟩;simp only[List.getD_eq_getElem?_getD,hu,Option.getD_some];exact h2
 .intro i j hi hj;obtain⟨u,hu,hr⟩:=h.read i j hi hj;simp only[List.getD_eq_getElem?_getD,hu,Option.getD_some];exact hr
theorem gX.mono{c c':Addr->Option Value}{ps ps':Addr->Prop}(h:∀a u,ps a->c a=some u->ps' a/\c' a=some u){sz:Nat}{es:List (List D)}{A:Option Addr}{vs:List Value}(r:gX c ps sz es A vs):gX c' ps' sz es A vs where
 len:=r.len
 at_ a ha q u hq:=h _ _ (r.at_ a ha q u hq).1 (r.at_ a ha q u hq).2
 one:=r.one
 some_:=r.some_
 each:=r.each
 read i j hi hj:=let ⟨u,hu,hr⟩:=r.read i j hi hj;⟨u,hu,hr.mono h⟩
def fU(s:ByteArray):List (List D):=s.data.toList.map fun b=>[D.raw (.int .u8 b.toNat)]
theorem aEt(s:ByteArray):(fU s).length=s.size:=by rw[fU,List.length_map,Array.length_toList];rfl
theorem gX.v{c:Addr->Option Value}{ps:Addr->Prop}{sz:Nat}{es:List (List D)}{A:Option Addr}{vs:List Value}(h:gX c ps sz es A vs):cJ c ps sz es vs:=⟨h.len,h.one,h.each,h.read⟩
theorem cJ.bytes(c:Addr->Option Value)(ps:Addr->Prop)(s:ByteArray):cJ c ps 1 (fU s) (Lib.strCells s) where
 len:=by simp[fU,Lib.strCells]
 one:=Lib.strCells_oneCell s
 each e he:=by
  simp only[fU,List.mem_map] at he;obtain⟨b,_,rfl⟩:=he;rfl
 read i j hi hj:=by
  simp only[fU,List.getElem_map,List.length_cons,List.length_nil] at hj ⊢;have hj0:j=0:=by omega
  subst hj0;simp only[fU,List.length_map] at hi;refine⟨.int .u8 (s.data.toList[i]).toNat,?_,.raw rfl⟩;have hi':i<s.data.size:=by simpa using hi
  refine by simp[Lib.strCells];exact⟨_,Array.getElem?_eq_getElem hi',rfl⟩
theorem gX.append{c:Addr->Option Value}{ps:Addr->Prop}{sz:Nat}{es news:List (List D)}{A:Option Addr}{vs us:List Value}(h:gX c ps sz es A vs)(k:cJ c ps sz news us)(a:Addr)(hat:∀q u,(vs++us)[q]?=some u->ps (a.add q)/\c (a.add q)=some u):gX c ps sz (es++news) (some a) (vs++us) where
 len:=by rw[List.length_append,List.length_append,h.len,k.len,Nat.add_mul]
 at_ a' ha' q u hq:=by cases ha';exact hat q u hq
 one u hu:=by
  rcases List.mem_append.1 hu with h1|h1
  .exact h.one u h1
  .exact k.one u h1
 some_ _:=⟨a,rfl⟩
 each e he:=by
  rcases List.mem_append.1 he with h1|h1
  .exact h.each e h1
  .exact k.each e h1
 read i j hi hj:=by
  by_cases hlt:i<es.length
  .simp only[List.getElem_append_left hlt] at hj ⊢;obtain⟨u,hu,hr⟩:=h.read i j hlt hj;refine⟨u,?_,hr⟩;rw[List.getElem?_append_left (List.getElem?_eq_some_iff.1 hu).1];exact hu
  .simp only[List.getElem_append_right (by omega:es.length<=i)] at hj ⊢;obtain⟨u,hu,hr⟩:=k.read (i-es.length) j (by simp at hi;omega) hj;refine⟨u,?_,hr⟩;have e1:i*sz+j=vs.length+((i-es.length)*sz+j):=by
    rw[h.len];have:i=es.length+(i-es.length):=by omega
    conv=>lhs;rw[this]
    rw[Nat.add_mul];omega
   rw[e1,List.getElem?_append_right (by omega),Nat.add_sub_cancel_left];exact hu
theorem gX.resize{c:Addr->Option Value}{ps:Addr->Prop}{sz sz':Nat}{es:List (List D)}{A:Option Addr}{vs:List Value}(h:gX c ps sz es A vs)(hs:sz=sz'∨es=[]):gX c ps sz' es A vs:=by
 rcases hs with rfl|rfl
 .exact h
 .have hv:vs=[]:=List.eq_nil_of_length_eq_zero (by simpa using h.len)
  subst hv;exact⟨by simp,fun a _ q u hq=>by simp at hq,fun u hu=>by simp at hu,fun h=>absurd rfl h,fun e he=>by simp at he,fun i j hi=>by simp at hi⟩
def aH(P:Program)(T:TypeId):Option (List Value):=match (P.info? T).bind (·.zero) with
 | some z=>if z.cells.toList.all (·.oneCell') then some z.cells.toList else none
 | none=>none
theorem cJ.append{c:Addr->Option Value}{ps:Addr->Prop}{sz:Nat}{es news:List (List D)}{vs us:List Value}(h:cJ c ps sz es vs)(k:cJ c ps sz news us):cJ c ps sz (es++news) (vs++us) where
 len:=by rw[List.length_append,List.length_append,h.len,k.len,Nat.add_mul]
 one u hu:=by
  rcases List.mem_append.1 hu with h1|h1
  .exact h.one u h1
  .exact k.one u h1
 each e he:=by
  rcases List.mem_append.1 he with h1|h1
  .exact h.each e h1
  .exact k.each e h1
 read i j hi hj:=by
  by_cases hlt:i<es.length
  .simp only[List.getElem_append_left hlt] at hj ⊢;obtain⟨u,hu,hr⟩:=h.read i j hlt hj;refine⟨u,?_,hr⟩;rw[List.getElem?_append_left (List.getElem?_eq_some_iff.1 hu).1];exact hu
  .simp only[List.getElem_append_right (by omega:es.length<=i)] at hj ⊢;obtain⟨u,hu,hr⟩:=k.read (i-es.length) j (by simp at hi;omega) hj;refine⟨u,?_,hr⟩;have e1:i*sz+j=vs.length+((i-es.length)*sz+j):=by
    rw[h.len];have:i=es.length+(i-es.length):=by omega
    conv=>lhs;rw[this]
    rw[Nat.add_mul];omega
   rw[e1,List.getElem?_append_right (by omega),Nat.add_sub_cancel_left];exact hu
theorem cJ.none_(c:Addr->Option Value)(ps:Addr->Prop)(sz:Nat):cJ c ps sz [] []:=⟨by simp,fun u hu=>by simp at hu,fun e he=>by simp at he,fun i j hi=>by simp at hi⟩
def aCf(P:Program)(o:Oper)(ρ:Operand->AV)(tok:Tks)(nt:Nat)(v:AV)(tok':Nat->Bool)(nt':Nat):Prop:=match o.op with
 | .call c=>match c.callee,c.args.toList,c.argTypes.toList with
  | .builtin .append,[s,x],[T,T']=>match aW P T,ρ s,(ρ x).elems? with
   | some (_,sz,by'),.osl sz0 es own,some (sz1,news) =>
    T'=T/\(sz0=sz∨es=[]/\own=.full)/\(sz1=sz∨news=[])/\(es.length+news.length)*by'<=140737488355328/\own.live tok=true /\
     v=.osl sz (es++news) (.tok nt)/\tok'=upd (own.kill tok) nt true/\nt'=nt+1
   | _,_,_=>False
  | _,_,_=>False
 | _=>False
def aKd(P:Program)(T T':TypeId)(s x:AV)(tok:Tks)(nt:Nat):Option (Prop × AV × (Nat->Bool)):=match aW P T,s with
 | some (E,sz,by'),.stk t sz0 es=>match x.elems? with
  | some (sz1,news)=>some (T'=T/\sz0=sz/\(sz1=sz∨news=[])/\(aH P E).isSome=true/\(es.length+news.length)*by'<=140737488355328/\tok t=true,.stk nt sz (es++news),upd (upd tok t false) nt true)
  | none=>none
 | some (E,sz,by'),.que t sz0 es=>match x.elems? with
  | some (sz1,news)=>some (T'=T/\sz0=sz/\sz1=sz/\news≠[]/\(es.length+news.length)*by'<=140737488355328/\tok t=true,.que nt sz (es++news),upd (upd tok t false) nt true)
  | none=>none
 | some (_,sz,by'),.osl sz0 es own=>match x with
  | .stk t sz1 news=>some (T'=T/\(sz0=sz∨es=[]/\own=.full)/\sz1=sz/\(es.length+news.length)*by'<=140737488355328/\own.live tok=true/\tok t=true,.osl sz (es++news) (.tok nt),upd (own.kill tok) nt true)
  | _=>none
 | _,_=>none
def aJx(P:Program)(T T':TypeId)(s x:AV)(tok:Tks)(nt:Nat):Option (Prop × AV × (Nat->Bool)):=match x with
 | .d (.raw (.string str))=>match aW P T,s with
  | some (E,sz,by'),.osl _ [] .full=>some (aY P T'=true/\sz=1/\0<str.size/\str.size*by'<=140737488355328,.buf E nt (fU str),upd tok nt true)
  | some (E,sz,by'),.buf E' t es=>some (aY P T'=true/\sz=1/\E'=E/\(es.length+str.size)*by'<=140737488355328/\tok t=true,.buf E nt (es++fU str),upd (upd tok t false) nt true)
  | _,_=>none
 | x=>aKd P T T' s x tok nt
def aIt(P:Program)(o:Oper)(ρ:Operand->AV)(tok:Tks)(nt:Nat)(v:AV)(tok':Nat->Bool)(nt':Nat):Prop:=match o.op with
 | .call c=>match c.callee,c.args.toList,c.argTypes.toList with
  | .builtin .append,[s,x],[T,T']=>∃ φ,aJx P T T' (ρ s) (ρ x) tok nt=some (φ,v,tok')/\φ/\nt'=nt+1
  | _,_,_=>False
 | _=>False
def aLx(es:List (ByteArray × List (List D) × Own))(s:ByteArray):AV:=match es.find? fun e=>decide (e.1=s) with
 | some e=>.osl 1 e.2.1 e.2.2
 | none=>.osl 0 [] .full
def aHJ(es:List (ByteArray × List (List D)))(s:ByteArray):AV:=match es.find? fun e=>decide (e.1=s) with
 | some e=>.d (.sl 1 e.2)
 | none=>.osl 0 [] .full
def aD4(P:Program)(T:TypeId):Bool:=match P.underlying T with
 | some (.map kt et)=>(match P.underlying kt with|some .string=>true|_=>false)&&(match P.info? et with|some i=>(match i.zero with|some (.slice none 0 0)=>true|_=>false)|none=>false)
 | _=>false
def fM(P:Program)(o:Oper)(ρ:Operand->AV)(tok:Tks)(nt:Nat):Option (Prop × AV × (Nat->Bool) × Nat):=match o.op with
 | .makeMap _ none=>some (True,.mp nt [],upd tok nt true,nt+1)
 | .lookup T m k false=>match ρ m,ρ k with
  | .mp t es,.d (.raw (.string s))=>some (aD4 P T=true/\tok t=true,aLx es s,tok,nt)
  | .mpd es,.d (.raw (.string s))=>some (aD4 P T=true,aHJ es s,tok,nt)
  | _,_=>none
 | _=>none
def aPp(P:Program)(o:Oper)(ρ:Operand->AV)(tok:Tks)(nt:Nat)(v:AV)(tok':Nat->Bool)(nt':Nat):Prop:=∃ φ,fM P o ρ tok nt=some (φ,v,tok',nt')/\φ
def aEi(P:Program)(o:Oper)(ρ:Operand->AV)(tok:Tks)(nt:Nat)(v:AV)(tok':Nat->Bool)(nt':Nat):Prop:=aCf P o ρ tok nt v tok' nt'∨aIt P o ρ tok nt v tok' nt'∨aPp P o ρ tok nt v tok' nt'
structure Src (P:Program) (w:World) (T T' ty E:TypeId) (i:TypeInfo) (z:Value) (xv:Value) (n:Nat) (us:List Value):Prop where
 none_:n=0->∀(A:Option Addr) (k cap:Nat),k<=cap->(Builtin.append_ #[T,T'] ty #[.slice A k cap,xv]).run P w=.ok (.slice A k cap) w
 room:0<n->∀(g sLen sCap:Nat) (cur:Array Value) (e':TypeId),w.heap[g]?=some (.cells cur e' (0,0))->sLen+n<=sCap->sLen*i.size+us.length<=cur.size ->
  (Builtin.append_ #[T,T'] ty #[.slice (some ⟨g,0,none⟩) sLen sCap,xv]).run P w=.ok (.slice (some ⟨g,0,none⟩) (sLen+n) sCap) (w.setRow g (cur.toList.take (sLen*i.size)++us++cur.toList.drop (sLen*i.size+us.length)).toArray)
 grow:0<n->∀(b:Addr) (sLen sCap:Nat) (olds:List Value),olds.length=sLen*i.size->(∀j v,olds[j]?=some v->w.cell? (b.add j)=some v)->sCap<sLen+n->((sLen+n:Nat):Int)<=9223372036854775807 ->
  Builtin.nextslicecap (sLen+n) sCap*i.bytes<=281474976710656 ->
  (Builtin.append_ #[T,T'] ty #[.slice (some b) sLen sCap,xv]).run P w=.ok (.slice (some ⟨w.heap.size,0,none⟩) (sLen+n) (grownCap w (sLen+n) sCap E))
   (w.drew.alloc (.cells (olds.toArray++us.toArray++Builtin.zeroCells z.cells (grownCap w (sLen+n) sCap E-(sLen+n))) E))
 nil_:0<n->(n:Int)<=9223372036854775807->n*i.bytes<=281474976710656 ->
  (Builtin.append_ #[T,T'] ty #[.slice none 0 0,xv]).run P w=.ok (.slice (some ⟨w.heap.size,0,none⟩) n (grownCap w n 0 E)) (w.drew.alloc (.cells (us.toArray++Builtin.zeroCells z.cells (grownCap w n 0 E-n)) E))
theorem lL(t ty E:TypeId)(i:TypeInfo)(w:World)(ht:P.underlying t=some (.slice E))(hi:P.info? E=some i)(A B:Option Addr)(n cap c:Nat)(hn:n<=cap):
  (Builtin.append_ #[t,t] ty #[.slice A n cap,.slice B 0 c]).run P w=.ok (.slice A n cap) w:=by
 cases A<;>cases B<;>simp[Builtin.append_,run_underlying ht,sizeOf,typeInfo,hi,Builtin.lenOf,Builtin.firstCells,loadCells,loadCellsFrom,hn,storeCells]
theorem kG(t ty e e':TypeId)(i:TypeInfo)(w:World)(ht:P.underlying t=some (.slice e))(hi:P.info? e=some i)(g sLen sCap:Nat)(cur:Array Value)(hg:w.heap[g]?=some (.cells cur e' (0,0)))(a:Addr)(m c:Nat)(news:List Value)(hl:news.length=m*i.size)(hnews:∀j u,news[j]?=some u->w.cell? (a.add j)=some u)(h1:∀u∈news,u.oneCell'=true)(hroom:sLen+m<=sCap)(hfit:sLen*i.size+news.length<=cur.size):
  (Builtin.append_ #[t,t] ty #[.slice (some ⟨g,0,none⟩) sLen sCap,.slice (some a) m c]).run P w =
   .ok (.slice (some ⟨g,0,none⟩) (sLen+m) sCap) (w.setRow g (cur.toList.take (sLen*i.size)++news++cur.toList.drop (sLen*i.size+news.length)).toArray):=by
 have hf:=run_firstCells_some (P:=P) w i.size m a m c news hl hnews;have hst:=run_storeCells_at P g (sLen*i.size) e' news 0 cur w hg (by simpa using hfit) h1;simp only[Nat.add_zero] at hst;simp[Builtin.append_,run_underlying ht,sizeOf,typeInfo,hi,Builtin.lenOf,hroom,hf,Addr.add_lit,hst]
theorem dJ.imp{o:Oper}{ρv:Operand->Value}{G:Gh}{w:World}{R R':Value->Gh->World->Prop}(h:dJ P o ρv G w R)(k:∀u G' w',R u G' w'->R' u G' w'):dJ P o ρv G w R':=by
 obtain⟨nx,u,G',w',h1,h2,h3,h4⟩:=h;exact⟨nx,u,G',w',h1,h2,h3,k _ _ _ h4⟩
theorem nW{o:Oper}{ρv:Operand->Value}{G:Gh}{m:bH}{w:World}{c:Call}{s x:Operand}{T T' E:TypeId}{i:TypeInfo}{z:Value}{sz by' sz0:Nat}{es news:List (List D)}{own:Own}{xv:Value}{us:List Value}(ho:o.op=.call c)(hcal:c.callee=.builtin .append)(hargs:c.args.toList=[s,x])(htys:c.argTypes.toList=[T,T'])(hE:P.underlying T=some (.slice E))(hi:P.info? E=some i)(hz:i.zero=some z)(hzs:z.cells.size=sz)(his:i.size=sz)(hib:i.bytes=by')(hszp:0<sz)(hbyp:0<by')(hsz0:sz0=sz∨es=[]/\own=.full)(hbytes:(es.length+news.length)*by'<=140737488355328)(hlive:own.live m.tok=true)(hs:RV G w (.osl sz0 es own) (ρv s))(hxv:ρv x=xv)(hfx':cJ w.cell? G.ps sz news us)(hsrc:Src P w T T' o.type E i z xv news.length us)(hm:aV G m w):
    dJ P o ρv G w fun u G' w'=>RV G' w' (.osl sz (es++news) (.tok m.nt)) u/\aV G' { m with tok:=upd (own.kill m.tok) m.nt true,nt:=m.nt+1 } w'/\G'.bx=G.bx/\((news≠[]∨∃t g,own=.tok t/\G.tk t=some (some g))->G'.tk m.nt≠some none)/\((∀t g,own=.tok t->G.tk t=some (some g)->∃cs f,w.heap[g]?=some (.cells cs E f))->∀g',G'.tk m.nt=some (some g')->∃cs f,w'.heap[g']?=some (.cells cs E f)):=by
  generalize hsv:ρv s=sv at hs
  -- the operation is one run of append
  have hexec:∀u w',(Builtin.append_ #[T,T'] o.type #[sv,xv]).run P w=.ok u w'->(execOp ρv o).run P w=.ok (.value u) w':=by
    intro u w' hr;have ha:c.args = #[s,x]:=by rw[<-Array.toArray_toList (xs:=c.args),hargs]
    have hb:c.argTypes = #[T,T']:=by rw[<-Array.toArray_toList (xs:=c.argTypes),htys]
    simp only[execOp,ho,resolve,hcal,ha,hb,List.map_toArray,List.map_cons,List.map_nil,hsv,hxv,Sem.run_bind,Sem.run_pure,Result.andThen_ok,invoke,builtin,hr]
  cases hs with
  | osl hsd hown =>
    obtain⟨A,cap,vs,rfl,hcap,hmax,hf⟩:=hsd.flat;have hf':gX w.cell? G.ps sz es A vs:=hf.resize (hsz0.imp id And.left)
    have hle47:es.length+news.length<=140737488355328:=Nat.le_trans (Nat.le_mul_of_pos_right _ hbyp) hbytes
    have hmk:=hm.kill own;have hlk:=Le.kill (G:=G) (w:=w) own;have hntk:(G.kill own).nt=G.nt:=by cases own<;>rfl
    have hbxk:(G.kill own).bx=G.bx:=by cases own<;>rfl
    have hmnt:=hm.nt
    -- what follows once the memory is laid
    by_cases hm0:news=[]
    . -- nothing to append
      subst hm0;have hus:us=[]:=List.eq_nil_of_length_eq_zero (by simpa using hfx'.len)
      have hr:=hsrc.none_ rfl A es.length cap hcap;have hshape:∃x,(∀g,x=some g->G.kind g=.part (es.length*sz) (cap*sz)/\A=some ⟨g,0,none⟩/\∃t,own=.tok t/\G.tk t=some (some g))/\(x=none->cap=es.length)/\(∀t g,own=.tok t->G.tk t=some (some g)->x=some g):=by
        cases own with
        | full =>
          obtain⟨A',hA',_⟩:=hown;injection hA' with _ _ h3
          exact⟨none,(fun g hg=>by cases hg),fun _=>h3,fun t g e _=>by cases e⟩
        | tok t =>
          obtain⟨_,y,hy⟩:=hm.toks t hlive;have hk:=hown.2 y hy;cases y with
          | none =>
            obtain⟨A',hA'⟩:=hk;injection hA' with _ _ h3
            exact⟨none,(fun g hg=>by cases hg),fun _=>h3,fun t' g e h=>by cases e;rw[hy] at h;cases h⟩
          | some g =>
            obtain⟨cap',hv,hkg⟩:=hk;injection hv with h1 _ h3
            subst h3;have:sz0=sz:=by
             rcases hsz0 with h|⟨_,h⟩;· exact h
             . cases h
            subst this;exact⟨some g,fun g' hg'=>by cases hg';exact⟨hkg,h1,t,rfl,hy⟩,(fun h=>by cases h),fun t' g' e h=>by cases e;rw[hy] at h;cases h;rfl⟩
      obtain⟨x0,hx0,hx1,hx2⟩:=hshape;have hnew:=hmk.newtok x0 (fun g hg=>by
        obtain⟨hk,_,t,rfl,ht⟩:=hx0 g hg;refine⟨fun t' ht'=>?_,?_⟩
        . simp only[Gh.kill] at ht'
          by_cases e:t'=t
          . subst e;simp[uS] at ht'
          . rw[uO _ _ e] at ht'
            exact e (hm.tinj t' t g ht' ht)
        . obtain⟨f,cur,e,h1,h2⟩:=hm.tokb t g ht
          exact⟨f,cur,e,h1,h2⟩)
      have hln:=Le.newtok (G:=G.kill own) (w:=w) x0;refine⟨.value _,_,(G.kill own).newtok x0,w,hexec _ _ hr,.inl rfl,hlk.trans hln,?_,hnew,by simp[Gh.newtok,hbxk],fun hn=>?_,fun hE0 g' hg'=>?_⟩
      rotate_left 1
      . rcases hn with hn|⟨t,g,rfl,ht⟩
        . exact absurd rfl hn
        . cases x0 with
          | some g0=>simp[Gh.newtok,hntk,hmnt,uS]
          | none=>exact absurd (hx2 _ _ rfl ht) (by simp)
      . simp only[Gh.newtok,hntk,hmnt,uS,Option.some.injEq] at hg'
        obtain⟨_,_,t,e1,e2⟩:=hx0 g' hg';exact hE0 t g' e1 e2
      have hd:RVd w.cell? ((G.kill own).newtok x0).ps (.sl sz (es++[])) (.slice A es.length cap):=by
        simp only[List.append_nil];exact .of_flat hcap hmax (hf'.mono (hlk.trans hln).cells)
      refine .osl hd ⟨by simp only[Gh.newtok,hntk];omega,fun y hy=>?_⟩;simp only[Gh.newtok,hntk,hmnt,uS,Option.some.injEq] at hy;subst hy;cases x0 with
      | none=>simp only[List.append_nil];rw[hx1 rfl];exact⟨A,rfl⟩
      | some g =>
        obtain⟨hk,hA,t,rfl,ht⟩:=hx0 g rfl;subst hA;simp only[List.append_nil];exact⟨cap,rfl,hk⟩
    . -- something to append
      have hmpos:0<news.length:=List.length_pos_iff.2 hm0
      have husl:us.length=news.length*i.size:=by rw[his];exact hfx'.len
      have hvsl:vs.length=es.length*i.size:=by rw[his];exact hf'.len
      -- where a new array is made
      have grow:∀cp,(Builtin.append_ #[T,T'] o.type #[.slice A es.length cap,xv]).run P w =
          .ok (.slice (some ⟨w.heap.size,0,none⟩) (es.length+news.length) cp) (w.drew.alloc (.cells (vs.toArray++us.toArray++Builtin.zeroCells z.cells (cp-(es.length+news.length))) E)) ->
          es.length+news.length<=cp->cp<=maxLen ->
          dJ P o ρv G w fun u G' w'=>RV G' w' (.osl sz (es++news) (.tok m.nt)) u/\aV G' { m with tok:=upd (own.kill m.tok) m.nt true,nt:=m.nt+1 } w'/\G'.bx=G.bx/\((news≠[]∨∃t g,own=.tok t/\G.tk t=some (some g))->G'.tk m.nt≠some none)/\((∀t g,own=.tok t->G.tk t=some (some g)->∃cs f,w.heap[g]?=some (.cells cs E f))->∀g',G'.tk m.nt=some (some g')->∃cs f,w'.heap[g']?=some (.cells cs E f)):=by
        intro cp hr hge hcm;have hmd:=hmk.drew
        let obj:Obj:=.cells (vs.toArray++us.toArray++Builtin.zeroCells z.cells (cp-(es.length+news.length))) E
        have hp:=hmd.newpart ((es.length+news.length)*sz) (cp*sz) obj;have hlp:=Le.newpart hmd ((es.length+news.length)*sz) (cp*sz) obj;have hcs:(vs.toArray++us.toArray++Builtin.zeroCells z.cells (cp-(es.length+news.length))).size=cp*sz:=by
          simp only[Array.size_append,List.size_toArray,size_zeroCells,hzs,hvsl,husl,his,<-Nat.add_mul];congr 1
          omega
        have hnew:=hp.newtok (some w.heap.size) (fun g hg=>by
          cases hg;refine⟨fun t ht=>?_,(es.length+news.length)*sz,vs.toArray++us.toArray++Builtin.zeroCells z.cells (cp-(es.length+news.length)),_,?_,heap_alloc_new w.drew _⟩
          . have:=hmk.tlt t _ (by simpa[Gh.setKind] using ht)
            omega
          . rw[hcs]
            refine .inl ⟨?_,E,rfl⟩;show upd _ w.heap.size _ w.heap.size=_
            rw[uS])
        have hln:=Le.newtok (G:=(G.kill own).setKind w.heap.size (.part ((es.length+news.length)*sz) (cp*sz))) (w:=w.drew.alloc obj) (some w.heap.size);have hall:=(hlk.trans Le.drew).trans (hlp.trans hln);refine⟨.value _,_,_,_,hexec _ _ hr,.inl rfl,hall,?_,hnew,by simp[Gh.newtok,Gh.setKind,hbxk],fun _=>by simp[Gh.newtok,Gh.setKind,hntk,hmnt,uS],fun _ g' hg'=>by
          simp only[Gh.newtok,Gh.setKind,hntk,hmnt,uS,Option.some.injEq] at hg';subst hg';exact⟨_,_,heap_alloc_new w.drew _⟩⟩
        have hlenT:(vs++us).length=(es.length+news.length)*sz:=by rw[List.length_append,hvsl,husl,his,Nat.add_mul]
        have hflat:gX (w.drew.alloc obj).cell? (Gh.ps (((G.kill own).setKind w.heap.size (.part ((es.length+news.length)*sz) (cp*sz))).newtok (some w.heap.size))) sz (es++news) (some ⟨w.heap.size,0,none⟩) (vs++us):=by
          refine(hf'.mono hall.cells).append (hfx'.mono hall.cells) _ (fun q u hq=>?_);have hlt:q<(vs++us).length:=(List.getElem?_eq_some_iff.1 hq).1
          rw[bK];refine⟨?_,?_⟩
          . show (match upd (G.kill own).kind w.heap.size (BK.part ((es.length+news.length)*sz) (cp*sz)) w.heap.size with|.whole=>True|.part f _=>0+q<f|.box=>False|.ex=>False)
            rw[uS];show 0+q<_
            omega
          . rw[cell_of_row _ w.heap.size (0+q) (vs.toArray++us.toArray++Builtin.zeroCells z.cells (cp-(es.length+news.length))) E (0,0) (heap_alloc_new w.drew _)]
            rw[Nat.zero_add,Array.getElem?_append_left (by simpa using hlt)];simpa using hq
        have:=RVd.of_flat (cap:=cp) (by simpa using hge) hcm hflat
        rw[List.length_append] at this;refine .osl this ⟨by simp only[Gh.newtok,Gh.setKind,hntk];omega,fun y hy=>?_⟩;simp only[Gh.newtok,Gh.setKind,hntk,hmnt,uS,Option.some.injEq] at hy;subst hy;refine⟨cp,by simp,?_⟩;simp only[Gh.newtok,Gh.setKind,uS,List.length_append]
      have growA:cap<es.length+news.length->dJ P o ρv G w fun u G' w'=>RV G' w' (.osl sz (es++news) (.tok m.nt)) u/\aV G' { m with tok:=upd (own.kill m.tok) m.nt true,nt:=m.nt+1 } w'/\G'.bx=G.bx/\((news≠[]∨∃t g,own=.tok t/\G.tk t=some (some g))->G'.tk m.nt≠some none)/\((∀t g,own=.tok t->G.tk t=some (some g)->∃cs f,w.heap[g]?=some (.cells cs E f))->∀g',G'.tk m.nt=some (some g')->∃cs f,w'.heap[g']?=some (.cells cs E f)):=by
        intro hcl;have hge:=grownCap_ge w (es.length+news.length) cap E;have hcm:=grownCap_le_maxLen w (es.length+news.length) cap E (by unfold maxLen;omega);cases A with
        | some b =>
          exact grow _ (hsrc.grow hmpos b es.length cap vs hvsl (fun q u hq=>(hf'.at_ b rfl q u hq).2) hcl (by omega) (growslice_fits hcl (by rw[hib];exact hbytes))) hge hcm
        | none =>
          have hes:es=[]:=Classical.byContradiction fun h=>by obtain⟨b,hb⟩:=hf'.some_ h;cases hb
          subst hes;have hvs:vs=[]:=List.eq_nil_of_length_eq_zero (by simpa using hvsl)
          subst hvs;have hc0:cap=0:=by
            cases own with
            | full=>obtain⟨A',hA',_⟩:=hown;injection hA' with _ _ h3
            | tok t =>
              obtain⟨_,y,hy⟩:=hm.toks t hlive;have hk:=hown.2 y hy;cases y with
              | none=>obtain⟨A',hA'⟩:=hk;injection hA' with _ _ h3
              | some g=>obtain⟨cap',hv,hkg⟩:=hk;injection hv with h1;cases h1
          subst hc0;have hr:=hsrc.nil_ hmpos (by omega) (by rw[hib];simp only[List.length_nil,Nat.zero_add] at hbytes;omega);simp only[List.length_nil,Nat.zero_add] at grow hge hcm ⊢;refine grow _ ?_ hge hcm;simpa using hr
      by_cases hroom:es.length+news.length<=cap
      . -- there is room: only a token's block has it
        have hblk:∃t g,own=.tok t/\G.tk t=some (some g)/\A=some ⟨g,0,none⟩/\G.kind g=.part (es.length*sz) (cap*sz):=by
          cases own with
          | full=>obtain⟨A',hA',_⟩:=hown;injection hA' with _ _ h3;omega
          | tok t =>
            obtain⟨_,y,hy⟩:=hm.toks t hlive;have hk:=hown.2 y hy;cases y with
            | none=>obtain⟨A',hA'⟩:=hk;injection hA' with _ _ h3;omega
            | some g =>
              obtain⟨cap',hv,hkg⟩:=hk;injection hv with h1 _ h3
              subst h3;have:sz0=sz:=by
               rcases hsz0 with h|⟨_,h⟩;· exact h
               . cases h
              subst this;exact⟨t,g,rfl,hy,h1,hkg⟩
        obtain⟨t,g,rfl,ht,rfl,hkg⟩:=hblk;obtain⟨f,cur,o',hkg',hg⟩:=hm.tokb t g ht;rw[hkg] at hkg';rcases hkg' with ⟨hkg',e',rfl⟩|hkg'
        case inr=>cases hkg'
        injection hkg' with hf1 hc1
        have hfit:es.length*i.size+us.length<=cur.size:=by
          rw[husl,<-Nat.add_mul,<-hc1,his];exact Nat.mul_le_mul_right _ hroom
        have hr:=hsrc.room hmpos g es.length cap cur e' hg hroom hfit;rw[his] at hr hfit;have hnot:∀t',(G.kill (.tok t)).tk t'≠some (some g):=by
          intro t' ht';simp only[Gh.kill] at ht';by_cases e:t'=t
          . subst e;simp[uS] at ht'
          . rw[uO _ _ e] at ht'
            exact e (hm.tinj t' t g ht' ht)
        let new:Array Value:=(cur.toList.take (es.length*sz)++us++cur.toList.drop (es.length*sz+us.length)).toArray
        have e1:cur.toList.length=cur.size:=by simp
        have hlt:(List.take (es.length*sz) cur.toList).length=es.length*sz:=by rw[List.length_take];omega
        have hsame:∀q,q<es.length*sz->new[q]?=cur[q]?:=by
          intro q hq;simp only[new,List.getElem?_toArray];rw[List.append_assoc,List.getElem?_append_left (by omega),List.getElem?_take_of_lt hq];simp
        have hfl:=hmk.fill (g:=g) (f:=es.length*sz) (f':=(es.length+news.length)*sz) (c:=cap*sz) hkg (Nat.mul_le_mul_right _ (by omega)) hnot hg hsame;have hlfl:=Le.fill (G:=G.kill (.tok t)) (w:=w) (g:=g) (f:=es.length*sz) (f':=(es.length+news.length)*sz) (c:=cap*sz) hkg (Nat.mul_le_mul_right _ (by omega)) hnot hg hsame;have hns:new.size=cap*sz:=by
          simp only[new,List.size_toArray,List.length_append,List.length_take,List.length_drop,Array.length_toList];omega
        have hnew:=hfl.newtok (some g) (fun g' hg'=>by
          cases hg'
          refine⟨fun t' ht'=>hnot t' ht',(es.length+news.length)*sz,new,_,?_,setRow_heap w g cur new e' (0,0) hg⟩;rw[hns];refine .inl ⟨?_,e',rfl⟩;show upd _ g _ g=_
          rw[uS])
        have hln:=Le.newtok (G:=(G.kill (.tok t)).setKind g (.part ((es.length+news.length)*sz) (cap*sz))) (w:=w.setRow g new) (some g);have hall:=hlk.trans (hlfl.trans hln);refine⟨.value _,_,_,_,hexec _ _ hr,.inl rfl,hall,?_,hnew,by simp[Gh.newtok,Gh.setKind,hbxk],fun _=>by simp[Gh.newtok,Gh.setKind,hntk,hmnt,uS],fun hE0 g' hg'=>by
          simp only[Gh.newtok,Gh.setKind,hntk,hmnt,uS,Option.some.injEq] at hg';subst hg';obtain⟨c0,f0,h0⟩:=hE0 t g rfl ht;exact nS w g g new c0 E f0 h0⟩
        have hlenT:(vs++us).length=(es.length+news.length)*sz:=by rw[List.length_append,hvsl,husl,his,Nat.add_mul]
        have hflat:gX (w.setRow g new).cell? (Gh.ps (((G.kill (.tok t)).setKind g (.part ((es.length+news.length)*sz) (cap*sz))).newtok (some g))) sz (es++news) (some ⟨g,0,none⟩) (vs++us):=by
          refine(hf'.mono hall.cells).append (hfx'.mono hall.cells) _ (fun q u hq=>?_);have hqlt:q<(vs++us).length:=(List.getElem?_eq_some_iff.1 hq).1
          rw[bK];refine⟨?_,?_⟩
          . show (match upd (G.kill (.tok t)).kind g (BK.part ((es.length+news.length)*sz) (cap*sz)) g with|.whole=>True|.part f _=>0+q<f|.box=>False|.ex=>False)
            rw[uS];show 0+q<_
            omega
          . rw[cell_setRow_same w g (0+q) cur new e' (0,0) hg,Nat.zero_add]
            by_cases hql:q<vs.length
            . rw[List.getElem?_append_left hql] at hq
              rw[hsame q (by rw[<-hf'.len];exact hql)];have:=(hf'.at_ ⟨g,0,none⟩ rfl q u hq).2
              rw[bK,cell_of_row w g _ cur e' (0,0) hg,Nat.zero_add] at this;exact this
            . rw[List.getElem?_append_right (by omega)] at hq
              have hql':q-vs.length<us.length:=(List.getElem?_eq_some_iff.1 hq).1
              simp only[new,List.getElem?_toArray];rw[List.append_assoc,List.getElem?_append_right (by rw[hlt,<-hf'.len];omega),hlt,<-hf'.len,List.getElem?_append_left hql'];exact hq
        have:=RVd.of_flat (cap:=cap) (by simpa using hroom) hmax hflat
        rw[List.length_append] at this;refine .osl this ⟨by simp only[Gh.newtok,Gh.setKind,hntk];omega,fun y hy=>?_⟩;simp only[Gh.newtok,Gh.setKind,hntk,hmnt,uS,Option.some.injEq] at hy;subst hy;refine⟨cap,by simp,?_⟩;simp only[Gh.newtok,Gh.setKind,uS,List.length_append]
      . exact growA (by omega)
theorem aHW{E:TypeId}{i:TypeInfo}{z:Value}(h:(aH P E).isSome=true)(hi:P.info? E=some i)(hz:i.zero=some z):∀u∈z.cells.toList,u.oneCell'=true:=by
 unfold aH at h;rw[hi,Option.bind_some,hz] at h;simp only at h;split at h
 .rename_i h1;exact fun u hu=>List.all_eq_true.1 h1 u hu
 .cases h
theorem xZ{z:Array Value}{n:Nat}{u:Value}(h:u∈(Builtin.zeroCells z n).toList):u∈z.toList:=by
 simp only[Builtin.zeroCells,Array.toList_map,List.mem_map] at h;obtain⟨i,hi,rfl⟩:=h;have hi:i<n*z.size:=by simpa using hi
 have hp:0<z.size:=by
  rcases Nat.eq_zero_or_pos z.size with h|h
  .rw[h] at hi;omega
  .exact h
 have hm:=Nat.mod_lt i hp;rw[getElem!_pos z _ hm];exact Array.getElem_mem_toList hm
theorem aC1{o:Oper}{ρv:Operand->Value}{G:Gh}{m:bH}{w:World}{c:Call}{s x:Operand}{T T' E:TypeId}{i:TypeInfo}{z:Value}{sz by' t:Nat}{es news:List (List D)}{xv:Value}{us:List Value}(ho:o.op=.call c)(hcal:c.callee=.builtin .append)(hargs:c.args.toList=[s,x])(htys:c.argTypes.toList=[T,T'])(hE:P.underlying T=some (.slice E))(hi:P.info? E=some i)(hz:i.zero=some z)(hzs:z.cells.size=sz)(his:i.size=sz)(hib:i.bytes=by')(hszp:0<sz)(hbyp:0<by')(hzo:∀u∈z.cells.toList,u.oneCell'=true)(hbytes:(es.length+news.length)*by'<=140737488355328)(hlive:m.tok t=true)(hs:yQ G w t sz es (ρv s))(hxv:ρv x=xv)(hfx':cJ w.cell? G.ps sz news us)(hsrc:Src P w T T' o.type E i z xv news.length us)(hm:aV G m w):
  dJ P o ρv G w fun u G' w'=>RV G' w' (.stk m.nt sz (es++news)) u/\aV G' { m with tok:=upd (upd m.tok t false) m.nt true,nt:=m.nt+1 } w'/\G'.bx=G.bx:=by
 generalize hsv:ρv s=sv at hs;have hexec:∀u w',(Builtin.append_ #[T,T'] o.type #[sv,xv]).run P w=.ok u w'->(execOp ρv o).run P w=.ok (.value u) w':=by
  intro u w' hr;have ha:c.args = #[s,x]:=by rw[<-Array.toArray_toList (xs:=c.args),hargs]
  have hb:c.argTypes = #[T,T']:=by rw[<-Array.toArray_toList (xs:=c.argTypes),htys]
  simp only[execOp,ho,resolve,hcal,ha,hb,List.map_toArray,List.map_cons,List.map_nil,hsv,hxv,Sem.run_bind,Sem.run_pure,Result.andThen_ok,invoke,builtin,hr]
 obtain⟨htlt,A,cap,rfl,hcap,hmax,hst⟩:=hs;obtain⟨_,y,hy⟩:=hm.toks t hlive;have hst:=hst y hy;have hle47:es.length+news.length<=140737488355328:=Nat.le_trans (Nat.le_mul_of_pos_right _ hbyp) hbytes
 have hmk:=hm.kill (.tok t);have hlk:=Le.kill (G:=G) (w:=w) (.tok t);have hmnt:=hm.nt;have hgtk:∀q,(G.kill (.tok t)).tk q≠none->q≠t:=fun q hq e=>by subst e;exact hq (by simp[Gh.kill,uS])
 have hnot:∀g,y=some g->∀t',(G.kill (.tok t)).tk t'≠some (some g):=by
  intro g hg t' ht';have hne:=hgtk t' (by rw[ht'];simp);simp only[Gh.kill] at ht';rw[uO _ _ hne] at ht';exact hne (hm.tinj t' t g ht' (hg ▸ hy))
 obtain⟨vs,hf,hsome,hnone⟩:∃vs,cJ w.cell? G.ps sz es vs/\(∀g,y=some g->A=some ⟨g,0,none⟩/\∃sp e,G.kind g=.ex/\w.heap[g]?=some (.cells (vs++sp).toArray e (0,0))/\(vs++sp).length=cap*sz/\∀u∈sp,u.oneCell'=true)/\(y=none->es=[]/\cap=0/\vs=[]):=by
  cases y with
  | none =>
   have hes:es=[]:=List.eq_nil_of_length_eq_zero (by have:cap=0:=hst;omega)
   subst hes;exact⟨[],cJ.none_ _ _ _,(fun g h=>by cases h),fun _=>⟨rfl,hst,rfl⟩⟩
  | some g =>
   obtain⟨hA,vs,sp,e,h1,h2,h3,h4,h5⟩:=hst;exact⟨vs,h4,fun g' h=>by cases h;exact⟨hA,sp,e,h1,h2,h3,h5⟩,fun h=>by cases h⟩
 by_cases hm0:news=[]
 .subst hm0;have hr:=hsrc.none_ rfl A es.length cap hcap;have hnew:=hmk.newtok y (fun g hg=>⟨hnot g hg,by
   subst hg;exact hm.tokb t g hy⟩)
  have hln:=Le.newtok (G:=G.kill (.tok t)) (w:=w) y;refine⟨.value _,_,(G.kill (.tok t)).newtok y,w,hexec _ _ hr,.inl rfl,hlk.trans hln,?_,hnew,rfl⟩;rw[List.append_nil];refine .stk ⟨by simp only[Gh.newtok,Gh.kill];omega,A,cap,rfl,hcap,hmax,fun q hq=>?_⟩;simp only[Gh.newtok,Gh.kill,hmnt,uS,Option.some.injEq] at hq;subst hq;cases y with
  | none=>exact(hnone rfl).2.1
  | some g =>
   obtain⟨hA,sp,e,h1,h2,h3,h5⟩:=hsome g rfl;exact⟨hA,vs,sp,e,h1,h2,h3,hf.mono (hlk.trans hln).cells,h5⟩
 .have hmpos:0<news.length:=List.length_pos_iff.2 hm0
  have husl:us.length=news.length*i.size:=by rw[his];exact hfx'.len
  have hvsl:vs.length=es.length*i.size:=by rw[his];exact hf.len
  have grow:∀cp,(Builtin.append_ #[T,T'] o.type #[.slice A es.length cap,xv]).run P w =
    .ok (.slice (some ⟨w.heap.size,0,none⟩) (es.length+news.length) cp) (w.drew.alloc (.cells (vs.toArray++us.toArray++Builtin.zeroCells z.cells (cp-(es.length+news.length))) E)) ->
    es.length+news.length<=cp->cp<=maxLen ->
    dJ P o ρv G w fun u G' w'=>RV G' w' (.stk m.nt sz (es++news)) u/\aV G' { m with tok:=upd (upd m.tok t false) m.nt true,nt:=m.nt+1 } w'/\G'.bx=G.bx:=by
   intro cp hr hge hcm;have hmd:=hmk.drew
   let sp:=(Builtin.zeroCells z.cells (cp-(es.length+news.length))).toList
   let obj:Obj:=.cells (vs.toArray++us.toArray++Builtin.zeroCells z.cells (cp-(es.length+news.length))) E
   have hp:=hmd.newkind .ex obj;have hlp:=Le.newkind hmd .ex obj;have hcells:vs.toArray++us.toArray++Builtin.zeroCells z.cells (cp-(es.length+news.length))=((vs++us)++sp).toArray:=by
    apply Array.ext';simp[sp]
   have hcs:((vs++us)++sp).length=cp*sz:=by
    have h1:sp.length=(cp-(es.length+news.length))*sz:=by simp only[sp,Array.length_toList,size_zeroCells,hzs]
    rw[List.length_append,List.length_append,hvsl,husl,h1,his,<-Nat.add_mul,<-Nat.add_mul];congr 1
    omega
   have hheap:(w.drew.alloc obj).heap[w.heap.size]?=some (.cells ((vs++us)++sp).toArray E (0,0)):=by
    rw[<-hcells];exact heap_alloc_new w.drew _
   have hnew:=hp.newtok (some w.heap.size) (fun g hg=>by
    cases hg;refine⟨fun t' ht=>?_,0, #[],_,?_,hheap⟩
    .have:=hmk.tlt t' _ (by simpa[Gh.setKind] using ht)
     omega
    .refine .inr ?_;show upd _ w.heap.size _ w.heap.size=_
     rw[uS])
   have hln:=Le.newtok (G:=(G.kill (.tok t)).setKind w.heap.size .ex) (w:=w.drew.alloc obj) (some w.heap.size);have hall:=(hlk.trans Le.drew).trans (hlp.trans hln);refine⟨.value _,_,_,_,hexec _ _ hr,.inl rfl,hall,?_,hnew,rfl⟩;refine .stk ⟨by simp only[Gh.newtok,Gh.setKind,Gh.kill];omega,_,cp,by rw[List.length_append],by rw[List.length_append];exact hge,hcm,fun q hq=>?_⟩;simp only[Gh.newtok,Gh.setKind,Gh.kill,hmnt,uS,Option.some.injEq] at hq;subst hq;refine⟨rfl,vs++us,sp,E,?_,hheap,hcs,(hf.mono hall.cells).append (hfx'.mono hall.cells),fun u hu=>hzo u (xZ hu)⟩;show upd _ w.heap.size _ w.heap.size=_
   rw[uS]
  by_cases hroom:es.length+news.length<=cap
  .cases y with
   | none=>have:=(hnone rfl).2.1;omega
   | some g =>
    obtain⟨hA,sp,e,hkg,hg,hlen,hsp⟩:=hsome g rfl;subst hA;have hfit:es.length*i.size+us.length<=(vs++sp).toArray.size:=by
     rw[husl,<-Nat.add_mul,List.size_toArray,hlen,his];exact Nat.mul_le_mul_right _ hroom
    have hr:=hsrc.room hmpos g es.length cap (vs++sp).toArray e hg hroom hfit;have husp:us.length<=sp.length:=by
     rw[List.size_toArray,List.length_append,<-hvsl] at hfit;omega
    have hnw:((vs++sp).toArray.toList.take (es.length*i.size)++us++(vs++sp).toArray.toList.drop (es.length*i.size+us.length)).toArray=((vs++us)++sp.drop us.length).toArray:=by
     congr 1
     simp only[<-hvsl];rw[List.take_append_of_le_length (nr0 _),List.take_length,List.drop_append,List.drop_of_length_le (by omega),List.nil_append,Nat.add_sub_cancel_left]
    rw[hnw] at hr;have hkg':(G.kill (.tok t)).kind g=.ex:=hkg
    have hfl:=hmk.fillx (new:=((vs++us)++sp.drop us.length).toArray) hkg' (hnot g rfl) hg;have hlfl:=Le.fillx (w:=w) (new:=((vs++us)++sp.drop us.length).toArray) hkg' (hnot g rfl) hg;have hheap:=setRow_heap w g (vs++sp).toArray ((vs++us)++sp.drop us.length).toArray e (0,0) hg;have hnew:=hfl.newtok (some g) (fun g' hg'=>by
     cases hg'
     exact⟨hnot g rfl,0, #[],_,.inr hkg,hheap⟩)
    have hln:=Le.newtok (G:=G.kill (.tok t)) (w:=w.setRow g ((vs++us)++sp.drop us.length).toArray) (some g);have hall:=hlk.trans (hlfl.trans hln);refine⟨.value _,_,_,_,hexec _ _ hr,.inl rfl,hall,?_,hnew,rfl⟩;refine .stk ⟨by simp only[Gh.newtok,Gh.kill];omega,_,cap,by rw[List.length_append],by rw[List.length_append];exact hroom,hmax,fun q hq=>?_⟩;simp only[Gh.newtok,Gh.kill,hmnt,uS,Option.some.injEq] at hq;subst hq;refine⟨rfl,vs++us,sp.drop us.length,e,hkg,hheap,?_,(hf.mono hall.cells).append (hfx'.mono hall.cells),fun u hu=>hsp u (List.mem_of_mem_drop hu)⟩;rw[List.length_append] at hlen;rw[List.length_append,List.length_append,List.length_drop];omega
  .have hcl:cap<es.length+news.length:=by omega
   have hge:=grownCap_ge w (es.length+news.length) cap E;have hcm:=grownCap_le_maxLen w (es.length+news.length) cap E (by unfold maxLen;omega);cases A with
   | some b =>
    refine grow _ (hsrc.grow hmpos b es.length cap vs hvsl (fun q u hq=>?_) hcl (by omega) (growslice_fits hcl (by rw[hib];exact hbytes))) hge hcm;cases y with
    | none=>rw[(hnone rfl).2.2] at hq;simp at hq
    | some g =>
     obtain⟨hA,sp,e,hkg,hg,hlen,hsp⟩:=hsome g rfl;cases hA;rw[bK,cell_of_row w g _ _ e (0,0) hg,Nat.zero_add];simp only[List.getElem?_toArray];rw[List.getElem?_append_left (List.getElem?_eq_some_iff.1 hq).1];exact hq
   | none =>
    cases y with
    | some g=>have:=(hsome g rfl).1;cases this
    | none =>
     obtain⟨rfl,rfl,rfl⟩:=hnone rfl;have hr:=hsrc.nil_ hmpos (by omega) (by rw[hib];simp only[List.length_nil,Nat.zero_add] at hbytes;omega);simp only[List.length_nil,Nat.zero_add] at grow hge hcm ⊢;refine grow _ ?_ hge hcm;simpa using hr
theorem aC3{o:Oper}{ρ:Operand->AV}{ρv:Operand->Value}{G:Gh}{m:bH}{w:World}{v:AV}{tok':Nat->Bool}{nt':Nat}(h:aCf P o ρ m.tok m.nt v tok' nt')(hρ:∀x∈o.op.operands,RV G w (ρ x) (ρv x))(hm:aV G m w):
  dJ P o ρv G w fun u G' w'=>RV G' w' v u/\aV G' { m with tok:=tok',nt:=nt' } w'/\G'.bx=G.bx:=by
 unfold aCf at h;split at h
 .rename_i c ho;split at h
  .rename_i s x T T' hcal hargs htys;have hs:=hρ s (by rw[ho];simp only[Op.operands,Call.operands,hcal];rw[<-Array.mem_toList_iff];simp[hargs]);have hx:=hρ x (by rw[ho];simp only[Op.operands,Call.operands,hcal];rw[<-Array.mem_toList_iff];simp[hargs]);split at h
   .rename_i E sz by' sz0 es own sz1 news hrow hse hxe
    obtain⟨rfl,hsz0,hsz1,hbytes,hlive,rfl,rfl,rfl⟩:=h;obtain⟨hE,i,z,hi,hz,hzs,his,hib,hszp,hbyp⟩:=fE hrow;rw[hse] at hs;have hxd:=hx.elems hxe;generalize hxv:ρv x=xv at hxd;obtain⟨B,capx,us,rfl,hcapx,hmaxx,hfx⟩:=hxd.flat;have hfx':gX w.cell? G.ps sz news B us:=hfx.resize hsz1
    have husl:=hfx'.len;rw[<-his] at husl;refine(nW ho hcal hargs htys hE hi hz hzs his hib hszp hbyp hsz0 hbytes hlive hs hxv hfx'.v ?_ hm).imp fun u G' w' ⟨h1,h2,h3,_,_⟩=>⟨h1,h2,h3⟩
    refine⟨fun h0 A k cap hk=>?_,fun hp g sLen sCap cur e' hg hroom hfit=>?_,fun hp b sLen sCap olds h1 h2 h3 h4 h5=>?_,fun hp h1 h2=>?_⟩
    .rw[h0];exact lL (P:=P) _ o.type E i w hE hi A B k cap capx hk
    .obtain⟨a,rfl⟩:=hfx'.some_ (List.length_pos_iff.1 hp);exact kG (P:=P) _ o.type E e' i w hE hi g sLen sCap cur hg a _ capx us husl (fun q u hq=>(hfx'.at_ a rfl q u hq).2) hfx'.one hroom hfit
    .obtain⟨a,rfl⟩:=hfx'.some_ (List.length_pos_iff.1 hp);exact run_append_grow (P:=P) w _ o.type E i z hE hi hz b sLen sCap olds h1 h2 a _ capx us husl (fun q u hq=>(hfx'.at_ a rfl q u hq).2) h3 h4 h5
    .obtain⟨a,rfl⟩:=hfx'.some_ (List.length_pos_iff.1 hp);exact run_append_nil (P:=P) w _ o.type E i z hE hi hz a _ capx us husl (fun q u hq=>(hfx'.at_ a rfl q u hq).2) hp h1 h2
   .exact h.elim
  .exact h.elim
 .exact h.elim
theorem aAH{w:World}{T ty E:TypeId}{i:TypeInfo}{z:Value}(hE:P.underlying T=some (.slice E))(hi:P.info? E=some i)(hz:i.zero=some z){B:Option Addr}{n capx:Nat}{us:List Value}(hcapx:n<=capx)(husl:us.length=n*i.size)(hsome:0<n->∃a,B=some a)(hat:∀a,B=some a->∀q u,us[q]?=some u->w.cell? (a.add q)=some u)(hone:∀u∈us,u.oneCell'=true):Src P w T T ty E i z (.slice B n capx) n us:=by
 refine⟨fun h0 A k cap hk=>?_,fun hp g sLen sCap cur e' hg hroom hfit=>?_,fun hp b sLen sCap olds h1 h2 h3 h4 h5=>?_,fun hp h1 h2=>?_⟩
 .rw[h0];exact lL (P:=P) _ ty E i w hE hi A B k cap capx hk
 .obtain⟨a,rfl⟩:=hsome hp;exact kG (P:=P) _ ty E e' i w hE hi g sLen sCap cur hg a _ capx us husl (fun q u hq=>hat a rfl q u hq) hone hroom hfit
 .obtain⟨a,rfl⟩:=hsome hp;exact run_append_grow (P:=P) w _ ty E i z hE hi hz b sLen sCap olds h1 h2 a _ capx us husl (fun q u hq=>hat a rfl q u hq) h3 h4 h5
 .obtain⟨a,rfl⟩:=hsome hp;exact run_append_nil (P:=P) w _ ty E i z hE hi hz a _ capx us husl (fun q u hq=>hat a rfl q u hq) hp h1 h2
theorem yJ(t ty e e':TypeId)(i:TypeInfo)(w:World)(ht:P.underlying t=some (.slice e))(hi:P.info? e=some i)(g d sLen sCap:Nat)(cur:Array Value)(hg:w.heap[g]?=some (.cells cur e' (0,0)))(a:Addr)(m c:Nat)(news:List Value)(hl:news.length=m*i.size)(hnews:∀j u,news[j]?=some u->w.cell? (a.add j)=some u)(h1:∀u∈news,u.oneCell'=true)(hroom:sLen+m<=sCap)(hfit:d+sLen*i.size+news.length<=cur.size):
  (Builtin.append_ #[t,t] ty #[.slice (some ⟨g,d,none⟩) sLen sCap,.slice (some a) m c]).run P w =
   .ok (.slice (some ⟨g,d,none⟩) (sLen+m) sCap) (w.setRow g (cur.toList.take (d+sLen*i.size)++news++cur.toList.drop (d+sLen*i.size+news.length)).toArray):=by
 have hf:=run_firstCells_some (P:=P) w i.size m a m c news hl hnews;have hst:=run_storeCells_at P g (d+sLen*i.size) e' news 0 cur w hg (by simpa using hfit) h1;simp only[Nat.add_zero] at hst;simp[Builtin.append_,run_underlying ht,sizeOf,typeInfo,hi,Builtin.lenOf,hroom,hf,bK,hst]
theorem aDz{o:Oper}{ρv:Operand->Value}{G:Gh}{m:bH}{w:World}{c:Call}{s x:Operand}{T E:TypeId}{i:TypeInfo}{z:Value}{t sz by':Nat}{es news:List (List D)}{xv:Value}(ho:o.op=.call c)(hcal:c.callee=.builtin .append)(hargs:c.args.toList=[s,x])(htys:c.argTypes.toList=[T,T])(hE:P.underlying T=some (.slice E))(hi:P.info? E=some i)(hz:i.zero=some z)(hzs:z.cells.size=sz)(his:i.size=sz)(hib:i.bytes=by')(hszp:0<sz)(hbyp:0<by')(hne:news≠[])(hbytes:(es.length+news.length)*by'<=140737488355328)(hlive:m.tok t=true)(hs:RV G w (.que t sz es) (ρv s))(hxv:ρv x=xv)(hx:RVd w.cell? G.ps (.sl sz news) xv)(hm:aV G m w):
  dJ P o ρv G w fun u G' w'=>RV G' w' (.que m.nt sz (es++news)) u/\aV G' { m with tok:=upd (upd m.tok t false) m.nt true,nt:=m.nt+1 } w'/\G'.bx=G.bx:=by
 generalize hsv:ρv s=sv at hs;have hexec:∀u w',(Builtin.append_ #[T,T] o.type #[sv,xv]).run P w=.ok u w'->(execOp ρv o).run P w=.ok (.value u) w':=by
  intro u w' hr;have e1:c.args.map ρv = #[sv,xv]:=by
   have:(c.args.map ρv).toList=[sv,xv]:=by rw[Array.toList_map,hargs];simp[hsv,hxv]
   rw[<-Array.toList_inj,this]
  have e2:c.argTypes = #[T,T]:=by rw[<-Array.toList_inj,htys]
  simp only[execOp,ho,resolve,hcal,Sem.run_bind,Sem.run_pure,Result.andThen_ok,invoke,builtin,e1,e2,hr]
 cases hs with
 | que hd hq =>
  obtain⟨htl,hq⟩:=hq;obtain⟨_,y,hy⟩:=hm.toks t hlive;have hq:=hq y hy;obtain⟨A,cap,vs,rfl,hcap,hmax,hf'⟩:=hd.flat;obtain⟨B,capx,us,rfl,hcapx,hmaxx,hfx'⟩:=hx.flat;have hmk:=hm.kill (.tok t);have hlk:=Le.kill (G:=G) (w:=w) (.tok t);have hmnt:G.nt=m.nt:=hm.nt
  have hmpos:0<news.length:=List.length_pos_iff.2 hne
  have husl:us.length=news.length*i.size:=by rw[his];exact hfx'.len
  have hvsl:vs.length=es.length*i.size:=by rw[his];exact hf'.len
  obtain⟨b,rfl⟩:=hfx'.some_ hne;have hus:∀q u,us[q]?=some u->w.cell? (b.add q)=some u:=fun q u hq=>(hfx'.at_ b rfl q u hq).2
  have hlenT:(vs++us).length=(es.length+news.length)*sz:=by rw[List.length_append,hvsl,husl,his,Nat.add_mul]
  have grow:∀cp,(Builtin.append_ #[T,T] o.type #[.slice A es.length cap,.slice (some b) news.length capx]).run P w =
    .ok (.slice (some ⟨w.heap.size,0,none⟩) (es.length+news.length) cp) (w.drew.alloc (.cells (vs.toArray++us.toArray++Builtin.zeroCells z.cells (cp-(es.length+news.length))) E)) ->
    es.length+news.length<=cp->cp<=maxLen ->
    dJ P o ρv G w fun u G' w'=>RV G' w' (.que m.nt sz (es++news)) u/\aV G' { m with tok:=upd (upd m.tok t false) m.nt true,nt:=m.nt+1 } w'/\G'.bx=G.bx:=by
   intro cp hr hge hcm;have hmd:=hmk.drew
   let obj:Obj:=.cells (vs.toArray++us.toArray++Builtin.zeroCells z.cells (cp-(es.length+news.length))) E
   have hp:=hmd.newpart ((es.length+news.length)*sz) (cp*sz) obj;have hlp:=Le.newpart hmd ((es.length+news.length)*sz) (cp*sz) obj;have hcs:(vs.toArray++us.toArray++Builtin.zeroCells z.cells (cp-(es.length+news.length))).size=cp*sz:=by
    simp only[Array.size_append,List.size_toArray,size_zeroCells,hzs,hvsl,husl,his,<-Nat.add_mul];congr 1
    omega
   have hnew:=hp.newtok (some w.heap.size) (fun g hg=>by
    cases hg;refine⟨fun t ht=>?_,(es.length+news.length)*sz,vs.toArray++us.toArray++Builtin.zeroCells z.cells (cp-(es.length+news.length)),_,?_,heap_alloc_new w.drew _⟩
    .have:=hmk.tlt t _ (by simpa[Gh.setKind] using ht)
     omega
    .rw[hcs];refine .inl ⟨?_,E,rfl⟩;show upd _ w.heap.size _ w.heap.size=_
     rw[uS])
   have hln:=Le.newtok (G:=(G.kill (.tok t)).setKind w.heap.size (.part ((es.length+news.length)*sz) (cp*sz))) (w:=w.drew.alloc obj) (some w.heap.size);have hall:=(hlk.trans Le.drew).trans (hlp.trans hln);refine⟨.value _,_,_,_,hexec _ _ hr,.inl rfl,hall,?_,hnew,rfl⟩;have hflat:gX (w.drew.alloc obj).cell? (Gh.ps (((G.kill (.tok t)).setKind w.heap.size (.part ((es.length+news.length)*sz) (cp*sz))).newtok (some w.heap.size))) sz (es++news) (some ⟨w.heap.size,0,none⟩) (vs++us):=by
    refine(hf'.mono hall.cells).append (hfx'.v.mono hall.cells) _ (fun q u hq=>?_);have hlt:q<(vs++us).length:=(List.getElem?_eq_some_iff.1 hq).1
    rw[bK];refine⟨?_,?_⟩
    .show (match upd (G.kill (.tok t)).kind w.heap.size (BK.part ((es.length+news.length)*sz) (cp*sz)) w.heap.size with|.whole=>True|.part f _=>0+q<f|.box=>False|.ex=>False)
     rw[uS];show 0+q<_
     omega
    .rw[cell_of_row _ w.heap.size (0+q) (vs.toArray++us.toArray++Builtin.zeroCells z.cells (cp-(es.length+news.length))) E (0,0) (heap_alloc_new w.drew _)];rw[Nat.zero_add,Array.getElem?_append_left (by simpa using hlt)];simpa using hq
   have:=RVd.of_flat (cap:=cp) (by simpa using hge) hcm hflat
   rw[List.length_append] at this;refine .que this ⟨by simp only[Gh.newtok,Gh.setKind,Gh.kill];omega,fun y hy=>?_⟩;simp only[Gh.newtok,Gh.setKind,Gh.kill,hmnt,uS,Option.some.injEq] at hy;subst hy;refine .inr ⟨w.heap.size,0,cp,rfl,by simp,?_⟩;simp only[Gh.newtok,Gh.setKind,uS,List.length_append,Nat.zero_add]
  have growA:cap<es.length+news.length->(A=none->cap=0)->dJ P o ρv G w fun u G' w'=>RV G' w' (.que m.nt sz (es++news)) u/\aV G' { m with tok:=upd (upd m.tok t false) m.nt true,nt:=m.nt+1 } w'/\G'.bx=G.bx:=by
   intro hcl hA0;have hge:=grownCap_ge w (es.length+news.length) cap E;have hcm:=grownCap_le_maxLen w (es.length+news.length) cap E (by unfold maxLen;have:=Nat.mul_le_mul_left (es.length+news.length) hbyp;omega);cases A with
   | some a =>
    exact grow _ (run_append_grow (P:=P) w T o.type E i z hE hi hz a es.length cap vs hvsl (fun q u hq=>(hf'.at_ a rfl q u hq).2) b _ capx us husl hus hcl (by have:=Nat.mul_le_mul_left (es.length+news.length) hbyp;omega) (growslice_fits hcl (by rw[hib];exact hbytes))) hge hcm
   | none =>
    have hes:es=[]:=Classical.byContradiction fun h=>by obtain⟨b,hb⟩:=hf'.some_ h;cases hb
    subst hes;have hvs:vs=[]:=List.eq_nil_of_length_eq_zero (by simpa using hvsl)
    subst hvs;have hc0:=hA0 rfl;subst hc0;have hr:=run_append_nil (P:=P) w T o.type E i z hE hi hz b _ capx us husl hus hmpos (by have:=Nat.mul_le_mul_left ((([]:List (List D)).length+news.length)) hbyp;simp only[List.length_nil,Nat.zero_add] at this hbytes;omega) (by rw[hib];simp only[List.length_nil,Nat.zero_add] at hbytes;omega);simp only[List.length_nil,Nat.zero_add] at grow hge hcm ⊢;refine grow _ ?_ hge hcm;simpa using hr
  rcases hq with ⟨A',hA⟩|⟨g,d,cap',rfl,hA,hkg⟩
  .injection hA with h1 _ h3
   subst h3;refine growA (by omega) fun hn=>?_
   subst hn;exact List.length_eq_zero_iff.2 (Classical.byContradiction fun h=>by obtain⟨b,hb⟩:=hf'.some_ h;cases hb)
  .injection hA with h1 _ h3
   subst h1;subst h3;by_cases hroom:es.length+news.length<=cap
   .obtain⟨f,cur,o',hkg',hg⟩:=hm.tokb t g hy;rw[hkg] at hkg';rcases hkg' with ⟨hkg',e',rfl⟩|hkg'
    case inr=>cases hkg'
    injection hkg' with hf1 hc1
    have hcz:cap*sz=es.length*sz+(cap-es.length)*sz:=by rw[<-Nat.add_mul];congr 1;omega
    have hnz:news.length*sz<=(cap-es.length)*sz:=Nat.mul_le_mul_right _ (by omega)
    have hfit:d+es.length*i.size+us.length<=cur.size:=by rw[husl,his];omega
    have hr:=yJ (P:=P) T o.type E e' i w hE hi g d es.length cap cur hg b _ capx us husl hus hfx'.one hroom hfit;rw[his] at hr hfit;have hnot:∀t',(G.kill (.tok t)).tk t'≠some (some g):=by
     intro t' ht';simp only[Gh.kill] at ht';by_cases e:t'=t
     .subst e;simp[uS] at ht'
     .rw[uO _ _ e] at ht';exact e (hm.tinj t' t g ht' hy)
    let new:Array Value:=(cur.toList.take (d+es.length*sz)++us++cur.toList.drop (d+es.length*sz+us.length)).toArray
    have e1:cur.toList.length=cur.size:=by simp
    have hlt:(List.take (d+es.length*sz) cur.toList).length=d+es.length*sz:=by rw[List.length_take];omega
    have hsame:∀q,q<d+es.length*sz->new[q]?=cur[q]?:=by
     intro q hq;simp only[new,List.getElem?_toArray];rw[List.append_assoc,List.getElem?_append_left (by omega),List.getElem?_take_of_lt hq];simp
    have hff:d+es.length*sz<=d+(es.length+news.length)*sz:=by rw[Nat.add_mul];omega
    have hfl:=hmk.fill (g:=g) (f:=d+es.length*sz) (f':=d+(es.length+news.length)*sz) (c:=d+cap*sz) hkg hff hnot hg hsame;have hlfl:=Le.fill (G:=G.kill (.tok t)) (w:=w) (g:=g) (f:=d+es.length*sz) (f':=d+(es.length+news.length)*sz) (c:=d+cap*sz) hkg hff hnot hg hsame;have hns:new.size=d+cap*sz:=by
     simp only[new,List.size_toArray,List.length_append,List.length_take,List.length_drop,Array.length_toList];omega
    have hnew:=hfl.newtok (some g) (fun g' hg'=>by
     cases hg'
     refine⟨fun t' ht'=>hnot t' ht',d+(es.length+news.length)*sz,new,_,?_,setRow_heap w g cur new e' (0,0) hg⟩;rw[hns];refine .inl ⟨?_,e',rfl⟩;show upd _ g _ g=_
     rw[uS])
    have hln:=Le.newtok (G:=(G.kill (.tok t)).setKind g (.part (d+(es.length+news.length)*sz) (d+cap*sz))) (w:=w.setRow g new) (some g);have hall:=hlk.trans (hlfl.trans hln);refine⟨.value _,_,_,_,hexec _ _ hr,.inl rfl,hall,?_,hnew,rfl⟩;have hflat:gX (w.setRow g new).cell? (Gh.ps (((G.kill (.tok t)).setKind g (.part (d+(es.length+news.length)*sz) (d+cap*sz))).newtok (some g))) sz (es++news) (some ⟨g,d,none⟩) (vs++us):=by
     refine(hf'.mono hall.cells).append (hfx'.v.mono hall.cells) _ (fun q u hq=>?_);have hqlt:q<(vs++us).length:=(List.getElem?_eq_some_iff.1 hq).1
     rw[bK];refine⟨?_,?_⟩
     .show (match upd (G.kill (.tok t)).kind g (BK.part (d+(es.length+news.length)*sz) (d+cap*sz)) g with|.whole=>True|.part f _=>d+q<f|.box=>False|.ex=>False)
      rw[uS];show d+q<_
      omega
     .rw[cell_setRow_same w g (d+q) cur new e' (0,0) hg];by_cases hql:q<vs.length
      .rw[List.getElem?_append_left hql] at hq;rw[hsame (d+q) (by have:=hf'.len;omega)];have:=(hf'.at_ ⟨g,d,none⟩ rfl q u hq).2
       rw[bK,cell_of_row w g _ cur e' (0,0) hg] at this;exact this
      .rw[List.getElem?_append_right (by omega)] at hq;have hql':q-vs.length<us.length:=(List.getElem?_eq_some_iff.1 hq).1
       have hvl:=hf'.len;simp only[new,List.getElem?_toArray];rw[List.append_assoc,List.getElem?_append_right (by rw[hlt];omega),hlt,show d+q-(d+es.length*sz)=q-vs.length by omega,List.getElem?_append_left hql'];exact hq
    have:=RVd.of_flat (cap:=cap) (by simpa using hroom) hmax hflat
    rw[List.length_append] at this;refine .que this ⟨by simp only[Gh.newtok,Gh.setKind,Gh.kill];omega,fun y hy=>?_⟩;simp only[Gh.newtok,Gh.setKind,Gh.kill,hmnt,uS,Option.some.injEq] at hy;subst hy;refine .inr ⟨g,d,cap,rfl,by simp,?_⟩;simp only[Gh.newtok,Gh.setKind,uS,List.length_append]
   .exact growA (by omega) fun h=>by cases h
theorem aDJ{o:Oper}{ρv:Operand->Value}{G:Gh}{m:bH}{w:World}{c:Call}{s x:Operand}{T T':TypeId}{sa xa v:AV}{tok':Nat->Bool}{φ:Prop}(ho:o.op=.call c)(hcal:c.callee=.builtin .append)(hargs:c.args.toList=[s,x])(htys:c.argTypes.toList=[T,T'])(h:aKd P T T' sa xa m.tok m.nt=some (φ,v,tok'))(hφ:φ)(hs:RV G w sa (ρv s))(hx:RV G w xa (ρv x))(hm:aV G m w):
  dJ P o ρv G w fun u G' w'=>RV G' w' v u/\aV G' { m with tok:=tok',nt:=m.nt+1 } w'/\G'.bx=G.bx:=by
 unfold aKd at h;split at h
 .rename_i E sz by' t sz0 es hrow
  split at h
  .rename_i sz1 news hxe;simp only[Option.some.injEq,Prod.mk.injEq] at h;obtain⟨rfl,rfl,rfl⟩:=h;obtain⟨rfl,rfl,hsz1,hzo,hbytes,hlive⟩:=hφ;obtain⟨hE,i,z,hi,hz,hzs,his,hib,hszp,hbyp⟩:=fE hrow;have hxd:=hx.elems hxe;generalize hxv:ρv x=xv at hxd;obtain⟨B,capx,us,rfl,hcapx,hmaxx,hfx⟩:=hxd.flat;have hfx':gX w.cell? G.ps sz0 news B us:=hfx.resize hsz1
   have husl:=hfx'.len;rw[<-his] at husl;have hst:yQ G w t sz0 es (ρv s):=by
    generalize ρv s=sv at hs;cases hs with|stk h=>exact h
   exact aC1 ho hcal hargs htys hE hi hz hzs his hib hszp hbyp (aHW hzo hi hz) hbytes hlive hst hxv hfx'.v (aAH hE hi hz hcapx husl (fun hp=>hfx'.some_ (List.length_pos_iff.1 hp)) (fun a ha q u hq=>(hfx'.at_ a ha q u hq).2) hfx'.one) hm
  .cases h
 .rename_i E sz by' t sz0 es hrow
  split at h
  .rename_i sz1 news hxe;simp only[Option.some.injEq,Prod.mk.injEq] at h;obtain⟨rfl,rfl,rfl⟩:=h;obtain⟨rfl,rfl,rfl,hne,hbytes,hlive⟩:=hφ;obtain⟨hE,i,z,hi,hz,hzs,his,hib,hszp,hbyp⟩:=fE hrow;exact aDz ho hcal hargs htys hE hi hz hzs his hib hszp hbyp hne hbytes hlive hs rfl (hx.elems hxe) hm
  .cases h
 .rename_i E sz by' sz0 es own hrow
  split at h
  .rename_i t sz1 news;simp only[Option.some.injEq,Prod.mk.injEq] at h;obtain⟨rfl,rfl,rfl⟩:=h;obtain⟨rfl,hsz0,rfl,hbytes,hlive,hlt⟩:=hφ;obtain⟨hE,i,z,hi,hz,hzs,his,hib,hszp,hbyp⟩:=fE hrow;have hst:yQ G w t sz1 news (ρv x):=by
    generalize ρv x=sv at hx;cases hx with|stk h=>exact h
   obtain⟨htlt,B,capx,hxv,hcapx,hmaxx,hst⟩:=hst;obtain⟨_,y,hy⟩:=hm.toks t hlt;have hst:=hst y hy;obtain⟨us,hf,hat⟩:∃us,cJ w.cell? G.ps sz1 news us/\(0<news.length->∃a,B=some a)/\(∀a,B=some a->∀q u,us[q]?=some u->w.cell? (a.add q)=some u):=by
    cases y with
    | none =>
     have hes:news=[]:=List.eq_nil_of_length_eq_zero (by have:capx=0:=hst;omega)
     subst hes;exact⟨[],cJ.none_ _ _ _,(fun h=>by simp at h),fun a _ q u hq=>by simp at hq⟩
    | some g =>
     obtain⟨hA,vs,sp,e,h1,h2,h3,h4,h5⟩:=hst;refine⟨vs,h4,fun _=>⟨_,hA⟩,fun a ha q u hq=>?_⟩;rw[hA] at ha;cases ha;rw[bK,cell_of_row w g _ _ e (0,0) h2,Nat.zero_add];simp only[List.getElem?_toArray];rw[List.getElem?_append_left (List.getElem?_eq_some_iff.1 hq).1];exact hq
   have husl:=hf.len;rw[<-his] at husl;exact(nW ho hcal hargs htys hE hi hz hzs his hib hszp hbyp hsz0 hbytes hlive hs hxv hf (aAH hE hi hz hcapx husl hat.1 hat.2 hf.one) hm).imp fun u G' w' ⟨h1,h2,h3,_,_⟩=>⟨h1,h2,h3⟩
  .cases h
 .cases h
theorem xO{w:World}{T T' ty E:TypeId}{i:TypeInfo}{z:Value}(str:ByteArray)(hE:P.underlying T=some (.slice E))(hT:aY P T'=true)(hi:P.info? E=some i)(hz:i.zero=some z)(h1:i.size=1):
  Src P w T T' ty E i z (.string str) str.size (Lib.strCells str):=by
 have hT':P.underlying T'=some .string:=by
  unfold aY at hT;split at hT
  .assumption
  .cases hT
 have hcl:(Lib.strCells str).length=str.size:=Lib.strCells_length str
 refine⟨fun h0 A k cap hk=>?_,fun hp g sLen sCap cur e' hg hroom hfit=>?_,fun hp b sLen sCap olds h1 h2 h3 h4 h5=>Lib.run_append_grow_string (P:=P) w T T' ty E i z hE hT' hi hz b sLen sCap olds h1 h2 str h3 h4 h5,fun hp h1 h2=>?_⟩
 .have hn:Lib.strCells str=[]:=List.eq_nil_of_length_eq_zero (by rw[hcl];exact h0)
  have hf:=Lib.run_firstCells_string (P:=P) w i.size str;rw[h0,hn] at hf;rw[h1] at hf;cases A<;>simp[Builtin.append_,run_underlying hE,run_underlying hT',sizeOf,typeInfo,hi,h1,Builtin.lenOf,h0,hf,hk,storeCells]
 .rw[hcl,h1,Nat.mul_one] at hfit;have hf:=Lib.run_firstCells_string (P:=P) w 1 str;have hst:=run_storeCells_at P g sLen e' (Lib.strCells str) 0 cur w hg (by simpa[Lib.strCells_length] using hfit) (Lib.strCells_oneCell str);simp only[Nat.add_zero,Lib.strCells_length] at hst;rw[h1,Nat.mul_one,hcl];simp[Builtin.append_,run_underlying hE,run_underlying hT',sizeOf,typeInfo,hi,h1,Builtin.lenOf,hroom,hf,Addr.add_lit,hst]
 .have hr:=run_append_nil_string (P:=P) w T T' ty E i z hE hT' hi hz str hp h1 h2;have e1:(str.data.map fun b=>Value.int .u8 b.toNat)=(Lib.strCells str).toArray:=by
   apply Array.ext';simp[Lib.strCells]
  rw[e1] at hr;exact hr
theorem aEG{o:Oper}{ρ:Operand->AV}{ρv:Operand->Value}{G:Gh}{m:bH}{w:World}{v:AV}{tok':Nat->Bool}{nt':Nat}(h:aIt P o ρ m.tok m.nt v tok' nt')(hρ:∀x∈o.op.operands,RV G w (ρ x) (ρv x))(hm:aV G m w):
  dJ P o ρv G w fun u G' w'=>RV G' w' v u/\aV G' { m with tok:=tok',nt:=nt' } w'/\G'.bx=G.bx:=by
 unfold aIt at h;split at h
 .rename_i c ho;split at h
  .rename_i s x T T' hcal hargs htys;have hs:=hρ s (by rw[ho];simp only[Op.operands,Call.operands,hcal];rw[<-Array.mem_toList_iff];simp[hargs]);have hx:=hρ x (by rw[ho];simp only[Op.operands,Call.operands,hcal];rw[<-Array.mem_toList_iff];simp[hargs]);obtain⟨φ,h,hφ,rfl⟩:=h;unfold aJx at h;split at h
   .rename_i str hxs;rw[hxs] at hx;have hxv:ρv x=.string str:=by
     generalize ρv x=xw at hx;cases hx with
     | d h1=>cases h1;rfl
    have hbl:(fU str).length=str.size:=aEt str
    have out:∀{es:List (List D)} {own:Own} {u:Value} {G':Gh} {w':World},∀{E:TypeId},RV G' w' (.osl 1 (es++fU str) (.tok m.nt)) u->G'.tk m.nt≠some none->(∀g',G'.tk m.nt=some (some g')->∃cs f,w'.heap[g']?=some (.cells cs E f))->RV G' w' (.buf E m.nt (es++fU str)) u:=fun {es own u G' w' E} h1 h2 h5=>by
     cases h1 with
     | osl h3 h4=>exact .buf h3 h4 h2 h5
    split at h
    .rename_i E sz by' sz0 hrow hse
     simp only[Option.some.injEq,Prod.mk.injEq] at h;obtain⟨rfl,rfl,rfl⟩:=h;obtain⟨hT,rfl,h0,hb⟩:=hφ;obtain⟨hE,i,z,hi,hz,hzs,his,hib,hszp,hbyp⟩:=fE hrow;rw[hse] at hs;have hsrc:=xO (P:=P) (w:=w) (ty:=o.type) str hE hT hi hz his;rw[<-hbl] at hsrc;refine(nW (news:=fU str) ho hcal hargs htys hE hi hz hzs his hib hszp hbyp (.inr ⟨rfl,rfl⟩) (by simpa[hbl] using hb) rfl hs hxv (cJ.bytes _ _ str) hsrc hm).imp fun u G' w' ⟨h1,h2,h3,h4,h5⟩=>⟨?_,h2,h3⟩
     exact out (es:=[]) (own:=.full) h1 (h4 (.inl fun e=>by rw[e] at hbl;simp at hbl;omega)) (h5 fun t g e=>by cases e)
    .rename_i E sz by' E' t es hrow hse
     simp only[Option.some.injEq,Prod.mk.injEq] at h;obtain⟨rfl,rfl,rfl⟩:=h;obtain⟨hT,rfl,rfl,hb,ht⟩:=hφ;obtain⟨hE,i,z,hi,hz,hzs,his,hib,hszp,hbyp⟩:=fE hrow;rw[hse] at hs;have hsrc:=xO (P:=P) (w:=w) (ty:=o.type) str hE hT hi hz his;rw[<-hbl] at hsrc;obtain⟨_,y,hy⟩:=hm.toks t ht;have hs':RV G w (.osl 1 es (.tok t)) (ρv s)/\G.tk t≠some none/\∀g,G.tk t=some (some g)->∃cs f,w.heap[g]?=some (.cells cs E' f):=by
      generalize ρv s=sv at hs;cases hs with
      | buf h1 h2 h3 h6=>exact⟨.osl h1 h2,h3,h6⟩
     have hyg:∃g,G.tk t=some (some g):=by
      cases y with
      | none=>exact absurd hy hs'.2.1
      | some g=>exact⟨g,hy⟩
     obtain⟨g,hg⟩:=hyg;refine(nW (news:=fU str) (own:=.tok t) ho hcal hargs htys hE hi hz hzs his hib hszp hbyp (.inl rfl) (by simpa[hbl] using hb) ht hs'.1 hxv (cJ.bytes _ _ str) hsrc hm).imp fun u G' w' ⟨h1,h2,h3,h4,h5⟩=>⟨?_,h2,h3⟩
     exact out (es:=es) (own:=.full) h1 (h4 (.inr ⟨t,g,rfl,hg⟩)) (h5 fun t' g' e h=>by cases e;exact hs'.2.2 g' h)
    .cases h
   .exact aDJ ho hcal hargs htys h hφ hs hx hm
  .exact h.elim
 .exact h.elim
theorem aAA{T:TypeId}(h:aD4 P T=true):∃kt et,P.underlying T=some (.map kt et)/\P.underlying kt=some .string/\∀w,(zeroValue et).run P w=.ok (.slice none 0 0) w:=by
 unfold aD4 at h;split at h
 .rename_i kt et hT;simp only[Bool.and_eq_true] at h;obtain⟨h1,h2⟩:=h;refine⟨kt,et,hT,?_,fun w=>?_⟩
  .split at h1
   .assumption
   .cases h1
  .split at h2
   .rename_i i hi;split at h2
    .rename_i hz;simp[zeroValue,typeInfo,hi,hz]
    .cases h2
   .cases h2
 .cases h
theorem aG5(a b:ByteArray):(a==b)=decide (a=b):=by
 cases a with|mk a=>cases b with|mk b =>
 show (a==b)=_
 rw[Bool.eq_iff_iff,beq_iff_eq,decide_eq_true_eq];simp
theorem nD(s:ByteArray):∀(l:List MapEntry) (ks:List ByteArray) (k:Nat),l.map (·.key)=ks.map Value.string->Instr.findNow .string (.string s) l k=some ((ks.findIdx? fun x=>decide (x=s)).bind fun i=>(l[i]?).map fun e=>(k+i,e.val))
 | [],[],k,_=>rfl
 | [],_::_,k,h=>by simp at h
 | _::_,[],k,h=>by simp at h
 | e::l,b::ks,k,h=>by
  simp only[List.map_cons,List.cons.injEq] at h;unfold Instr.findNow;rw[h.1];simp only[Instr.sameNow,aG5];by_cases hb:s=b
  .subst hb;simp[List.findIdx?_cons]
  .have h2:¬b=s:=fun e=>hb e.symm
   rw[List.findIdx?_cons];simp only[hb,h2,decide_false,nD s l ks (k+1) h.2,Bool.false_eq_true,↓reduceIte];cases ks.findIdx? fun x=>decide (x=s) with
   | none=>rfl
   | some i =>
    simp only[Option.map_some,Option.bind_some,List.getElem?_cons_succ];cases l[i]? with
    | none=>rfl
    | some e=>simp;omega
theorem EnR.keys{c:Addr->Option Value}{ps:Addr->Prop}{es:List (ByteArray × List (List D))}{en:Array MapEntry}(h:EnR c ps es en):en.toList.map (·.key)=(es.map (·.1)).map Value.string:=by
 refine List.ext_getElem (by simp[h.1]) fun i h1 h2=>?_
 simp at h1 h2;simp[(h.2 i h2 h1).1]
theorem mF{w:World}{T:TypeId}{r:Nat}{en:Array MapEntry}{k:Nat}{c:Addr->Option Value}{ps:Addr->Prop}{es:List (ByteArray × List (List D))}(hT:aD4 P T=true)(hb:w.heap[r]?=some (.map en k))(he:EnR c ps es en)(s:ByteArray):
  (Instr.lookup T (.map (some r)) (.string s) false).run P w=.ok (match ((es.map (·.1)).findIdx? fun x=>decide (x=s)) with|some i=>(en[i]?.map (·.val)).getD (.slice none 0 0)|none=>.slice none 0 0) w:=by
 obtain⟨kt,et,h1,h2,h3⟩:=aAA hT;have hf:=nD s en.toList (es.map (·.1)) 0 he.keys;have hc:(Instr.checkKey en.isEmpty 10000 kt (.string s)).run P w=.ok () w:=MapKept.run_checkKey (k:=.string s) h2 (by simp[MapKept.IsKey]) _ 9999
 have hk:=MapKept.run_findKey (w:=w) h2 hf;cases hi:((es.map (·.1)).findIdx? fun x=>decide (x=s)) with
 | none =>
  rw[hi] at hk;simp only[Option.bind_none] at hk;simp[Instr.lookup,run_underlying h1,MapKept.run_getObj_map hb,hc,hk,h3,Result.andThen]
 | some i =>
  have hlt:i<en.size:=by
   have:=(List.findIdx?_eq_some_iff_getElem.1 hi).1
   rw[List.length_map,he.1] at this;exact this
  rw[hi] at hk;have hg:en.toList[i]?=some en[i]:=by simp[hlt]
  simp only[Option.bind_some,hg,Option.map_some] at hk;simp[Instr.lookup,run_underlying h1,MapKept.run_getObj_map hb,hc,hk,hlt,Result.andThen]
theorem xL{α:Type}(p:α->Bool):∀l:List α,l.find? p=(l.findIdx? p).bind fun i=>l[i]?
 | []=>rfl
 | x::l=>by
  rw[List.find?_cons,List.findIdx?_cons];cases p x with
  | true=>simp
  | false =>
   rw[xL p l];cases l.findIdx? p<;>simp
theorem uV{α:Type}(f:α->ByteArray)(s:ByteArray)(l:List α):((l.map f).findIdx? fun x=>decide (x=s))=l.findIdx? fun e=>decide (f e=s):=by
 rw[List.findIdx?_map];rfl
theorem RV.nil0{G:Gh}{w:World}:RV G w (.osl 0 [] .full) (.slice none 0 0) :=
 .osl (.sl (fun _ _=>default) (Nat.zero_le _) (by decide) (by simp) (by simp) (by simp) (by simp)) ⟨none,rfl,fun _=>rfl⟩
theorem aEb{o:Oper}{ρ:Operand->AV}{ρv:Operand->Value}{G:Gh}{m:bH}{w:World}{v:AV}{tok':Nat->Bool}{nt':Nat}(h:aPp P o ρ m.tok m.nt v tok' nt')(hρ:∀x∈o.op.operands,RV G w (ρ x) (ρv x))(hm:aV G m w):
  dJ P o ρv G w fun u G' w'=>RV G' w' v u/\aV G' { m with tok:=tok',nt:=nt' } w'/\G'.bx=G.bx:=by
 obtain⟨φ,h,hφ⟩:=h;unfold fM at h;split at h
 .rename_i T ho;simp only[Option.some.injEq,Prod.mk.injEq] at h;obtain⟨rfl,rfl,rfl,rfl⟩:=h;have hp:=hm.newkind .ex (.map #[] 0);have hlp:=Le.newkind hm .ex (.map #[] 0);have hheap:(w.alloc (.map #[] 0)).heap[w.heap.size]?=some (.map #[] 0):=heap_alloc_new w _
  have hnew:=hp.newtok (some w.heap.size) (fun g hg=>by
   cases hg;refine⟨fun t ht=>?_,0, #[],_,.inr ?_,hheap⟩
   .have:=hm.tlt t _ (by simpa[Gh.setKind] using ht)
    omega
   .show upd _ w.heap.size _ w.heap.size=_
    rw[uS])
  have hln:=Le.newtok (G:=G.setKind w.heap.size .ex) (w:=w.alloc (.map #[] 0)) (some w.heap.size);refine⟨.value (.map (some w.heap.size)),_,_,_,?_,.inl rfl,hlp.trans hln,?_,hnew,rfl⟩
  .simp[execOp,ho,Instr.makeMap]
  .have hmnt:=hm.nt;refine .mp ⟨by simp only[Gh.newtok,Gh.setKind];omega,by simp,_,rfl,fun x hx=>?_⟩;simp only[Gh.newtok,Gh.setKind,hmnt,uS,Option.some.injEq] at hx;subst hx;refine⟨rfl,?_, #[],0,hheap,⟨rfl,fun i h1 _=>by simp[mpE] at h1⟩,fun i h1 _=>by simp at h1⟩;show upd _ w.heap.size _ w.heap.size=_
   rw[uS]
 .rename_i T x y ho;have hx:=hρ x (by rw[ho];simp[Op.operands]);have hy:=hρ y (by rw[ho];simp[Op.operands]);split at h
  .rename_i t es s h1 h2;simp only[Option.some.injEq,Prod.mk.injEq] at h;obtain⟨rfl,rfl,rfl,rfl⟩:=h;obtain⟨hT,ht⟩:=hφ;rw[h1] at hx;rw[h2] at hy;have hyv:ρv y=.string s:=by
    generalize ρv y=u at hy;cases hy with|d h=>cases h;rfl
   generalize hxv:ρv x=xv at hx;cases hx with
   | mp hx =>
    obtain⟨_,_,r,rfl,hx⟩:=hx;obtain⟨_,z,hz⟩:=hm.toks t ht;obtain⟨rfl,hk,en,k,hh,he,how⟩:=hx z hz;have hrun:=mF hT hh he s;refine⟨.value _,_,G,w,by simp only[execOp,ho,hxv,hyv,Sem.run_bind,hrun,Result.andThen_ok,Sem.run_pure];rfl,.inl rfl,Le.refl G w,?_,hm,rfl⟩;unfold aLx;rw[xL,mpE,List.map_map,show ((fun x:ByteArray × List (List D)=>x.1) ∘ fun e:ByteArray × List (List D) × Own=>(e.1,e.2.1))=fun e=>e.1 from rfl,uV];cases hi:es.findIdx? fun e=>decide (e.1=s) with
    | none=>exact RV.nil0
    | some i =>
     have hlt:=(List.findIdx?_eq_some_iff_getElem.1 hi).1;have hlt2:i<en.size:=by have:=he.1;simp[mpE] at this;omega
     have hr:=(he.2 i (by simpa[mpE] using hlt) hlt2).2;simp only[mpE,List.getElem_map] at hr;simp only[Option.bind_some,List.getElem?_eq_getElem hlt,Array.getElem?_eq_getElem hlt2,Option.map_some,Option.getD_some];exact .osl hr (how i hlt hlt2)
  .rename_i es s h1 h2;simp only[Option.some.injEq,Prod.mk.injEq] at h;obtain⟨rfl,rfl,rfl,rfl⟩:=h;have hT:=hφ;rw[h1] at hx;rw[h2] at hy;have hyv:ρv y=.string s:=by
    generalize ρv y=u at hy;cases hy with|d h=>cases h;rfl
   generalize hxv:ρv x=xv at hx;cases hx with
   | mpd hx =>
    obtain⟨r,rfl,hk,en,k,hh,he⟩:=hx;have hrun:=mF hT hh he s;refine⟨.value _,_,G,w,by simp only[execOp,ho,hxv,hyv,Sem.run_bind,hrun,Result.andThen_ok,Sem.run_pure];rfl,.inl rfl,Le.refl G w,?_,hm,rfl⟩;unfold aHJ;rw[xL,uV];cases hi:es.findIdx? fun e=>decide (e.1=s) with
    | none=>exact RV.nil0
    | some i =>
     have hlt:=(List.findIdx?_eq_some_iff_getElem.1 hi).1;have hlt2:i<en.size:=by rw[<-he.1];exact hlt
     simp only[Option.bind_some,List.getElem?_eq_getElem hlt,Array.getElem?_eq_getElem hlt2,Option.map_some,Option.getD_some];exact .d (he.2 i hlt hlt2).2
  .cases h
 .cases h
theorem aEa{o:Oper}{ρ:Operand->AV}{ρv:Operand->Value}{G:Gh}{m:bH}{w:World}{v:AV}{tok':Nat->Bool}{nt':Nat}(h:aEi P o ρ m.tok m.nt v tok' nt')(hρ:∀x∈o.op.operands,RV G w (ρ x) (ρv x))(hm:aV G m w):
  dJ P o ρv G w fun u G' w'=>RV G' w' v u/\aV G' { m with tok:=tok',nt:=nt' } w'/\G'.bx=G.bx:=by
 rcases h with h|h|h
 .exact aC3 h hρ hm
 .exact aEG h hρ hm
 .exact aEb h hρ hm
variable {P:Program}
def aO(P:Program)(T:TypeId):Option (List (Nat × Nat)):=match P.underlying T with
 | some (.struct fs)=>if fs.toList.all (fun f=>(P.info? f.type).isSome) then some (fs.toList.map fun f=>(f.offset,((P.info? f.type).map (·.size)).getD 0)) else none
 | _=>none
def vJ(P:Program)(T:TypeId):Option (List (Nat × Nat)):=match aO P T with
 | some pl=>some pl
 | none=>match pQ P T with
  | some (n,e)=>match aT P e with
   | some s=>some ((List.range n).map fun i=>(i*s,s))
   | none=>none
  | none=>none
def rA(pl:List (Nat × Nat))(cells:List AV):List (Nat × AV)->Option (List AV)
 | []=>some cells
 | (i,x)::r=>match pl[i]?,x.cells? with
  | some (off,n),some cs=>if cs.length=n/\off+n<=cells.length then rA pl (setCells cells off cs) r else none
  | _,_=>none
def eF(P:Program)(op:BinOp)(T:TypeId)(a b r:Value):Prop:=r.oneCell'=true/\∀x y w,Sem.run P (do eqGuard op T x y a b;binOp op T a b) w=.ok r w
def aK5(P:Program)(op:UnOp)(a r:Value):Prop:=r.oneCell'=true/\∀w,Sem.run P (Op.unary op a) w=.ok r w
def aDH(P:Program)(s t:TypeId)(a r:Value):Prop:=r.oneCell'=true/\∀w,Sem.run P (convert s t a) w=.ok r w
def nQ(P:Program)(b:Builtin)(ts:Array TypeId)(t:TypeId)(vs:List Value)(r:Value):Prop:=r.oneCell'=true/\∀cs w,Sem.run P (builtin b ts t cs vs.toArray) w=.ok (.value r) w
def dD(ρ:Operand->AV)(o:Option Operand)(dflt n:Nat):Prop:=match o with
 | none=>n=dflt
 | some x=>match ρ x with
  | .d (.raw (.int _ k))=>k=(n:Int)
  | _=>False
def mB:List AV->Option (List (List D))
 | []=>some []
 | x::r=>match x.cells?,mB r with
  | some cs,some rs=>match yO cs with
   | some ds=>some (ds::rs)
   | none=>none
  | _,_=>none
def lenOf(P:Program)(T:TypeId)(x:AV)(v:AV):Prop:=match x with
 | .msl _ _ n _=>(aF P T).isSome=true/\v=.d (.raw (.int .i64 n))
 | .d (.raw (.string s))=>aY P T=true/\v=.d (.raw (.int .i64 s.size))
 | .d (.sl _ es)=>(aF P T).isSome=true/\v=.d (.raw (.int .i64 es.length))
 | .osl _ es _=>(aF P T).isSome=true/\v=.d (.raw (.int .i64 es.length))
 | .stk _ _ es=>(aF P T).isSome=true/\v=.d (.raw (.int .i64 es.length))
 | .que _ _ es=>(aF P T).isSome=true/\v=.d (.raw (.int .i64 es.length))
 | _=>False
def idxOf(P:Program)(T:TypeId)(x:AV)(n:Int)(v:AV):Prop:=match aW P T,x with
 | some (_,sz,_),.msl k off len sz'=>0<=n/\n<len/\sz'=sz/\v=.ptr k (off+n.toNat) 0
 | some (_,sz,_),.d (.sl _ es)=>0<=n/\∃e,es[n.toNat]?=some e/\e.length=sz/\v=.cptr e 0
 | some (_,sz,_),.osl _ es _=>0<=n/\∃e,es[n.toNat]?=some e/\e.length=sz/\v=.cptr e 0
 | some (_,sz,_),.que _ _ es=>0<=n/\∃e,es[n.toNat]?=some e/\e.length=sz/\v=.cptr e 0
 | none,.cptr cs off=>match pQ P T with
  | some (len,E)=>match aT P E with
   | some sz=>0<=n/\n<len/\v=.cptr cs (off+n.toNat*sz)
   | none=>False
  | none=>False
 | none,.ptr k i off=>match pQ P T with
  | some (len,E)=>match aT P E with
   | some sz=>0<=n/\n<len/\v=.ptr k i (off+n.toNat*sz)
   | none=>False
  | none=>False
 | _,_=>False
def dC(P:Program)(T:TypeId)(ρ:Operand->AV)(x:AV)(lo hi mx:Option Operand)(v:AV):Prop:=match x with
 | .msl k off n sz=>match aW P T with
  | some (_,sz',_)=>sz'=sz/\mx=none/\∃l h,dD ρ lo 0 l/\dD ρ hi n h/\l<=h/\h<=n/\(l<n∨l=0)/\v=.msl k (off+l) (h-l) sz
  | none=>False
 | .stk t sz es=>match aW P T with
  | some (_,sz',_)=>sz'=sz/\lo=none/\∃h,dD ρ hi es.length h/\h<=es.length /\
    (match mx with
     | none=>v=.stk t sz (es.take h)
     | some _=>h=0/\hi.isSome=true/\dD ρ mx 0 0/\v=.osl sz [] .full)
  | none=>False
 | .que t sz es=>match aW P T with
  | some (_,sz',_)=>sz'=sz/\hi=none/\mx=none/\∃l,dD ρ lo 0 l/\l<=es.length/\v=.que t sz (es.drop l)
  | none=>False
 | .d (.raw (.string s))=>aY P T=true/\mx=none/\∃l h,dD ρ lo 0 l/\dD ρ hi s.size h/\l<=h/\h<=s.size/\v=.d (.raw (.string (s.extract l h)))
 | x=>match aW P T,x.elems? with
  | some (_,sz,_),some (sz',es)=>∃l h,(sz'=sz∨es=[])/\dD ρ lo 0 l/\dD ρ hi es.length h/\l<=h/\h<=es.length /\
    (match mx with
     | none=>v=.d (.sl sz ((es.take h).drop l))
     | some _=>hi.isSome=true/\dD ρ mx 0 h/\v=.osl sz ((es.take h).drop l) .full)
  | _,_=>False
def aAW(P:Program)(base:Nat)(o:Oper)(ρ:Operand->AV)(v:AV):Prop:=match o.op with
 | .move x=>v=ρ x
 | .assign x=>v=ρ x
 | .pick c a b=>match ρ c with
  | .d (.raw (.bool t))=>v=(match t with|true=>ρ a|false=>ρ b)
  | _=>False
 | .alloc _=>match o.dst with
  | some s=>v=.ptr (base+s) 0 0
  | none=>False
 | .build T parts=>match vJ P T,aH P T with
  | some pl,some zs=>match rA pl (zs.map cC) (parts.toList.map fun p=>(p.1,ρ p.2)) with
   | some cs=>v=.agg cs
   | none=>False
  | _,_=>False
 | .buildSlice T len parts=>match aW P T,mB (parts.toList.map fun p=>ρ p.2) with
  | some (_,sz,_),some rows=>parts.toList.map (·.1)=List.range len/\(∀r∈rows,r.length=sz)/\len*sz<=16777216/\v=.osl sz rows .full
  | _,_=>False
 | .nilCheck x=>match ρ x with
  | .ptr k i off=>v=.ptr k i off
  | .cptr cs off=>v=.cptr cs off
  | .fn (.func f) caps=>v=.fn (.func f) caps
  | _=>False
 | .binOp op T x y _=>match gN (ρ x),gN (ρ y) with
  | some a,some b=>∃r,eF P op T a b r/\v=.d (.raw r)
  | _,_=>False
 | .unOp op _ x=>match gN (ρ x) with
  | some a=>∃r,aK5 P op a r/\v=.d (.raw r)
  | none=>False
 | .convert s t x=>match gN (ρ x) with
  | some a=>∃r,aDH P s t a r/\v=.d (.raw r)
  | none=>False
 | .makeFunc fn first caps=>first.toList=[]/\v=.fn fn (caps.toList.map ρ)
 | .fieldAddr T x f=>match aO P T with
  | some pl=>match pl[f]?,ρ x with
   | some (off,n),.cptr cs o'=>n≠0/\v=.cptr cs (o'+off)
   | some (off,n),.ptr k i o'=>n≠0/\v=.ptr k i (o'+off)
   | _,_=>False
  | none=>False
 | .field T x f=>match aB P T f,ρ x with
  | some (ft,off),.agg cs=>match aX P ft,aT P ft with
   | some ag,some n=>rG ag n cs off=some v
   | _,_=>False
  | _,_=>False
 | .indexAddr T x i=>match ρ i with
  | .d (.raw (.int _ n))=>idxOf P T (ρ x) n v
  | _=>False
 | .index T x i=>match ρ x,ρ i with
  | .d (.raw (.string s)),.d (.raw (.int _ n))=>aY P T=true/\0<=n/\∃b,s[n.toNat]?=some b/\v=.d (.raw (.int .u8 b.toNat))
  | _,_=>False
 | .extract t i=>match ρ t with
  | .tup vs=>vs[i]?=some v
  | _=>False
 | .slice T x lo hi mx=>dC P T ρ (ρ x) lo hi mx v
 | .call c=>match c.callee,c.args.toList.map ρ,c.argTypes.toList with
  | .builtin .len,[x],[T]=>lenOf P T x v
  | .builtin .append,_,_=>False
  | .builtin b,_,_=>match gC (c.args.toList.map ρ) with
   | some vs=>∃r,nQ P b c.argTypes o.type vs r/\v=.d (.raw r)
   | none=>False
  | _,_,_=>False
 | _=>False
theorem jM(k:IntKind)(n:Int)(w:World):(asIntOf (.int k n)).run P w=.ok (k,n) w:=rfl
theorem oC{T E sz by':Nat}(h:aW P T=some (E,sz,by')):P.underlying T=some (.slice E)/\aT P E=some sz/\0<sz:=by
 obtain⟨h1,i,z,hi,_,_,hs,_,h2,_⟩:=fE h;exact⟨h1,by simp[aT,hi,hs],h2⟩
theorem iO{T E:Nat}(h:aF P T=some E):P.underlying T=some (.slice E):=by
 unfold aF at h;split at h
 .simp_all
 .cases h
theorem rV{T:Nat}(h:aY P T=true):P.underlying T=some .string:=by
 unfold aY at h;split at h
 .assumption
 .cases h
theorem aBX{T ty:Nat}{x v:AV}{xv:Value}{G:Gh}{w:World}(h:lenOf P T x v)(hx:RV G w x xv):∃u,(Builtin.len_ #[T] ty #[xv]).run P w=.ok u w/\RV G w v u:=by
 unfold lenOf at h;split at h
 .rename_i k off n sz;obtain⟨h1,rfl⟩:=h;obtain⟨E,hE⟩:=Option.isSome_iff_exists.1 h1;have hU:=iO hE;cases hx with
  | msl h1 h2 h3=>exact⟨.int .i64 n,by simp[Builtin.len_,run_underlying hU,goInt],.raw rfl⟩
 .rename_i s;obtain⟨h1,rfl⟩:=h;have hU:=rV h1;cases hx with
  | d h=>cases h;exact⟨.int .i64 s.size,by simp[Builtin.len_,run_underlying hU,goInt],.raw rfl⟩
 .rename_i sz es;obtain⟨h1,rfl⟩:=h;obtain⟨E,hE⟩:=Option.isSome_iff_exists.1 h1;have hU:=iO hE;cases hx with
  | d h=>cases h;exact⟨.int .i64 es.length,by simp[Builtin.len_,run_underlying hU,goInt],.raw rfl⟩
 .rename_i sz es o;obtain⟨h1,rfl⟩:=h;obtain⟨E,hE⟩:=Option.isSome_iff_exists.1 h1;have hU:=iO hE;cases hx with
  | osl h _=>cases h;exact⟨.int .i64 es.length,by simp[Builtin.len_,run_underlying hU,goInt],.raw rfl⟩
 .rename_i t sz es;obtain⟨h1,rfl⟩:=h;obtain⟨E,hE⟩:=Option.isSome_iff_exists.1 h1;have hU:=iO hE;cases hx with
  | stk h =>
   obtain⟨_,A,cap,rfl,_⟩:=h;exact⟨.int .i64 es.length,by simp[Builtin.len_,run_underlying hU,goInt],.raw rfl⟩
 .rename_i t sz es;obtain⟨h1,rfl⟩:=h;obtain⟨E,hE⟩:=Option.isSome_iff_exists.1 h1;have hU:=iO hE;cases hx with
  | que h _=>cases h;exact⟨.int .i64 es.length,by simp[Builtin.len_,run_underlying hU,goInt],.raw rfl⟩
 .exact h.elim
theorem iB{T E sz:Nat}(hE:P.underlying T=some (.slice E))(hs:aT P E=some sz)(a:Addr)(len cap:Nat)(k:IntKind)(n:Int)(h0:0<=n)(h1:n<len)(w:World):
  (Instr.indexAt T (.slice (some a) len cap) (.int k n)).run P w=.ok (.pointer (some (a.add (n.toNat*sz)))) w:=by
 have h01:0<=n/\n<(len:Int):=⟨h0,h1⟩
 simp only[Instr.indexAt,Sem.run_bind,jM,Result.andThen_ok,run_underlying hE,Sem.run_pure,h01,and_self,↓reduceIte,bP hs]
theorem iU{T E sz L:Nat}(hE:P.underlying T=some (.array L E))(hs:aT P E=some sz)(a:Addr)(k:IntKind)(n:Int)(h0:0<=n)(h1:n<L)(w:World):
  (Instr.indexAt T (.pointer (some a)) (.int k n)).run P w=.ok (.pointer (some (a.add (n.toNat*sz)))) w:=by
 have h01:0<=n/\n<(L:Int):=⟨h0,h1⟩
 simp only[Instr.indexAt,Sem.run_bind,jM,Result.andThen_ok,run_underlying hE,Sem.run_pure,h01,and_self,↓reduceIte,bP hs,Instr.sureAddr]
theorem aD8{T E sz by' sz0:Nat}(hrow:aW P T=some (E,sz,by')){es:List (List D)}{e:List D}{k:IntKind}{n:Int}{xv:Value}{G:Gh}{w:World}(hx:RVd w.cell? G.ps (.sl sz0 es) xv)(h0:0<=n)(he:es[n.toNat]?=some e)(hl:e.length=sz):
  ∃u,(Instr.indexAt T xv (.int k n)).run P w=.ok u w/\RV G w (.cptr e 0) u:=by
 obtain⟨hE,hs,hp⟩:=oC hrow;obtain⟨hlt,rfl⟩:=List.getElem?_eq_some_iff.1 he;cases hx with
 | sl u hcap hmax hsz hA hc hr =>
  rename_i A cap;have hszz:sz0=sz:=(hsz _ (List.getElem_mem hlt)).symm.trans hl
  subst hszz;obtain⟨a,rfl⟩:=hA (by intro h;subst h;simp at hlt);refine⟨_,iB hE hs a _ cap k n h0 (by omega) w,?_⟩;have:(a.add (n.toNat*sz0))=(a.add (n.toNat*sz0)).add 0:=by simp[Addr.add]
  rw[this];refine .cptr _ (fun j=>u n.toNat j) (fun j hj=>?_) (fun j hj=>hr n.toNat j hlt hj);rw[add_add];exact hc a rfl n.toNat j hlt (by rw[<-hl];exact hj)
theorem aCO{T:Nat}{x v:AV}{k:IntKind}{n:Int}{xv:Value}{G:Gh}{w:World}(h:idxOf P T x n v)(hx:RV G w x xv):∃u,(Instr.indexAt T xv (.int k n)).run P w=.ok u w/\RV G w v u:=by
 unfold idxOf at h;split at h
 .rename_i E sz by' key off len sz' hrow
  obtain⟨h0,h1,rfl,rfl⟩:=h;obtain⟨hE,hs,hp⟩:=oC hrow;cases hx with
  | msl hb hn hc =>
   rename_i b cap;refine⟨_,iB hE hs _ _ cap k n h0 h1 w,?_⟩;rw[bK];have:off*sz'+n.toNat*sz'=(off+n.toNat)*sz'+0:=by rw[Nat.add_mul];omega
   rw[this];exact .ptr hb
 .rename_i E sz by' sz0 es hrow
  obtain⟨h0,e,he,hl,rfl⟩:=h;cases hx with
  | d hx=>exact aD8 hrow hx h0 he hl
 .rename_i E sz by' sz0 es o hrow
  obtain⟨h0,e,he,hl,rfl⟩:=h;cases hx with
  | osl hx _=>exact aD8 hrow hx h0 he hl
 .rename_i E sz by' t sz0 es hrow
  obtain⟨h0,e,he,hl,rfl⟩:=h;cases hx with
  | que hx _=>exact aD8 hrow hx h0 he hl
 .split at h
  .rename_i cs off hrow L E harr;split at h
   .rename_i sz hs;obtain⟨h0,h1,rfl⟩:=h;have hE:P.underlying T=some (.array L E):=by
     unfold pQ at harr;split at harr
     .simp_all
     .cases harr
    cases hx with
    | cptr a u hc hr =>
     refine⟨_,iU hE hs _ k n h0 h1 w,?_⟩;rw[add_add];exact .cptr a u hc hr
   .exact h.elim
  .exact h.elim
 .split at h
  .rename_i key i off hrow xx L E harr;split at h
   .rename_i sz hs;obtain⟨h0,h1,rfl⟩:=h;have hE:P.underlying T=some (.array L E):=by
     unfold pQ at harr;split at harr
     .simp_all
     .cases harr
    cases hx with
    | ptr hb =>
     rename_i b bsz;refine⟨_,iU hE hs _ k n h0 h1 w,?_⟩;have e:(⟨b,i*bsz+off,none⟩:Addr).add (n.toNat*sz)=⟨b,i*bsz+(off+n.toNat*sz),none⟩:=by rw[bK,Nat.add_assoc]
     rw[e];exact .ptr hb
   .exact h.elim
  .exact h.elim
 .exact h.elim
theorem aCo{ρ:Operand->AV}{ρv:Operand->Value}{G:Gh}{w:World}{o:Option Operand}{d n:Nat}(h:dD ρ o d n)(hρ:∀x,o=some x->RV G w (ρ x) (ρv x)):
  (o=none/\n=d)∨∃x k,o=some x/\ρv x=.int k (n:Int):=by
 unfold dD at h;split at h
 .exact .inl ⟨rfl,h⟩
 .rename_i x;split at h
  .rename_i k m hx;have hr:=hρ x rfl;rw[hx] at hr;generalize hv:ρv x=v at hr;cases hr with
   | d hd=>cases hd;subst h;exact .inr ⟨x,k,rfl,hv⟩
  .exact h.elim
variable {P:Program}
theorem mJ(k:IntKind)(n y:Nat)(code:BoundsCode)(h:n<=y)(w:World):(Instr.sliceBound (.int k (n:Int)) y code).run P w=.ok n w:=by
 have h1:(0:Int)<=n/\(n:Int)<=y:=by omega
 simp only[Instr.sliceBound,Sem.run_bind,jM,Result.andThen_ok,h1,and_self,↓reduceIte,Sem.run_pure,Int.toNat_natCast]
theorem cH{b:Bool}{len cap l h m:Nat}{low high mx:Option Value}(hm:(mx=none/\m=cap)∨∃k,mx=some (.int k (m:Int)))(hmc:m<=cap)(hh:(high=none/\mx=none/\h=len)∨∃k,high=some (.int k (h:Int)))(hhm:h<=m)(hl:(low=none/\l=0)∨∃k,low=some (.int k (l:Int)))(hlh:l<=h)(w:World):
  (Instr.sliceBounds b len cap low high mx).run P w=.ok (l,h,m) w:=by
 rcases hm with ⟨rfl,rfl⟩|⟨km,rfl⟩
 .rcases hh with ⟨rfl,_,rfl⟩|⟨kh,rfl⟩<;>rcases hl with ⟨rfl,rfl⟩|⟨kl,rfl⟩ <;>
   simp[Instr.sliceBounds,mJ,hmc,hhm,hlh]
 .rcases hh with ⟨rfl,h1,rfl⟩|⟨kh,rfl⟩
  .cases h1
  .rcases hl with ⟨rfl,rfl⟩|⟨kl,rfl⟩ <;>
    simp[Instr.sliceBounds,mJ,hmc,hhm,hlh]
theorem eC{ρ:Operand->AV}{ρv:Operand->Value}{G:Gh}{w:World}{o:Option Operand}{d n:Nat}(h:dD ρ o d n)(hρ:∀x,o=some x->RV G w (ρ x) (ρv x)):
  (o.map ρv=none/\o=none/\n=d)∨∃k,o.map ρv=some (.int k (n:Int)):=by
 rcases aCo h hρ with ⟨rfl,h1⟩|⟨x,k,rfl,h1⟩
 .exact .inl ⟨rfl,rfl,h1⟩
 .exact .inr ⟨k,by simp[h1]⟩
theorem nO{T:Nat}{ρ:Operand->AV}{ρv:Operand->Value}{x v:AV}{xv:Value}{lo hi mx:Option Operand}{G:Gh}{w:World}(h:dC P T ρ x lo hi mx v)(hnq:∀t sz es,x=.que t sz es->False)(hx:RV G w x xv)(hlo:∀y,lo=some y->RV G w (ρ y) (ρv y))(hhi:∀y,hi=some y->RV G w (ρ y) (ρv y))(hmx:∀y,mx=some y->RV G w (ρ y) (ρv y)):
    ∃u,(Instr.sliceAt T xv (lo.map ρv) (hi.map ρv) (mx.map ρv)).run P w=.ok u w/\RV G w v u:=by
  unfold dC at h;split at h
  . rename_i k off n sz
    split at h
    . rename_i E sz' by' hrow
      obtain⟨rfl,rfl,l,h',ol,oh,hlh,hhs,hl0,rfl⟩:=h;obtain⟨hE,hs,hp⟩:=oC hrow;cases hx with
      | msl hb hn hc =>
        rename_i b cap;have hb':=cH (P:=P) (b:=true) (len:=n) (cap:=cap) (l:=l) (h:=h') (m:=cap) (low:=lo.map ρv) (high:=hi.map ρv) (mx:=none) (.inl ⟨rfl,rfl⟩) (nr0 _)
          ((eC oh hhi).imp (fun h=>⟨h.1,rfl,h.2.2⟩) id) (by omega) ((eC ol hlo).imp (fun h=>⟨h.1,h.2.2⟩) id) hlh w
        refine⟨.slice (if cap=l then some ⟨b,off*sz',none⟩ else (some (⟨b,off*sz',none⟩:Addr)).map (·.add (l*sz'))) (h'-l) (cap-l),?_,?_⟩
        . simp only[Instr.sliceAt,Sem.run_bind,run_underlying hE,Result.andThen_ok,Instr.slice,Option.map_none,Option.isSome_none,Bool.false_eq_true,↓reduceIte,Sem.run_pure,hb',bP hs]
        . have e:(if cap=l then some (⟨b,off*sz',none⟩:Addr) else (some (⟨b,off*sz',none⟩:Addr)).map (·.add (l*sz')))=some ⟨b,(off+l)*sz',none⟩:=by
            split
            . have:l=0:=by omega
              subst this;simp
            . rw[Option.map_some,bK,Nat.add_mul]
          rw[e];exact .msl hb (by omega) (by omega)
    . exact h.elim
  . rename_i t sz es
    split at h
    . rename_i E sz' by' hrow
      obtain⟨rfl,rfl,h',oh,hhs,hv⟩:=h;obtain⟨hE,hs,hp⟩:=oC hrow;cases hx with
      | stk hst =>
        obtain⟨h1,A,cap,rfl,hcap,hmax,hst⟩:=hst;split at hv
        . subst hv
          have hb':=cH (P:=P) (b:=true) (len:=es.length) (cap:=cap) (l:=0) (h:=h') (m:=cap) (low:=none) (high:=hi.map ρv) (mx:=none) (.inl ⟨rfl,rfl⟩) (nr0 _)
            ((eC oh hhi).imp (fun h=>⟨h.1,rfl,h.2.2⟩) id) (by omega) (.inl ⟨rfl,rfl⟩) (Nat.zero_le _) w
          refine⟨.slice (if cap=0 then A else A.map (·.add (0*sz'))) (h'-0) (cap-0),?_,?_⟩
          . simp only[Instr.sliceAt,Sem.run_bind,run_underlying hE,Result.andThen_ok,Instr.slice,Option.map_none,Option.isSome_none,Bool.false_eq_true,↓reduceIte,Sem.run_pure,hb',bP hs]
          . have e:(if cap=0 then A else A.map (·.add (0*sz')))=A:=by
              split
              . rfl
              . cases A<;>simp[Addr.add]
            rw[e];have hl:(es.take h').length=h':=by simp[hhs]
            refine .stk ⟨h1,A,cap,by rw[hl];rfl,by omega,hmax,fun x hx=>?_⟩;have h0:=hst x hx;cases x with
            | none=>exact h0
            | some g =>
              obtain⟨hA,vs,sp,e,k1,k2,k3,k4,k5⟩:=h0;have hvl:=k4.len;have hle:h'*sz'<=es.length*sz':=Nat.mul_le_mul_right _ hhs
              refine⟨hA,vs.take (h'*sz'),vs.drop (h'*sz')++sp,e,k1,by rw[<-List.append_assoc,List.take_append_drop];exact k2,by rw[<-List.append_assoc,List.take_append_drop];exact k3,?_,fun u hu=>?_⟩
              . refine⟨by rw[List.length_take,hl,hvl];omega,fun u hu=>k4.one u (List.mem_of_mem_take hu),fun q hq=>k4.each q (List.mem_of_mem_take hq),fun i j hi hj=>?_⟩
                rw[hl] at hi;simp only[List.getElem_take] at hj ⊢;obtain⟨u,hu,hr⟩:=k4.read i j (by omega) hj;refine⟨u,?_,hr⟩;have hjs:j<sz':=by rw[<-k4.each _ (List.getElem_mem (by omega:i<es.length))];exact hj
                have:(i+1)*sz'<=h'*sz':=Nat.mul_le_mul_right _ (by omega)
                rw[Nat.add_mul] at this;rw[List.getElem?_take_of_lt (by omega)];exact hu
              . rcases List.mem_append.1 hu with hu|hu
                . exact k4.one u (List.mem_of_mem_drop hu)
                . exact k5 u hu
        . rename_i mxo
          obtain⟨rfl,hsome,om,rfl⟩:=hv;obtain⟨ho,rfl⟩:=Option.isSome_iff_exists.1 hsome;have hb':=cH (P:=P) (b:=true) (len:=es.length) (cap:=cap) (l:=0) (h:=0) (m:=0) (low:=none) (high:=some (ρv ho)) (mx:=some (ρv mxo))
            (by rcases eC om hmx with h|⟨k,h⟩;· exact absurd h.1 (by simp)
                . exact .inr ⟨k,h⟩) (Nat.zero_le _)
            (by rcases eC oh hhi with h|⟨k,h⟩;· exact absurd h.1 (by simp)
                . exact .inr ⟨k,h⟩) (nr0 _) (.inl ⟨rfl,rfl⟩) (nr0 _) w
          refine⟨.slice (if 0=0 then A else A.map (·.add (0*sz'))) (0-0) (0-0),?_,?_⟩
          . simp only[Instr.sliceAt,Sem.run_bind,run_underlying hE,Result.andThen_ok,Instr.slice,Option.map_none,Option.map_some,Option.isSome_none,Bool.false_eq_true,↓reduceIte,Sem.run_pure,hb',bP hs]
          . exact .osl (.sl (es:=[]) (fun _ _=>default) (Nat.zero_le _) (Nat.zero_le _) (by simp) (by simp) (fun a _ i j hi _=>by simp at hi) (fun i j hi _=>by simp at hi)) ⟨_,rfl,fun e=>absurd e (by omega)⟩
    . exact h.elim
  . exact(hnq _ _ _ rfl).elim
  . rename_i s
    obtain⟨hT,rfl,l,h',ol,oh,hlh,hhs,rfl⟩:=h;have hU:=rV hT;have hxs:xv=.string s:=by cases hx with|d h=>cases h;rfl
    subst hxs;have hb:=cH (P:=P) (b:=false) (len:=s.size) (cap:=s.size) (l:=l) (h:=h') (m:=s.size) (low:=lo.map ρv) (high:=hi.map ρv) (mx:=none) (.inl ⟨rfl,rfl⟩) (nr0 _)
      ((eC oh hhi).imp (fun h=>⟨h.1,rfl,h.2.2⟩) id) hhs ((eC ol hlo).imp (fun h=>⟨h.1,h.2.2⟩) id) hlh w
    refine⟨.string (s.extract l h'),?_,.raw rfl⟩;simp only[Instr.sliceAt,Sem.run_bind,run_underlying hU,Result.andThen_ok,Instr.slice,Option.map_none,Option.isSome_none,Bool.false_eq_true,↓reduceIte,Sem.run_pure,hb]
  . split at h
    . rename_i E sz by' sz' es hrow hes
      obtain⟨l,h',hsz,ol,oh,hlh,hhs,hv⟩:=h;obtain⟨hE,hs,hp⟩:=oC hrow;obtain⟨A,cap,vs,rfl,hcap,hmax,hf⟩:=(hx.elems hes).flat;have hf':gX w.cell? G.ps sz es A vs:=hf.resize hsz
      have fin:∀m,h'<=m->m<=cap->gX w.cell? G.ps sz ((es.take h').drop l) (if m=l then A else A.map (·.add (l*sz))) ((vs.take (h'*sz)).drop (l*sz)):=by
        intro m hm1 hm2;have hvl:=hf'.len;constructor
        . simp only[List.length_drop,List.length_take,hvl,Nat.min_eq_left hhs,Nat.min_eq_left (Nat.mul_le_mul_right sz hhs),Nat.sub_mul]
        . intro a ha q u hq
          simp only[List.getElem?_drop,List.getElem?_take] at hq;split at hq
          . rename_i hlt
            have hml:m≠l:=by
              intro e;have:h'=l:=by omega
              subst this;omega
            rw[if_neg hml] at ha;obtain⟨a0,hA,rfl⟩:=Option.map_eq_some_iff.1 ha;rw[add_add];exact hf'.at_ a0 hA _ u hq
          . cases hq
        . intro u hu
          exact hf'.one u (List.mem_of_mem_take (List.mem_of_mem_drop hu))
        . intro hne
          have hlt:l<h':=by
            rcases Nat.lt_or_ge l h' with h|h
            . exact h
            . exact absurd (List.drop_of_length_le (by simp;omega)) hne
          obtain⟨a,rfl⟩:=hf'.some_ (by intro e;subst e;simp at hhs;omega);rw[if_neg (by omega)];exact⟨_,rfl⟩
        . intro e he
          exact hf'.each e (List.mem_of_mem_take (List.mem_of_mem_drop he))
        . intro i j hi' hj
          simp only[List.length_drop,List.length_take,Nat.min_eq_left hhs] at hi';simp only[List.getElem_drop,List.getElem_take] at hj ⊢;obtain⟨u,hu,hr⟩:=hf'.read (l+i) j (by omega) hj;refine⟨u,?_,hr⟩;have hjs:j<sz:=by rw[<-hf'.each _ (List.getElem_mem (by omega:l+i<es.length))];exact hj
          have e1:l*sz+(i*sz+j)=(l+i)*sz+j:=by rw[Nat.add_mul];omega
          rw[List.getElem?_drop,List.getElem?_take,if_pos,e1]
          . exact hu
          . have:(l+i+1)*sz<=h'*sz:=Nat.mul_le_mul_right _ (by omega)
            rw[Nat.add_mul,Nat.add_mul] at this;omega
      have hlen:((es.take h').drop l).length=h'-l:=by simp only[List.length_drop,List.length_take,Nat.min_eq_left hhs]
      cases mx with
      | none =>
        simp only at hv;subst hv;have hb:=cH (P:=P) (b:=true) (len:=es.length) (cap:=cap) (l:=l) (h:=h') (m:=cap) (low:=lo.map ρv) (high:=hi.map ρv) (mx:=none) (.inl ⟨rfl,rfl⟩) (nr0 _)
          ((eC oh hhi).imp (fun h=>⟨h.1,rfl,h.2.2⟩) id) (by omega) ((eC ol hlo).imp (fun h=>⟨h.1,h.2.2⟩) id) hlh w
        refine⟨.slice (if cap=l then A else A.map (·.add (l*sz))) (h'-l) (cap-l),?_,.d ?_⟩
        . simp only[Instr.sliceAt,Sem.run_bind,run_underlying hE,Result.andThen_ok,Instr.slice,Option.map_none,Option.isSome_none,Bool.false_eq_true,↓reduceIte,Sem.run_pure,hb,bP hs]
        . have:=RVd.of_flat (cap:=cap-l) (by rw[hlen];omega) (by omega) (fin cap (by omega) (nr0 _))
          rw[hlen] at this;exact this
      | some y =>
        simp only at hv;obtain⟨hsome,om,rfl⟩:=hv;have ohm:=eC om hmx;have hm':∃k,(some y).map ρv=some (.int k (h':Int)):=by
          rcases ohm with ⟨h,_⟩|h
          . simp at h
          . exact h
        have hh':∃k,hi.map ρv=some (.int k (h':Int)):=by
          rcases eC oh hhi with ⟨_,h,_⟩|h
          . subst h;simp at hsome
          . exact h
        have hb:=cH (P:=P) (b:=true) (len:=es.length) (cap:=cap) (l:=l) (h:=h') (m:=h') (low:=lo.map ρv) (high:=hi.map ρv) (mx:=(some y).map ρv) (.inr hm') (by omega)
          (.inr hh') (nr0 _) ((eC ol hlo).imp (fun h=>⟨h.1,h.2.2⟩) id) hlh w
        refine⟨.slice (if h'=l then A else A.map (·.add (l*sz))) (h'-l) (h'-l),?_,.osl ?_ ?_⟩
        . simp only[Instr.sliceAt,Sem.run_bind,run_underlying hE,Result.andThen_ok,Instr.slice,Option.map_none,Option.isSome_none,Bool.false_eq_true,↓reduceIte,Sem.run_pure,hb,bP hs]
        . have:=RVd.of_flat (cap:=h'-l) (by rw[hlen];omega) (by omega) (fin h' (nr0 _) (by omega))
          rw[hlen] at this;exact this
        . rw[hlen];exact⟨_,rfl,fun e=>absurd e (by omega)⟩
    . exact h.elim
theorem yM{T:Nat}{ρ:Operand->AV}{ρv:Operand->Value}{x v:AV}{xv:Value}{lo hi mx:Option Operand}{G:Gh}{w:World}(h:dC P T ρ x lo hi mx v)(hx:RV G w x xv)(hlo:∀y,lo=some y->RV G w (ρ y) (ρv y))(hhi:∀y,hi=some y->RV G w (ρ y) (ρv y))(hmx:∀y,mx=some y->RV G w (ρ y) (ρv y)):
  ∃u,(Instr.sliceAt T xv (lo.map ρv) (hi.map ρv) (mx.map ρv)).run P w=.ok u w/\RV G w v u:=by
 by_cases hq:∃t sz es,x=.que t sz es
 .obtain⟨t,sz,es,rfl⟩:=hq;unfold dC at h;simp only at h;split at h
  .rename_i E sz' by' hrow
   obtain⟨rfl,rfl,rfl,l,ol,hl,rfl⟩:=h;obtain⟨hE,hs,hp⟩:=oC hrow;cases hx with
   | que hd hq =>
    have h0:dC P T ρ (.d (.sl sz' es)) lo none none (.d (.sl sz' ((es.take es.length).drop l))):=by
     unfold dC;simp only[hrow,AV.elems?];exact⟨l,es.length,by simp,ol,rfl,hl,nr0 _,by simp⟩
    obtain⟨u,hr,hu⟩:=nO (w:=w) h0 (fun _ _ _ h=>by cases h) (.d hd) hlo (fun y h=>by cases h) (fun y h=>by cases h);obtain⟨A,cap,vs,rfl,hcap,hmax,hf⟩:=hd.flat;have hb:=cH (P:=P) (b:=true) (len:=es.length) (cap:=cap) (l:=l) (h:=es.length) (m:=cap) (low:=lo.map ρv) (high:=none) (mx:=none) (.inl ⟨rfl,rfl⟩) (nr0 _)
     (.inl ⟨rfl,rfl,rfl⟩) (by omega) ((eC ol hlo).imp (fun h=>⟨h.1,h.2.2⟩) id) hl w
    have hrun:(Instr.sliceAt T (.slice A es.length cap) (lo.map ρv) ((none:Option Operand).map ρv) ((none:Option Operand).map ρv)).run P w=.ok (.slice (if cap=l then A else A.map (·.add (l*sz'))) (es.length-l) (cap-l)) w:=by
     simp only[Instr.sliceAt,Sem.run_bind,run_underlying hE,Result.andThen_ok,Instr.slice,Option.map_none,Option.isSome_none,Bool.false_eq_true,↓reduceIte,Sem.run_pure,hb,bP hs]
    rw[hrun] at hr;injection hr with hr _
    subst hr;refine⟨_,hrun,.que ?_ ⟨hq.1,fun x hx=>?_⟩⟩
    .cases hu with|d hu=>rw[List.take_length] at hu;exact hu
    .rw[List.length_drop];rcases hq.2 x hx with ⟨A',hA⟩|⟨g,d,cap',rfl,hA,hk⟩
     .injection hA with _ _ h3
      subst h3;exact .inl ⟨_,rfl⟩
     .injection hA with h1 _ h3
      subst h1;subst h3;by_cases hc:cap=l
      .have:es.length-l=0:=by omega
       have h2:cap-l=0:=by omega
       rw[this,h2];exact .inl ⟨_,rfl⟩
      .refine .inr ⟨g,d+l*sz',cap-l,rfl,?_,?_⟩
       .rw[if_neg hc,Option.map_some,bK]
       .rw[hk,Nat.sub_mul,Nat.sub_mul];have e1:l*sz'<=es.length*sz':=Nat.mul_le_mul_right _ hl
        have e2:l*sz'<=cap*sz':=Nat.mul_le_mul_right _ (by omega)
        congr 1<;>omega
  .exact h.elim
 .exact nO h (fun t sz es e=>hq ⟨t,sz,es,e⟩) hx hlo hhi hmx
theorem vU:∀(l:List Field) (w:World),(l.all fun f=>(P.info? f.type).isSome)=true ->
  (l.mapM (m:=Sem) fun f=>do pure (f.offset,<-sizeOf f.type)).run P w=.ok (l.map fun f=>(f.offset,((P.info? f.type).map (·.size)).getD 0)) w
 | [],w,_=>by simp
 | f::l,w,h=>by
  simp only[List.all_cons,Bool.and_eq_true] at h;obtain⟨i,hi⟩:=Option.isSome_iff_exists.1 h.1;have ih:=vU l w h.2;have hs:(sizeOf f.type).run P w=.ok i.size w:=bP (by simp[aT,hi]) w
  simp only[List.mapM_cons,Sem.run_bind,hs,Result.andThen_ok,Sem.run_pure,ih,List.map_cons,hi,Option.map_some,Option.getD_some]
theorem aAz:∀(vs:List Value) (k off:Nat) (cells:Array Value),
  ((vs.zipIdx k).foldl (fun cs (x:Value × Nat)=>cs.setIfInBounds (off+x.2) x.1) cells).toList=setCells cells.toList (off+k) vs
 | [],k,off,cells=>by simp[setCells]
 | v::vs,k,off,cells=>by
  simp only[List.zipIdx_cons,List.foldl_cons];rw[aAz vs (k+1) off,setCells];simp[Array.toList_setIfInBounds,Nat.add_assoc]
theorem uW(v:Value)(off:Nat)(cells:Array Value):
  (v.cells.zipIdx.foldl (fun cs (x:Value × Nat)=>cs.setIfInBounds (off+x.2) x.1) cells).toList=setCells cells.toList off v.cells.toList:=by
 have:=aAz v.cells.toList 0 off cells
 rw[Nat.add_zero] at this;rw[<-this,<-Array.foldl_toList];congr 2
 simp
theorem pF{G:Gh}{w:World}(pl:List (Nat × Nat))(place:Nat->Option (Nat × Nat))(hpl:∀i x,pl[i]?=some x->place i=some x):∀(parts:List (Nat × AV)) (pv:List (Nat × Value)) (cells:List AV) (cv:Array Value) (out:List AV),
  pv.length=parts.length->(∀j (h1:j<parts.length) (h2:j<pv.length),parts[j].1=pv[j].1/\RV G w parts[j].2 pv[j].2)->RVs G w cells cv.toList->(∀u∈cv.toList,u.oneCell'=true) ->
  rA pl cells parts=some out->∃ov:Array Value,Instr.fill place cv pv=some ov/\RVs G w out ov.toList/\(∀u∈ov.toList,u.oneCell'=true)
 | [],pv,cells,cv,out,hl,hp,hR,h1,h=>by
  have:pv=[]:=List.eq_nil_of_length_eq_zero (by simpa using hl)
  subst this;simp only[rA,Option.some.injEq] at h;subst h;exact⟨cv,rfl,hR,h1⟩
 | (i,x)::parts,pv,cells,cv,out,hl,hp,hR,h1,h=>by
  cases pv with
  | nil=>simp at hl
  | cons q pv =>
   obtain⟨i',xv⟩:=q;have h0:=hp 0 (by simp) (by simp);simp only[List.getElem_cons_zero] at h0;obtain⟨rfl,hx⟩:=h0;simp only[rA] at h;split at h
   .rename_i off n cs hi hcs;split at h
    .rename_i hc;obtain⟨hcl,hle⟩:=hc;obtain⟨hcR,hc1⟩:=hx.cells hcs;have hlen:xv.cells.size=n:=by have:=hcR.1;simp at this;omega
     have hcv:cv.size=cells.length:=by have:=hR.1;simpa using this.symm
     have e:=uW xv off cv;obtain⟨ov,ho,hoR,ho1⟩:=pF pl place hpl parts pv (setCells cells off cs) (xv.cells.zipIdx.foldl (fun cs (x:Value × Nat)=>cs.setIfInBounds (off+x.2) x.1) cv) out
      (by simpa using hl) (fun j g1 g2=>hp (j+1) (by simpa using g1) (by simpa using g2)) (by rw[e];exact hR.setCells hcR)
      (by rw[e];exact kY (p:=fun u=>Value.oneCell' u=true) _ _ _ h1 hc1) h
     refine⟨ov,?_,hoR,ho1⟩;simp only[Instr.fill,hpl _ _ hi];rw[if_neg]
     .exact ho
     .simp[hlen];omega
    .cases h
   .cases h
theorem aBr{T:Nat}{parts:Array (Nat × Operand)}{ρ:Operand->AV}{ρv:Operand->Value}{G:Gh}{w:World}{pl:List (Nat × Nat)}{zs:List Value}{cs:List AV}(hpl:aO P T=some pl)(hz:aH P T=some zs)(h:rA pl (zs.map cC) (parts.toList.map fun p=>(p.1,ρ p.2))=some cs)(hρ:∀p∈parts.toList,RV G w (ρ p.2) (ρv p.2)):
  ∃u,(Instr.build T (parts.map fun (i,x)=>(i,ρv x))).run P w=.ok u w/\RV G w (.agg cs) u:=by
 unfold aO at hpl;split at hpl
 .rename_i fs hfs;split at hpl
  .rename_i hall;simp only[Option.some.injEq] at hpl;subst hpl;unfold aH at hz;split at hz
   .rename_i z hzz;split at hz
    .rename_i hone;simp only[Option.some.injEq] at hz;subst hz;obtain⟨i,hi,hzi⟩:=Option.bind_eq_some_iff.1 hzz;have hzr:(zeroValue T).run P w=.ok z w:=by simp[zeroValue,typeInfo,hi,hzi]
     have hpr:(fs.mapM (m:=Sem) fun f=>do pure (f.offset,<-sizeOf f.type)).run P w=.ok (fs.toList.map fun f=>(f.offset,((P.info? f.type).map (·.size)).getD 0)).toArray w:=by
      rw[Array.mapM_eq_mapM_toList];have:=vU (P:=P) fs.toList w (by simpa using hall)
      simp only[map_eq_pure_bind,Sem.run_bind,this,Result.andThen_ok,Sem.run_pure]
     obtain⟨ov,h1,h2,h3⟩:=pF (G:=G) (w:=w) (fs.toList.map fun f=>(f.offset,((P.info? f.type).map (·.size)).getD 0)) ((fs.toList.map fun f=>(f.offset,((P.info? f.type).map (·.size)).getD 0)).toArray[·]?) (by intro i x h;simpa using h)
      (parts.toList.map fun p=>(p.1,ρ p.2)) ((parts.map fun (i,x)=>(i,ρv x)).toList) (z.cells.toList.map cC) z.cells cs (by simp)
      (by
       intro j g1 g2;simp at g1 g2;simp only[List.getElem_map,Array.toList_map];exact⟨trivial,hρ _ (List.getElem_mem _)⟩)
      ⟨by simp,fun j g1 g2=>by simp only[List.getElem_map];exact RV.of_ofVal1 _⟩ (fun u hu=>List.all_eq_true.1 hone u hu) h
     refine⟨.agg ov,?_,?_⟩
     .simp only[Instr.build,Sem.run_bind,hzr,Result.andThen_ok,run_underlying hfs,hpr,h1,Sem.run_pure]
     .have:=RV.agg (G:=G) (w:=w) h2.1 h2.2 h3
      simpa using this
    .cases hz
   .cases hz
  .cases hpl
 .cases hpl
theorem aDp{T:Nat}{parts:Array (Nat × Operand)}{ρ:Operand->AV}{ρv:Operand->Value}{G:Gh}{w:World}{pl:List (Nat × Nat)}{zs:List Value}{cs:List AV}(hpl:vJ P T=some pl)(hz:aH P T=some zs)(h:rA pl (zs.map cC) (parts.toList.map fun p=>(p.1,ρ p.2))=some cs)(hρ:∀p∈parts.toList,RV G w (ρ p.2) (ρv p.2)):
  ∃u,(Instr.build T (parts.map fun (i,x)=>(i,ρv x))).run P w=.ok u w/\RV G w (.agg cs) u:=by
 unfold vJ at hpl;split at hpl
 .rename_i pl' hs;cases hpl;exact aBr hs hz h hρ
 .split at hpl
  .rename_i n e ha;split at hpl
   .rename_i s hsz;cases hpl;have hu:P.underlying T=some (.array n e):=by
     unfold pQ at ha;split at ha
     .cases ha;assumption
     .cases ha
    unfold aH at hz;split at hz
    .rename_i z hzz;split at hz
     .rename_i hone;simp only[Option.some.injEq] at hz;subst hz;obtain⟨i,hi,hzi⟩:=Option.bind_eq_some_iff.1 hzz;have hzr:(zeroValue T).run P w=.ok z w:=by simp[zeroValue,typeInfo,hi,hzi]
      obtain⟨ov,h1,h2,h3⟩:=pF (G:=G) (w:=w) ((List.range n).map fun i=>(i*s,s)) (fun i=>some (i*s,s)) (by
        intro i x h;rw[List.getElem?_map] at h;cases hr:(List.range n)[i]? with
        | none=>rw[hr] at h;cases h
        | some k =>
         rw[hr] at h;obtain⟨hl,hk⟩:=List.getElem?_eq_some_iff.1 hr;rw[List.getElem_range] at hk;subst hk;exact h)
       (parts.toList.map fun p=>(p.1,ρ p.2)) ((parts.map fun (i,x)=>(i,ρv x)).toList) (z.cells.toList.map cC) z.cells cs (by simp)
       (by
        intro j g1 g2;simp at g1 g2;simp only[List.getElem_map,Array.toList_map];exact⟨trivial,hρ _ (List.getElem_mem _)⟩)
       ⟨by simp,fun j g1 g2=>by simp only[List.getElem_map];exact RV.of_ofVal1 _⟩ (fun u hu=>List.all_eq_true.1 hone u hu) h
      refine⟨.agg ov,?_,?_⟩
      .simp only[Instr.build,Sem.run_bind,hzr,Result.andThen_ok,run_underlying hu,bP hsz,h1,Sem.run_pure]
      .have:=RV.agg (G:=G) (w:=w) h2.1 h2.2 h3
       simpa using this
     .cases hz
    .cases hz
   .cases hpl
  .cases hpl
theorem tJ{G:Gh}{w:World}:∀{xs:List AV} {vs:List Value} {rows:List (List D)},RVs G w xs vs->mB xs=some rows ->
  rows.length=vs.length/\∀i (h1:i<rows.length) (h2:i<vs.length),(∀u∈vs[i].cells.toList,u.oneCell'=true)/\rows[i].length=vs[i].cells.toList.length /\
   ∀j (g1:j<rows[i].length) (g2:j<vs[i].cells.toList.length),RVd w.cell? G.ps rows[i][j] vs[i].cells.toList[j]
 | [],vs,rows,r,h=>by
  simp[mB] at h;subst h;exact⟨r.1,fun i h1=>by simp at h1⟩
 | x::xs,vs,rows,r,h=>by
  obtain⟨v,us,rfl,h1,h2⟩:=r.uncons;simp only[mB] at h;split at h
  .rename_i cs rs hcs hrs;split at h
   .rename_i ds hds;simp only[Option.some.injEq] at h;subst h;obtain⟨k1,k2⟩:=tJ h2 hrs;obtain⟨c1,c2⟩:=h1.cells hcs;obtain⟨d1,d2⟩:=nR c1 hds;refine⟨by simp[k1],fun i g1 g2=>?_⟩;cases i with
    | zero=>exact⟨c2,d1,d2⟩
    | succ i=>exact k2 i (by simpa using g1) (by simpa using g2)
   .cases h
  .cases h
theorem aC9{sz:Nat}:∀(vs:List Value) (k:Nat) (cells:Array Value),(∀v∈vs,v.cells.size=sz)->cells.size=(k+vs.length)*sz ->
  ∃ov:Array Value,Instr.fill (fun i=>some (i*sz,sz)) cells ((List.range' k vs.length).zip vs)=some ov/\ov.toList=cells.toList.take (k*sz)++(vs.map fun v=>v.cells.toList).flatten
 | [],k,cells,hv,hs=>by
  refine⟨cells,rfl,?_⟩;simp only[List.length_nil,Nat.add_zero] at hs;rw[<-hs];have:cells.toList.length=cells.size:=by simp
  rw[<-this,List.take_length];simp
 | v::vs,k,cells,hv,hs=>by
  have hvs:=hv v (by simp);have e:=uW v (k*sz) cells;have hs':(v.cells.zipIdx.foldl (fun cs (x:Value × Nat)=>cs.setIfInBounds (k*sz+x.2) x.1) cells).size=cells.size:=by
   have:=congrArg List.length e
   rw[eO] at this;simpa using this
  have hle:k*sz+v.cells.toList.length<=cells.toList.length:=by
   have h1:v.cells.toList.length=sz:=by simp[hvs]
   have h2:cells.toList.length=cells.size:=by simp
   rw[h1,h2,hs,List.length_cons,Nat.add_mul,Nat.add_mul];omega
  obtain⟨ov,h1,h2⟩:=aC9 vs (k+1) (v.cells.zipIdx.foldl (fun cs (x:Value × Nat)=>cs.setIfInBounds (k*sz+x.2) x.1) cells) (fun u hu=>hv u (by simp[hu])) (by rw[hs',hs];simp only[List.length_cons];congr 1;omega);refine⟨ov,?_,?_⟩
  .simp only[List.length_cons,List.range'_succ,List.zip_cons_cons,Instr.fill];rw[if_neg]
   .exact h1
   .simp[hvs];rw[hs,List.length_cons,Nat.add_mul,Nat.add_mul];omega
  .rw[h2,e,gK _ _ _ hle];have h3:v.cells.toList.length=sz:=by simp[hvs]
   have h4:(k+1)*sz=k*sz+sz:=by rw[Nat.add_mul];omega
   have h5:(List.take (k*sz) cells.toList).length=k*sz:=by rw[List.length_take];omega
   rw[h4,List.append_assoc,List.take_append,h5,Nat.add_sub_cancel_left,List.take_of_length_le (by rw[h5];omega),List.take_append_of_le_length (by omega),List.take_of_length_le (l:=v.cells.toList) (by omega)];simp
theorem rQ{T E sz by' len:Nat}{parts:Array (Nat × Operand)}{ρ:Operand->AV}{ρv:Operand->Value}{G:Gh}{m:bH}{w:World}{rows:List (List D)}(hrow:aW P T=some (E,sz,by'))(hr:mB (parts.toList.map fun p=>ρ p.2)=some rows)(hp:parts.toList.map (·.1)=List.range len)(hs:∀r∈rows,r.length=sz)(h24:len*sz<=16777216)(hρ:∀p∈parts.toList,RV G w (ρ p.2) (ρv p.2))(hm:aV G m w):
  ∃u o,(Instr.buildSlice T len (parts.map fun (i,x)=>(i,ρv x))).run P w=.ok u (w.alloc o)/\RV G (w.alloc o) (.osl sz rows .full) u:=by
 obtain⟨hE,i,z,hi,hz,hzs,his,hib,hszp,_⟩:=fE hrow;have hsz:(sizeOf E).run P w=.ok sz w:=bP (by simp[aT,hi,his]) w
 have hzr:(zeroValue E).run P w=.ok z w:=by simp[zeroValue,typeInfo,hi,hz]
 let vs:List Value:=parts.toList.map fun p=>ρv p.2
 have hlen:len=vs.length:=by
  have:=congrArg List.length hp
  simpa[vs] using this.symm
 have hRs:RVs G w (parts.toList.map fun p=>ρ p.2) vs:=⟨by simp[vs],fun j g1 g2=>by
  simp only[List.getElem_map,vs];exact hρ _ (List.getElem_mem _)⟩
 obtain⟨k1,k2⟩:=tJ hRs hr;have hvsz:∀v∈vs,v.cells.size=sz:=by
  intro v hv;obtain⟨j,hj,rfl⟩:=List.getElem_of_mem hv;have:=(k2 j (by omega) hj).2.1
  rw[hs _ (List.getElem_mem _)] at this;simpa using this.symm
 have hparts:(parts.map fun (i,x)=>(i,ρv x)).toList=(List.range' 0 vs.length).zip vs:=by
  rw[<-hlen];have e1:(List.range' 0 len)=parts.toList.map (·.1):=by rw[hp,List.range_eq_range']
  rw[e1,Array.toList_map];show _=(parts.toList.map (·.1)).zip (parts.toList.map fun p=>ρv p.2)
  rw[List.zip_map']
 let zc:Array Value:=if len*sz=0 then #[] else z.cells
 obtain⟨ov,h1,h2⟩:=aC9 (sz:=sz) vs 0 ((Array.range (len*sz)).map (zc[· % zc.size]!)) hvsz (by simp[hlen]);simp only[Nat.zero_mul,List.take_zero,List.nil_append] at h2;have h24':¬(len*sz>2 ^ 24):=by omega
 refine⟨.slice (some ⟨w.heap.size,0,none⟩) len len,.cells ov E,?_,?_⟩
 .by_cases h0:len*sz=0
  .have hzc:zc = #[]:=by simp only[zc,h0,↓reduceIte]
   rw[hzc] at h1;have h00:¬((0:Nat)>2 ^ 24):=by omega
   simp only[Instr.buildSlice,Sem.run_bind,run_underlying hE,Result.andThen_ok,hsz,h24',h00,↓reduceIte,h0,Sem.run_pure] at h1 ⊢;simp only[hparts,h1,Sem.run_bind,newRow,Sem.run_pure,Result.andThen_ok];rfl
  .have hzc:zc=z.cells:=by simp only[zc,h0,↓reduceIte]
   rw[hzc] at h1;simp only[Instr.buildSlice,Sem.run_bind,run_underlying hE,Result.andThen_ok,hsz,h24',↓reduceIte,h0,hzr,Sem.run_pure] at h1 ⊢;simp only[hparts,h1,Sem.run_bind,newRow,Sem.run_pure,Result.andThen_ok];rfl
 .have hla:=Le.alloc (w:=w) hm.fresh (.cells ov E);have hvlen:∀v∈vs.map (fun v=>v.cells.toList),v.length=sz:=by
   intro l hl;simp only[List.mem_map] at hl;obtain⟨v,hv,rfl⟩:=hl;simpa using hvsz v hv
  have hflat:gX (w.alloc (.cells ov E)).cell? G.ps sz rows (some ⟨w.heap.size,0,none⟩) ov.toList:=by
   constructor
   .rw[h2,dF hvlen,List.length_map,<-k1]
   .intro a ha q u hq;cases ha;rw[bK];refine⟨?_,?_⟩
    .unfold Gh.ps;rw[hm.fresh w.heap.size (nr0 _)];trivial
    .rw[cell_of_row _ w.heap.size _ ov E (0,0) (heap_alloc_new w _),Nat.zero_add];simpa using hq
   .intro u hu;rw[h2] at hu;simp only[List.mem_flatten,List.mem_map] at hu;obtain⟨l,⟨v,hv,rfl⟩,hul⟩:=hu;obtain⟨j,hj,rfl⟩:=List.getElem_of_mem hv;exact(k2 j (by omega) hj).1 u hul
   .exact fun _=>⟨_,rfl⟩
   .exact hs
   .intro a b ha hb;have hav:a<vs.length:=by omega
    have hbs:b<sz:=by rw[<-hs _ (List.getElem_mem ha)];exact hb
    obtain⟨_,g2,g3⟩:=k2 a ha hav;have hrow':(vs.map fun v=>v.cells.toList)[a]?=some vs[a].cells.toList:=by simp[hav]
    refine⟨vs[a].cells.toList[b]'(by omega),?_,(g3 b hb (by omega)).mono hla.cells⟩;rw[h2,gM hvlen hrow' hbs];exact List.getElem?_eq_getElem _
  have hrl:rows.length=len:=by omega
  have:=RVd.of_flat (cap:=len) (by omega) (by unfold maxLen;have:=Nat.le_mul_of_pos_right len hszp;omega) hflat
  rw[hrl] at this;exact .osl this (by rw[hrl];exact⟨_,rfl,fun e=>absurd e (by omega)⟩)
variable {P:Program}
theorem dJ.pure{o:Oper}{ρv:Operand->Value}{G:Gh}{w:World}{R:Value->Gh->World->Prop}{u:Value}(h:(execOp ρv o).run P w=.ok (.value u) w)(hr:R u G w):dJ P o ρv G w R :=
 ⟨.value u,u,G,w,h,.inl rfl,Le.refl G w,hr⟩
theorem aAY{T f off n:Nat}{pl:List (Nat × Nat)}(h:aO P T=some pl)(hf:pl[f]?=some (off,n)):∃fs x,P.underlying T=some (.struct fs)/\fs[f]?=some x/\x.offset=off/\aT P x.type=some n:=by
 unfold aO at h;split at h
 .rename_i fs hfs;split at h
  .rename_i hall;simp only[Option.some.injEq] at h;subst h;simp only[List.getElem?_map] at hf;obtain⟨x,hx,hx2⟩:=Option.map_eq_some_iff.1 hf;have hx':fs[f]?=some x:=by simpa using hx
   have hmem:x∈fs.toList:=List.mem_of_getElem? hx
   obtain⟨i,hi⟩:=Option.isSome_iff_exists.1 (List.all_eq_true.1 hall x hmem);simp only[Prod.mk.injEq,hi,Option.map_some,Option.getD_some] at hx2;exact⟨fs,x,hfs,hx',hx2.1,by simp[aT,hi,hx2.2]⟩
  .cases h
 .cases h
theorem tF{T f off n:Nat}{pl:List (Nat × Nat)}(h:aO P T=some pl)(hf:pl[f]?=some (off,n))(hn:n≠0)(a:Addr)(w:World):(Instr.fieldAt T (.pointer (some a)) f).run P w=.ok (.pointer (some (a.add off))) w:=by
 obtain⟨fs,x,h1,h2,h3,h4⟩:=aAY h hf;simp only[Instr.fieldAt,Sem.run_bind,run_underlying h1,Result.andThen_ok,h2,Instr.sureAddr,Sem.run_pure,fieldPlace,bP h4,hn,↓reduceIte,h3]
theorem aGM{G:Gh}{w:World}{cs:List AV}{vs:List Value}(h:RVs G w cs vs){ag:Bool}{n off:Nat}{v:AV}(hl:rG ag n cs off=some v)(h1:∀u∈vs,u.oneCell'=true):
  ∃u,(if ag then (some (.agg (vs.toArray.extract off (off+n))):Option Value) else vs[off]?)=some u/\RV G w v u:=by
 unfold rG at hl;cases ag with
 | false =>
  simp only[Bool.false_eq_true,↓reduceIte] at hl ⊢;obtain⟨u,hu,hr⟩:=h.get hl;exact⟨u,hu,hr⟩
 | true =>
  simp only[↓reduceIte] at hl ⊢;split at hl
  .simp only[Option.some.injEq] at hl;subst hl;refine⟨_,rfl,?_⟩;have hs:=(h.drop off).take n;have e:vs.toArray.extract off (off+n)=((vs.drop off).take n).toArray:=by
    simp only[List.extract_toArray,List.extract_eq_take_drop,Nat.add_sub_cancel_left]
   rw[e];exact .agg hs.1 hs.2 (fun u hu=>h1 u (List.mem_of_mem_drop (List.mem_of_mem_take hu)))
  .cases hl
theorem aHg{T off n:Nat}{ag:Bool}{cs:Array Value}{u:Value}(hag:aX P T=some ag)(hn:aT P T=some n)(h:(if ag then (some (.agg (cs.extract off (off+n))):Option Value) else cs[off]?)=some u)(w:World):
  (part T cs off).run P w=.ok u w:=by
 cases ag with
 | false =>
  simp only[Bool.false_eq_true,↓reduceIte] at h;simp only[part,Sem.run_bind,iA hag,Result.andThen_ok,Bool.false_eq_true,↓reduceIte,h,Sem.run_pure]
 | true =>
  simp only[↓reduceIte,Option.some.injEq] at h;simp only[part,Sem.run_bind,iA hag,Result.andThen_ok,↓reduceIte,bP hn,Sem.run_pure,h]
def uC(k:Nat)(T:TypeId)(zs:List Value):List AV:=match zs with
 | [.pointer none,.slice none 0 0]=>[.here k T,cC (.slice none 0 0)]
 | zs=>zs.map cC
theorem aJ9{G:Gh}{w:World}{k b sz:Nat}{T:TypeId}{cs:Array Value}{f:Nat × Nat}(zs:List Value)(h:G.bx k=some (b,sz))(ht:w.heap[b]?=some (.cells cs T f)):RVs G w (uC k T zs) zs:=by
 unfold uC;split
 .exact RVs.cons (.here h ht) (RVs.cons (RV.of_ofVal1 _) RVs.nil)
 .exact⟨by simp,fun j g1 g2=>by simp only[List.getElem_map];exact RV.of_ofVal1 _⟩
def oI(P:Program)(base:Nat)(o:Oper)(G:Gh)(box:Bxs):Prop:=match o.op,o.dst with
 | .alloc T,some s=>∃zs,aH P T=some zs/\box (base+s)=some [uC (base+s) T zs]/\G.bx (base+s)=none
 | _,_=>True
theorem cL{α:Type}(f:Nat->α)(k:Nat)(v:α)(h:f k=v):upd f k v=f:=by
 funext j
 unfold upd;split
 .rename_i e;rw[e,h]
 .rfl
theorem aD1{ρ:Operand->AV}{ρv:Operand->Value}{G:Gh}{w:World}:∀{xs:List Operand} {vs:List Value},gC (xs.map ρ)=some vs->(∀x∈xs,RV G w (ρ x) (ρv x))->xs.map ρv=vs:=by
 intro xs vs h hρ;exact nN (G:=G) (w:=w) h ⟨by simp,fun i h1 h2=>by simp only[List.getElem_map];exact hρ _ (List.getElem_mem _)⟩
set_option maxHeartbeats 1000000 in
theorem aDL{base:Nat}{o:Oper}{ρ:Operand->AV}{ρv:Operand->Value}{G:Gh}{m:bH}{w:World}{v:AV}(h:aAW P base o ρ v)(hρ:∀x∈o.op.operands,RV G w (ρ x) (ρv x))(hm:aV G m w)(hd:∀s,o.dst=some s->base+s<m.nb)(hp:oI P base o G m.box):
  dJ P o ρv G w fun u G' w'=>RV G' w' v u/\aV G' m w'/\∀k,some k≠o.dst.map (base + ·)->G.bx k=none->G'.bx k=none:=by
 have keep:∀u,(execOp ρv o).run P w=.ok (.value u) w->RV G w v u->dJ P o ρv G w fun u G' w'=>RV G' w' v u/\aV G' m w'/\∀k,some k≠o.dst.map (base + ·)->G.bx k=none->G'.bx k=none :=
  fun u h1 h2=>.pure h1 ⟨h2,hm,fun _ _ h=>h⟩
 unfold aAW at h;split at h
 .rename_i x ho;subst h;exact keep (ρv x) (by simp only[execOp,ho,Sem.run_pure]) (hρ x (by rw[ho];simp[Op.operands]))
 .rename_i x ho;subst h;exact keep (ρv x) (by simp only[execOp,ho,Sem.run_pure]) (hρ x (by rw[ho];simp[Op.operands]))
 .rename_i c a b ho;split at h
  .rename_i t hc;have h1:=hρ c (by rw[ho];simp[Op.operands]);rw[hc] at h1;have h2:ρv c=.bool t:=dA rfl h1
   subst h;cases t with
   | true=>exact keep (ρv a) (by simp[execOp,ho,h2,asBool]) (hρ a (by rw[ho];simp[Op.operands]))
   | false=>exact keep (ρv b) (by simp[execOp,ho,h2,asBool]) (hρ b (by rw[ho];simp[Op.operands]))
  .exact h.elim
 .rename_i T ho;split at h
  .rename_i s hs;subst h;unfold oI at hp;rw[ho,hs] at hp;obtain⟨zs,hz,Hb,hbx⟩:=hp;unfold aH at hz;split at hz
   .rename_i z hzz;split at hz
    .rename_i hone;simp only[Option.some.injEq] at hz;subst hz;obtain⟨i,hi,hzi⟩:=Option.bind_eq_some_iff.1 hzz;have hzr:(zeroValue T).run P w=.ok z w:=by simp[zeroValue,typeInfo,hi,hzi]
     have hrel:=hm.mkbox' (k:=base+s) hbx (hd s hs) (sz:=(uC (base+s) T z.cells.toList).length) (rows:=[uC (base+s) T z.cells.toList]) (by simp) (cs:=z.cells) T
      (by simp only[List.flatten_cons,List.flatten_nil,List.append_nil];exact aJ9 _ (by simp only[Gh.mkbox];exact uS _ _ _) (heap_alloc_new w _)) (fun u hu=>List.all_eq_true.1 hone u hu)
     have hself:({ m with box:=upd m.box (base+s) (some [uC (base+s) T z.cells.toList]) }:bH)=m:=by
      cases m;simp only[bH.mk.injEq,and_true];exact cL _ _ _ Hb
     rw[hself] at hrel;refine⟨.value (.pointer (some ⟨w.heap.size,0,none⟩)),_,_,w.alloc (.cells z.cells T),?_,.inl rfl,Le.mkbox hm.fresh hm.tlt hbx _ _,?_,hrel,?_⟩
     .simp only[execOp,ho,Instr.alloc,newVar,newRow,Sem.run_bind,hzr,Sem.run_pure,Result.andThen_ok];rfl
     .have:(⟨w.heap.size,0,none⟩:Addr)=⟨w.heap.size,0*(uC (base+s) T z.cells.toList).length+0,none⟩:=by simp
      rw[this];exact .ptr (by simp[Gh.mkbox,uS])
     .intro k hk hg;have hne:k≠base+s:=fun e=>hk (by rw[hs,e];rfl)
      simp only[Gh.mkbox];rw[uO _ _ hne];exact hg
    .cases hz
   .cases hz
  .exact h.elim
 .rename_i T parts ho;split at h
  .rename_i pl zs hpl hz;split at h
   .rename_i cs hcs;subst h;obtain⟨u,h1,h2⟩:=aDp (ρv:=ρv) hpl hz hcs (fun p hp=>hρ p.2 (by rw[ho];simp only[Op.operands];rw[<-Array.mem_toList_iff];simpa using ⟨p.1,by simpa using hp⟩));exact keep u (by simp only[execOp,ho,Sem.run_bind,h1,Result.andThen_ok,Sem.run_pure]) h2
   .exact h.elim
  .exact h.elim
 .rename_i T len parts ho;split at h
  .rename_i E sz by' rows hrow hr
   obtain⟨h1,h2,h3,rfl⟩:=h;obtain⟨u,ob,h4,h5⟩:=rQ (ρv:=ρv) hrow hr h1 h2 h3 (fun p hp=>hρ p.2 (by rw[ho];simp only[Op.operands];rw[<-Array.mem_toList_iff];simpa using ⟨p.1,by simpa using hp⟩)) hm;exact⟨.value u,u,G,w.alloc ob,by simp only[execOp,ho,Sem.run_bind,h4,Result.andThen_ok,Sem.run_pure],.inl rfl,Le.alloc hm.fresh ob,h5,hm.alloc ob,fun _ _ h=>h⟩
  .exact h.elim
 .rename_i x ho;have h1:=hρ x (by rw[ho];simp[Op.operands]);split at h
  .rename_i k i off hx;subst h;rw[hx] at h1;generalize hv:ρv x=xv at h1;have h1':=h1
   cases h1' with
   | ptr hb=>exact keep _ (by simp only[execOp,ho,hv,Sem.run_pure]) h1
  .rename_i cs off hx;subst h;rw[hx] at h1;generalize hv:ρv x=xv at h1;have h1':=h1
   cases h1' with
   | cptr a u hc hr=>exact keep _ (by simp only[execOp,ho,hv,Sem.run_pure]) h1
  .rename_i f caps hx;subst h;rw[hx] at h1;generalize hv:ρv x=xv at h1;have h1':=h1
   cases h1' with
   | fn hl hh=>exact keep _ (by simp only[execOp,ho,hv,Sem.run_pure]) h1
  .exact h.elim
 .rename_i op T x y T2 ho;split at h
  .rename_i a b ha hb;obtain⟨r,hr,rfl⟩:=h;have h1:=dA ha (hρ x (by rw[ho];simp[Op.operands]));have h2:=dA hb (hρ y (by rw[ho];simp[Op.operands]));refine keep r ?_ (.raw hr.1);have:=hr.2 x y w
   simp only[execOp,ho,h1,h2,Sem.run_bind,Sem.run_pure] at this ⊢;rw[this];rfl
  .exact h.elim
 .rename_i op T x ho;split at h
  .rename_i a ha;obtain⟨r,hr,rfl⟩:=h;have h1:=dA ha (hρ x (by rw[ho];simp[Op.operands]));exact keep r (by simp only[execOp,ho,h1,Sem.run_bind,hr.2 w,Result.andThen_ok,Sem.run_pure]) (.raw hr.1)
  .exact h.elim
 .rename_i s t x ho;split at h
  .rename_i a ha;obtain⟨r,hr,rfl⟩:=h;have h1:=dA ha (hρ x (by rw[ho];simp[Op.operands]));exact keep r (by simp only[execOp,ho,h1,Sem.run_bind,hr.2 w,Result.andThen_ok,Sem.run_pure]) (.raw hr.1)
  .exact h.elim
 .rename_i fn first caps ho;obtain⟨h0,rfl⟩:=h;have hf:first = #[]:=by rw[<-Array.toArray_toList (xs:=first),h0]
  subst hf;refine keep (.func fn #[] (caps.map ρv)) (by simp[execOp,ho,Instr.makeFunc]) ?_;have:=RV.fn (G:=G) (w:=w) (f:=fn) (caps:=caps.toList.map ρ) (vs:=caps.toList.map ρv) (by simp) (fun i h1 h2=>by
   simp only[List.getElem_map];exact hρ _ (by rw[ho];simp only[Op.operands];rw[<-Array.mem_toList_iff];simp))
  have e:caps.map ρv=(caps.toList.map ρv).toArray:=by rw[<-Array.toList_map,Array.toArray_toList]
  rw[e];exact this
 .rename_i T x f ho;have h1:=hρ x (by rw[ho];simp[Op.operands]);split at h
  .rename_i pl hpl;split at h
   .rename_i off n cs o' hf hx;obtain⟨hn,rfl⟩:=h;rw[hx] at h1;generalize hv:ρv x=xv at h1;cases h1 with
    | cptr a u hc hr =>
     refine keep _ (by simp only[execOp,ho,hv,Sem.run_bind,tF hpl hf hn,Result.andThen_ok,Sem.run_pure];rfl) ?_;rw[add_add];exact .cptr a u hc hr
   .rename_i off n k i o' hf hx;obtain⟨hn,rfl⟩:=h;rw[hx] at h1;generalize hv:ρv x=xv at h1;cases h1 with
    | ptr hb =>
     refine keep _ (by simp only[execOp,ho,hv,Sem.run_bind,tF hpl hf hn,Result.andThen_ok,Sem.run_pure];rfl) ?_;rw[bK,Nat.add_assoc];exact .ptr hb
   .exact h.elim
  .exact h.elim
 .rename_i T x f ho;have h1:=hρ x (by rw[ho];simp[Op.operands]);split at h
  .rename_i ft off cs hf hx;split at h
   .rename_i ag n hag hn;rw[hx] at h1;generalize hv:ρv x=xv at h1;cases h1 with
    | agg hl hh hone =>
     rename_i vs;obtain⟨u,h2,h3⟩:=aGM ⟨hl,hh⟩ h hone;unfold aB at hf;split at hf
     .rename_i fs hfs;obtain⟨fd,hfd,hfe⟩:=Option.map_eq_some_iff.1 hf;simp only[Prod.mk.injEq] at hfe;obtain⟨rfl,rfl⟩:=hfe;refine keep u ?_ h3;have hpr:(part fd.type vs.toArray fd.offset).run P w=.ok u w:=aHg hag hn (by simpa using h2) w
      simp only[execOp,ho,hv,Instr.field,Sem.run_bind,run_underlying hfs,Result.andThen_ok,hfd,asAgg,Sem.run_pure,hpr]
     .cases hf
   .exact h.elim
  .exact h.elim
 .rename_i T x i ho;split at h
  .rename_i k n hi;have h1:=hρ x (by rw[ho];simp[Op.operands]);have h2:=hρ i (by rw[ho];simp[Op.operands]);rw[hi] at h2;have h3:ρv i=.int k n:=dA rfl h2
   obtain⟨u,h4,h5⟩:=aCO (k:=k) h h1;exact keep u (by simp only[execOp,ho,h3,Sem.run_bind,h4,Result.andThen_ok,Sem.run_pure]) h5
  .exact h.elim
 .rename_i T x i ho;split at h
  .rename_i s k n hx hi;obtain⟨hT,h0,b,hb,rfl⟩:=h;have h1:=hρ x (by rw[ho];simp[Op.operands]);have h2:=hρ i (by rw[ho];simp[Op.operands]);rw[hx] at h1;rw[hi] at h2;have h3:ρv x=.string s:=dA rfl h1
   have h4:ρv i=.int k n:=dA rfl h2
   refine keep (.int .u8 b.toNat) ?_ (.raw rfl);simp only[execOp,ho,h3,h4,Instr.index,Sem.run_bind,jM,Result.andThen_ok,run_underlying (rV hT),h0,↓reduceIte,hb,Sem.run_pure]
  .exact h.elim
 .rename_i t i ho;split at h
  .rename_i vs ht;have h1:=hρ t (by rw[ho];simp[Op.operands]);rw[ht] at h1;generalize hv:ρv t=tv at h1;cases h1 with
   | tup hl hh =>
    rename_i us;obtain⟨u,hu,hr⟩:=RVs.get ⟨hl,hh⟩ h;refine keep u ?_ hr;have hu':us.toArray[i]?=some u:=by simpa using hu
    simp only[execOp,ho,hv,Instr.extract,hu',Sem.run_bind,Sem.run_pure,Result.andThen_ok]
  .exact h.elim
 .rename_i T x lo hi mx ho;have h1:=hρ x (by rw[ho];simp[Op.operands]);obtain⟨u,h2,h3⟩:=yM (ρv:=ρv) h h1 (fun y hy=>hρ y (by rw[ho];simp[Op.operands,hy])) (fun y hy=>hρ y (by rw[ho];simp[Op.operands,hy])) (fun y hy=>hρ y (by rw[ho];simp[Op.operands,hy]));exact keep u (by simp only[execOp,ho,Sem.run_bind,h2,Result.andThen_ok,Sem.run_pure]) h3
 .rename_i c ho;split at h
  .rename_i xa T hcal hargs htys;obtain⟨x,hargs2,rfl⟩:=List.map_eq_singleton_iff.1 hargs;have ha:c.args = #[x]:=by rw[<-Array.toArray_toList (xs:=c.args),hargs2]
   have hb:c.argTypes = #[T]:=by rw[<-Array.toArray_toList (xs:=c.argTypes),htys]
   have h1:=hρ x (by rw[ho];simp[Op.operands,Call.operands,hcal,ha]);obtain⟨u,h2,h3⟩:=aBX (ty:=o.type) h h1;refine keep u ?_ h3;simp only[execOp,ho,resolve,hcal,ha,hb,List.map_toArray,List.map_cons,List.map_nil,Sem.run_bind,Sem.run_pure,Result.andThen_ok,invoke,builtin,h2]
  .exact h.elim
  .rename_i args tys b hn1 hcal hn2;split at h
   .rename_i vs hvs;obtain⟨r,hr,rfl⟩:=h;have hmap:(c.args.map ρv)=vs.toArray:=by
     have:=aD1 (ρv:=ρv) (G:=G) (w:=w) hvs (fun x hx=>hρ x (by rw[ho];simp only[Op.operands,Call.operands,hcal];rw[<-Array.mem_toList_iff];simpa using hx))
     rw[<-this,<-Array.toList_map,Array.toArray_toList]
    refine keep r ?_ (.raw hr.1);simp only[execOp,ho,resolve,hcal,Sem.run_bind,Sem.run_pure,Result.andThen_ok,invoke,hmap,hr.2]
   .exact h.elim
  .exact h.elim
 .exact h.elim
variable {P:Program} {wr:Bool}
structure AS where
 tmps:Nat->AV
 box:Bxs
 tok:Nat->Bool
 nt:Nat
def AS.ev(S:AS):Operand->AV
 | .tmp t=>S.tmps t
 | .const v=>aFC v
 | .global g=>aHm g
 | .func f=>.fn (.func f) []
def bV(f:Nat->AV)(dst:Option Tmp)(v:AV):Nat->AV:=match dst with
 | some d=>upd f d v
 | none=>f
structure cP (n nb:Nat) (G:Gh) (S:AS) (a:Act) (w:World):Prop where
 defers:a.defers=[]
 size:a.tmps.size=n
 tmps:∀t,RV G w (S.tmps t) (a.tmps.getD t undef)
 mem:aV G ⟨S.box,nb,S.tok,S.nt⟩ w
theorem cP.ev{n nb:Nat}{G:Gh}{S:AS}{a:Act}{w:World}(h:cP n nb G S a w)(x:Operand):RV G w (S.ev x) (a.eval x):=by
 cases x with
 | tmp t=>exact h.tmps t
 | const v=>exact RV.of_ofVal v
 | global g=>exact h.mem.glob.rv g
 | func f=>exact .fn (vs:=[]) rfl (fun i h=>by simp at h)
def iJ(P:Program)(f:FuncId):Prop:=∀args w,(callFunc f args).run P w=.ok (.enter f args) w
theorem iJ.mk{f:FuncId}{fn:Func}(h:P.funcs[f]?=some fn)(hb:fn.body.isSome=true)(hn:(fn.name == "runtime.NumGoroutine")=false):iJ P f:=by
 intro args w;obtain⟨c,hc⟩:=Option.isSome_iff_exists.1 hb;have hn':¬fn.name = "runtime.NumGoroutine" := by simpa using hn
 simp[callFunc,program,Sem.run,h,hn',hc]
def aD(P:Program)(f:FuncId)(args:List AV)(m:bH)(Q:AV->bH->Prop):Prop :=
 iJ P f/\∀G w vals,aV G m w->RVs G w args vals->Calls P f vals.toArray w fun e w'=>∃v av m' G',e=.returned v/\Q av m'/\m'.nb=m.nb /\
  aV G' m' w'/\RV G' w' av v/\Le G w G' w'/\∀k,G.bx k=none->G'.bx k=none/\m'.box k=m.box k
theorem aD.mono{f:FuncId}{args:List AV}{m:bH}{Q Q':AV->bH->Prop}(h:aD P f args m Q)(hq:∀v m',Q v m'->Q' v m'):aD P f args m Q' :=
 ⟨h.1,fun G w vals hm hr=>(h.2 G w vals hm hr).mono fun e w' ⟨v,av,m',G',h1,h2,h3⟩=>⟨v,av,m',G',h1,hq _ _ h2,h3⟩⟩
def dI(P:Program)(f:FuncId)(args:List AV)(tok:Tks)(nt:Nat)(v:AV)(tok':Nat->Bool)(nt':Nat):Prop :=
 ∀box nb,aD P f args ⟨box,nb,tok,nt⟩ fun v' m'=>v'=v/\m'=⟨box,nb,tok',nt'⟩
def Ext(box box':Bxs):Prop:=∀k r,box k=some r->box' k=some r
theorem Ext.refl(box:Bxs):Ext box box:=fun _ _ h=>h
theorem Ext.trans{a b c:Bxs}(h:Ext a b)(k:Ext b c):Ext a c:=fun i r hi=>k i r (h i r hi)
def cW(P:Program)(f:FuncId)(args:List AV)(box:Bxs)(tok:Tks)(nt:Nat)(v:AV)(tok':Nat->Bool)(nt':Nat):Prop :=
 ∀box' nb,Ext box box'->aD P f args ⟨box',nb,tok,nt⟩ fun v' m'=>v'=v/\m'=⟨box',nb,tok',nt'⟩
theorem dI.r{f:FuncId}{args:List AV}{tok:Nat->Bool}{nt:Nat}{v:AV}{tok':Nat->Bool}{nt':Nat}(h:dI P f args tok nt v tok' nt')(box:Bxs):cW P f args box tok nt v tok' nt' :=
 fun box' nb _=>h box' nb
theorem cW.ext{f:FuncId}{args:List AV}{box box1:Bxs}{tok:Nat->Bool}{nt:Nat}{v:AV}{tok':Nat->Bool}{nt':Nat}(h:cW P f args box tok nt v tok' nt')(he:Ext box box1):cW P f args box1 tok nt v tok' nt' :=
 fun box' nb h'=>h box' nb (he.trans h')
def sS(P:Program)(o:Oper)(ρ:Operand->AV)(box:Bxs)(tok:Tks)(nt:Nat)(v:AV)(tok':Nat->Bool)(nt':Nat):Prop:=match o.op with
 | .call c=>match c.callee with
  | .value f=>match ρ f with
   | .fn (.func fid) caps=>cW P fid (c.args.toList.map ρ++caps) box tok nt v tok' nt'
   | _=>False
  | _=>False
 | _=>False
def aLL(P:Program)(f:FuncId)(args:List AV)(k:Nat)(box:Bxs)(tok:Tks)(nt:Nat)(v:AV)(rows:List (List AV))(tok':Nat->Bool)(nt':Nat):Prop :=
 ∀box' nb,box' k=box k->aD P f args ⟨box',nb,tok,nt⟩ fun v' m'=>v'=v/\m'=⟨upd box' k (some rows),nb,tok',nt'⟩
def aA1:Op->Option Operand
 | .call { callee:=.value _,args,.. }=>args.toList.head?
 | _=>none
def aCv(P:Program)(o:Oper)(ρ:Operand->AV)(box:Bxs)(tok:Tks)(nt:Nat)(v:AV)(box':Bxs)(tok':Nat->Bool)(nt':Nat):Prop:=match o.op with
 | .call c=>match c.callee with
  | .value f=>match ρ f with
   | .fn (.func fid) caps=>∃x k i off rows,aA1 o.op=some x/\ρ x=.ptr k i off/\box k≠none/\box'=upd box k (some rows)/\aLL P fid (c.args.toList.map ρ++caps) k box tok nt v rows tok' nt'
   | _=>False
  | _=>False
 | _=>False
inductive Cls where
 | n|r|w|t
 deriving DecidableEq
def cls:Op->Cls
 | .load .. => .r
 | .store .. => .w
 | .box .. => .w
 | .makeSlice .. => .w
 | .call { callee:=.builtin .append,.. }=>.t
 | .call { callee:=.builtin .copy,.. }=>.w
 | .call { callee:=.builtin .clear,.. }=>.w
 | .call { callee:=.value _,.. }=>.t
 | .makeMap .. => .t
 | .lookup .. => .t
 | _=>.n
def Eff(P:Program)(wr:Bool)(base:Nat)(o:Oper)(ρ:Operand->AV)(box:Bxs)(tok:Tks)(nt:Nat)(v:AV)(box':Bxs)(tok':Nat->Bool)(nt':Nat):Prop :=
 match cls o.op with
 | .n=>aAW P base o ρ v/\box'=box/\tok'=tok/\nt'=nt
 | .r=>pK P o ρ box v/\box'=box/\tok'=tok/\nt'=nt
 | .w=>mZ P base o ρ box v box'/\tok'=tok/\nt'=nt
 | .t=>((aEi P o ρ tok nt v tok' nt'∨sS P o ρ box tok nt v tok' nt')/\box'=box)∨wr=true/\aCv P o ρ box tok nt v box' tok' nt'
def yR(P:Program)(wr:Bool)(base:Nat)(o:Oper)(S S':AS):Prop :=
 ∃v box' tok' nt',Eff P wr base o S.ev S.box S.tok S.nt v box' tok' nt'/\S'=⟨bV S.tmps o.dst v,box',tok',nt'⟩
def dL(ops:Array Oper)(S:AS)(j:Nat):Option (Option Bool):=match (ops[j]?).bind (·.dst) with
 | some d=>match S.tmps d with
  | .d (.raw (.bool b))=>some (some b)
  | .tup []=>some none
  | _=>none
 | none=>none
def cE(P:Program)(wr:Bool)(base:Nat)(ops:Array Oper)(o:Oper)(S S':AS):Prop:=match o.guard with
 | none=>yR P wr base o S S'
 | some (j,want)=>match dL ops S j with
  | some b=>if b=some want then yR P wr base o S S' else S'={ S with tmps:=bV S.tmps o.dst (.tup []) }
  | none=>False
theorem RV.undef{G:Gh}{w:World}:RV G w (.tup []) Go.undef:=.tup (vs:=[]) rfl fun i h=>by simp at h
theorem cP.put{n nb:Nat}{G G':Gh}{S:AS}{a:Act}{w w':World}(h:cP n nb G S a w)(hle:Le G w G' w'){dst:Option Tmp}(hd:∀d,dst=some d->d<n){v:AV}{u:Value}(hv:RV G' w' v u){box:Bxs}{tok:Nat->Bool}{nt:Nat}(hm:aV G' ⟨box,nb,tok,nt⟩ w'):cP n nb G' ⟨bV S.tmps dst v,box,tok,nt⟩ (a.put dst u) w':=by
 cases dst with
 | none=>exact⟨h.defers,h.size,fun t=>(h.tmps t).mono hle,hm⟩
 | some d =>
  refine⟨h.defers,by simp[Act.put,h.size],fun t=>?_,hm⟩;have hd':=hd d rfl
  simp only[bV,Act.put];by_cases e:t=d
  .subst e;rw[uS];have:t<a.tmps.size:=by rw[h.size];exact hd'
   simpa[Array.getD,this] using hv
  .rw[uO _ _ e];have h1:(a.tmps.setIfInBounds d u).getD t undef=a.tmps.getD t undef:=by
    simp only[Array.getD_eq_getD_getElem?];rw[Array.getElem?_setIfInBounds_ne (by omega)]
   rw[h1];exact(h.tmps t).mono hle
theorem dJ.wp{n nb:Nat}{o:Oper}{G:Gh}{S:AS}{a:Act}{w:World}{R:Value->Gh->World->Prop}{K:Act->World->Prop}{Q:Exit->Act->World->Prop}(h:dJ P o a.eval G w R)(hk:∀u G' w',Le G w G' w'->R u G' w'->K (a.put o.dst u) w'):o.wp P a w K Q:=by
 obtain⟨nx,u,G',w',h1,h2,h3,h4⟩:=h;unfold Oper.wp;rw[h1];rcases h2 with rfl|⟨rfl,rfl⟩
 .exact hk u G' w' h3 h4
 .exact hk undef G' w' h3 h4
def aI0(base:Nat)(o:Oper)(G G':Gh)(box box':Bxs):Prop:=∀k,some k≠o.dst.map (base + ·)->G.bx k=none->G'.bx k=none/\box' k=box k
theorem pM{n nb base:Nat}{o:Oper}{S S':AS}{G:Gh}{a:Act}{w:World}{Q:Exit->Act->World->Prop}(h:yR P wr base o S S')(hr:cP n nb G S a w)(hd:∀d,o.dst=some d->d<n)(hnb:base+n<=nb)(hp:oI P base o G S.box):
  o.wp P a w (fun a' w'=>∃G',cP n nb G' S' a' w'/\Le G w G' w'/\aI0 base o G G' S.box S'.box) Q:=by
 obtain⟨v,box',tok',nt',he,rfl⟩:=h;have hρ:∀x∈o.op.operands,RV G w (S.ev x) (a.eval x):=fun x _=>hr.ev x
 have hdn:∀s,o.dst=some s->base+s<nb:=fun s hs=>Nat.lt_of_lt_of_le (Nat.add_lt_add_left (hd s hs) base) hnb
 unfold Eff at he;split at he
 .obtain⟨he,rfl,rfl,rfl⟩:=he;exact(aDL he hρ hr.mem hdn hp).wp (n:=n) (nb:=nb) (S:=S) fun u G' w' hle ⟨h1,h2,h3⟩=>⟨G',hr.put hle hd h1 h2,hle,fun k hk hg=>⟨h3 k hk hg,rfl⟩⟩
 .obtain⟨he,rfl,rfl,rfl⟩:=he;obtain⟨u,g1,g2⟩:=vE he hρ hr.mem;exact(dJ.pure (R:=fun u G' w'=>RV G' w' v u/\G'=G/\w'=w) g1 ⟨g2,rfl,rfl⟩).wp (n:=n) (nb:=nb) (S:=S) fun u G' w' hle ⟨k1,k2,k3⟩=>by
   subst k2;subst k3;exact⟨_,hr.put hle hd k1 hr.mem,hle,fun k hk hg=>⟨hg,rfl⟩⟩
 .obtain⟨he,rfl,rfl⟩:=he;exact(aEE he hρ hr.mem hdn).wp (n:=n) (nb:=nb) (S:=S) fun u G' w' hle ⟨h1,h2,h3⟩=>⟨G',hr.put hle hd h1 h2,hle,h3⟩
 .rcases he with ⟨he|he,rfl⟩|⟨_,hev⟩
  .exact(aEa he hρ hr.mem).wp (n:=n) (nb:=nb) (S:=S) fun u G' w' hle ⟨h1,h2,h3⟩=>⟨G',hr.put hle hd h1 h2,hle,fun k hk hg=>⟨by rw[h3];exact hg,rfl⟩⟩
  .unfold sS at he;split at he
   .rename_i c ho;split at he
    .rename_i f hcal;split at he
     .rename_i fid caps hf;obtain⟨hen,hc⟩:=he S.box nb (Ext.refl _);have hfv:=hr.ev f;rw[hf] at hfv;generalize hv:a.eval f=fv at hfv;cases hfv with
      | fn hl hh =>
       rename_i cvs;have hargs:RVs G w (c.args.toList.map S.ev++caps) ((c.args.map a.eval).toList++cvs):=by
        refine RVs.append ⟨by simp,fun i h1 h2=>?_⟩ ⟨hl,hh⟩;simp only[List.getElem_map,Array.toList_map];exact hr.ev _
       have hcalls:=hc G w _ hr.mem hargs;unfold Oper.wp;have hexec:(execOp a.eval o).run P w=.ok (.enter fid ((c.args.map a.eval).toList++cvs).toArray) w:=by
        have e:((c.args.map a.eval).toList++cvs).toArray = #[]++c.args.map a.eval++cvs.toArray:=by simp
        simp only[execOp,ho,resolve,hcal,hv,Deferred.ofValue,Sem.run_bind,Sem.run_pure,Result.andThen_ok,invoke,e];exact hen _ w
       rw[hexec];refine Calls.mono hcalls fun e w' ⟨u,av,m',G',h1,h2,h3,h4,h5,h6,h7⟩=>?_
       subst h1;obtain⟨rfl,rfl⟩:=h2;exact⟨G',hr.put h6 hd h5 h4,h6,fun k hk hg=>⟨(h7 k hg).1,rfl⟩⟩
     .exact he.elim
    .exact he.elim
   .exact he.elim
  .unfold aCv at hev;split at hev
   .rename_i c ho;split at hev
    .rename_i f hcal;split at hev
     .rename_i fid caps hf;obtain⟨x,kb,i0,off,rows,hcp,hx,hbk,hbx,hwc⟩:=hev;obtain⟨hen,hc⟩:=hwc S.box nb rfl;have hfv:=hr.ev f;rw[hf] at hfv;generalize hv:a.eval f=fv at hfv;cases hfv with
      | fn hl hh =>
       rename_i cvs;have hargs:RVs G w (c.args.toList.map S.ev++caps) ((c.args.map a.eval).toList++cvs):=by
        refine RVs.append ⟨by simp,fun i h1 h2=>?_⟩ ⟨hl,hh⟩;simp only[List.getElem_map,Array.toList_map];exact hr.ev _
       have hcalls:=hc G w _ hr.mem hargs;unfold Oper.wp;have hexec:(execOp a.eval o).run P w=.ok (.enter fid ((c.args.map a.eval).toList++cvs).toArray) w:=by
        have e:((c.args.map a.eval).toList++cvs).toArray = #[]++c.args.map a.eval++cvs.toArray:=by simp
        simp only[execOp,ho,resolve,hcal,hv,Deferred.ofValue,Sem.run_bind,Sem.run_pure,Result.andThen_ok,invoke,e];exact hen _ w
       rw[hexec];refine Calls.mono hcalls fun e w' ⟨u,av,m',G',h1,h2,h3,h4,h5,h6,h7⟩=>?_
       subst h1;obtain⟨rfl,rfl⟩:=h2;subst hbx;exact⟨G',hr.put h6 hd h5 h4,h6,fun k hk hg=>h7 k hg⟩
     .exact hev.elim
    .exact hev.elim
   .exact hev.elim
theorem tD{n nb:Nat}{ops:Array Oper}{G:Gh}{S:AS}{a:Act}{w:World}{j:Nat}{b:Option Bool}(hr:cP n nb G S a w)(h:dL ops S j=some b)(hd:∀o d,ops[j]?=some o->o.dst=some d->d<n):
  yielded ops a.tmps j=b:=by
 unfold dL at h;split at h
 .rename_i d hdst;split at h
  .rename_i b' hv;simp only[Option.some.injEq] at h;subst h;have h1:=hr.tmps d;rw[hv] at h1;have h2:a.tmps.getD d undef=.bool b':=dA rfl h1
   obtain⟨o,ho,hod⟩:=Option.bind_eq_some_iff.1 hdst;have hlt:d<a.tmps.size:=by rw[hr.size];exact hd o d ho hod
   have h3:a.tmps[d]?=some (.bool b'):=by
    rw[<-h2];simp[Array.getD,hlt]
   simp[yielded,hdst,h3]
  .rename_i hv;simp only[Option.some.injEq] at h;subst h;have h1:=hr.tmps d;rw[hv] at h1;have h2:a.tmps.getD d undef=.tuple #[]:=by
    generalize a.tmps.getD d undef=x at h1;cases h1 with
    | tup hl hh =>
     rename_i vs;have:vs=[]:=List.eq_nil_of_length_eq_zero (by simpa using hl.symm)
     subst this;rfl
   have h3:∀x,a.tmps[d]?=some x->x=.tuple #[]:=by
    intro x hx;rw[<-h2];simp[Array.getD_eq_getD_getElem?,hx]
   simp only[yielded,hdst,Option.bind_some];cases hx:a.tmps[d]? with
   | none=>rfl
   | some x=>rw[h3 x hx]
  .cases h
 .cases h
theorem aC5{n nb base:Nat}{ops:Array Oper}{i:Nat}{o:Oper}{S S':AS}{G:Gh}{a:Act}{w:World}{Q:Exit->Act->World->Prop}{K:Act->World->Prop}(hi:ops[i]?=some o)(h:cE P wr base ops o S S')(hr:cP n nb G S a w)(hd:∀(o:Oper) d,o∈ops->o.dst=some d->d<n)(hnb:base+n<=nb)(hp:oI P base o G S.box)(hk:∀a' w' G',cP n nb G' S' a' w'->Le G w G' w'->aI0 base o G G' S.box S'.box->K a' w'):wpOp P ops Q i K a w:=by
 unfold wpOp;rw[hi];simp only[];have hd':∀d,o.dst=some d->d<n:=fun d hdd=>hd o d (Array.mem_of_getElem? hi) hdd
 unfold cE at h;split at h
 .rename_i hg;have hw:Region.wanted o (yielded ops a.tmps)=true:=by simp[Region.wanted,hg]
  rw[if_pos hw];exact .inl (Oper.wp_mono (fun _ _ ⟨G',h1,h2,h3⟩=>hk _ _ G' h1 h2 h3) (pM h hr hd' hnb hp))
 .rename_i j want hg;split at h
  .rename_i b hy;have hy':=tD hr hy (fun o d h1 h2=>hd o d (Array.mem_of_getElem? h1) h2)
   split at h
   .rename_i e;subst e;have hw:Region.wanted o (yielded ops a.tmps)=true:=by simp[Region.wanted,hg,hy']
    rw[if_pos hw];exact .inl (Oper.wp_mono (fun _ _ ⟨G',h1,h2,h3⟩=>hk _ _ G' h1 h2 h3) (pM h hr hd' hnb hp))
   .rename_i e;have hw:¬Region.wanted o (yielded ops a.tmps)=true:=by simp[Region.wanted,hg,hy',e]
    rw[if_neg hw];subst h;exact hk _ _ G (hr.put (Le.refl G w) hd' RV.undef hr.mem) (Le.refl G w) fun k _ hgk=>⟨hgk,rfl⟩
  .exact h.elim
end Go.AM
