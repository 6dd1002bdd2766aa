import Derived.Test.YtchfmhhbiealcaaGreatDoorPIB1
import Derived.MapKept
import Derived.Lib.AppendStr
set_option linter.unusedSimpArgs false
set_option linter.unusedVariables false
namespace Go.AM
theorem ao.{u}:type_of% @List.getD_eq_getElem?_getD.{u}:=@List.getD_eq_getElem?_getD
theorem dx.{u}:type_of% @Option.getD_some.{u}:=@Option.getD_some
theorem db.{u}:type_of% @List.length_nil.{u}:=@List.length_nil
theorem fx.{u}:type_of% @Array.getElem?_eq_getElem.{u}:=@Array.getElem?_eq_getElem
theorem c6.{u}:type_of% @List.append_nil.{u}:=@List.append_nil
theorem dg.{u}:type_of% @List.length_pos_iff.{u}:=@List.length_pos_iff
theorem ga.{u}:type_of% @List.size_toArray.{u}:=@List.size_toArray
theorem dw:type_of% @Classical.byContradiction:=@Classical.byContradiction
theorem d5.{u}:type_of% @List.getElem?_toArray.{u}:=@List.getElem?_toArray
theorem eg.{u}:type_of% @List.length_drop.{u}:=@List.length_drop
theorem fh.{u,v}:type_of% @Option.bind_some.{u,v}:=@Option.bind_some
theorem fy.{u,v}:type_of% @Array.toList_map.{u,v}:=@Array.toList_map
theorem bh.{u}:type_of% @List.take_length.{u}:=@List.take_length
theorem dj.{u}:type_of% @List.length_eq_zero_iff.{u}:=@List.length_eq_zero_iff
theorem bd:type_of% @Bool.and_eq_true:=@Bool.and_eq_true
theorem dp:type_of% @Bool.eq_iff_iff:=@Bool.eq_iff_iff
theorem g8.{u}:type_of% @beq_iff_eq.{u}:=@beq_iff_eq
theorem au:type_of% @decide_eq_true_eq:=@decide_eq_true_eq
theorem dc.{u,v}:type_of% @Option.map_some.{u,v}:=@Option.map_some
theorem f7.{u}:type_of% @List.ext_getElem.{u}:=@List.ext_getElem
theorem ee.{u}:type_of% @List.findIdx?_eq_some_iff_getElem.{u}:=@List.findIdx?_eq_some_iff_getElem
theorem cq.{u}:type_of% @Option.isSome_iff_exists.{u}:=@Option.isSome_iff_exists
theorem bz:type_of% @Int.toNat_natCast:=@Int.toNat_natCast
theorem fu.{u,v}:type_of% @Option.map_none.{u,v}:=@Option.map_none
theorem fe.{u}:type_of% @Option.isSome_none.{u}:=@Option.isSome_none
theorem cg.{u}:type_of% @List.take_append_drop.{u}:=@List.take_append_drop
theorem ac.{u}:type_of% @if_neg.{u}:=@if_neg
theorem ew:type_of% @Nat.lt_or_ge:=@Nat.lt_or_ge
theorem af.{u}:type_of% @if_pos.{u}:=@if_pos
theorem ck.{u}:type_of% @List.getElem_cons_zero.{u}:=@List.getElem_cons_zero
theorem bf.{u}:type_of% @List.getElem_of_mem.{u}:=@List.getElem_of_mem
theorem dk.{u}:type_of% @Array.mem_of_getElem?.{u}:=@Array.mem_of_getElem?
open Go
variable {P:Program}
def aW(P:Program)(T:TypeId):Option (TypeId × Nat × Nat):=match P.underlying T with
 | some (.slice E)=>match P.info? E with
  | some i=>match i.zero with
   | some z=>if z.cells.size=i.size/\0<i.size/\0<i.bytes then some (E,i.size,i.bytes) else none
   | none=>none
  | none=>none
 | _=>none
theorem fP{T E sz by':Nat}(h:aW P T=some (E,sz,by')):P.underlying T=some (.slice E)/\∃i z,P.info? E=some i/\i.zero=some z/\z.cells.size=sz/\i.size=sz/\i.bytes=by'/\0<sz/\0<by':=by
 unfold aW at h;split at h
 .rename_i E' hE;split at h
  .rename_i i hi;split at h
   .rename_i z hz;split at h
    .rename_i hc;simp only[ad,aw] at h;obtain⟨rfl,rfl,rfl⟩:=h;exact⟨hE,i,z,hi,hz,hc.1,rfl,rfl,hc.2.1,hc.2.2⟩
    .cases h
   .cases h
  .cases h
 .cases h
structure iH (c:Addr->Option Value) (ps:Addr->Prop) (sz:Nat) (es:List (List D)) (A:Option Addr) (vs:List Value):Prop where
 len:vs.length=es.length*sz
 at_:∀a,A=some a->∀q u,vs[q]?=some u->ps (a.add q)/\c (a.add q)=some u
 one:∀u∈vs,u.oneCell'=true
 some_:es≠[]->∃a,A=some a
 each:∀e∈es,e.length=sz
 read:∀i j (hi:i<es.length) (hj:j<es[i].length),∃u,vs[i*sz+j]?=some u/\RVd c ps es[i][j] u
theorem RVd.flat{c:Addr->Option Value}{ps:Addr->Prop}{sz:Nat}{es:List (List D)}{v:Value}(h:RVd c ps (.sl sz es) v):
    ∃A cap vs,v=.slice A es.length cap/\es.length<=cap/\cap<=maxLen/\iH c ps sz es A vs:=by
  cases h with
  | sl u i8 i9 hsz hA hc hr =>
    rename_i A cap;refine⟨A,cap,(List.range (es.length*sz)).map fun q=>u (q / sz) (q % sz),rfl,i8,i9,⟨by simp,?_,?_,hA,hsz,?_⟩⟩
    . intro a ha q x hq
      simp only[f9] at hq;obtain⟨q',BG,rfl⟩:=cy.1 hq;obtain⟨hlt,rfl⟩:=ba.1 BG;simp at hlt ⊢;have li:0<sz:=by
       rcases Nat.eq_zero_or_pos sz with h|h;· subst h;simp at hlt
       . exact h
      have h1:q / sz<es.length:=(Nat.div_lt_iff_lt_mul li).2 hlt
      have h2:=hc a ha (q / sz) (q % sz) h1 (Nat.mod_lt _ li);rw[Nat.mul_comm,Nat.div_add_mod] at h2;exact h2
    . intro x hx
      simp at hx;obtain⟨q,hlt,rfl⟩:=hx;have li:0<sz:=by
       rcases Nat.eq_zero_or_pos sz with h|h;· subst h;simp at hlt
       . exact h
      have h1:q / sz<es.length:=(Nat.div_lt_iff_lt_mul li).2 hlt
      have h3:=hsz _ (aa h1);exact(hr (q / sz) (q % sz) h1 (by rw[h3];exact Nat.mod_lt _ li)).one
    . intro i j hi hj
      have hl:=hsz _ (aa hi);have hlt:i*sz+j<es.length*sz:=by
        have:(i+1)*sz<=es.length*sz:=bm _ (by omega)
        rw[cf] at this;omega
      have e1:(i*sz+j) / sz=i:=by
        rw[Nat.mul_comm,Nat.mul_add_div (by omega),Nat.div_eq_of_lt (by omega)];omega
      have e2:(i*sz+j) % sz=j:=by
        rw[Nat.mul_comm,Nat.mul_add_mod,Nat.mod_eq_of_lt (by omega)]
      exact⟨u i j,by simp[hlt,e1,e2],hr i j hi hj⟩
theorem RVd.of_flat{c:Addr->Option Value}{ps:Addr->Prop}{sz:Nat}{es:List (List D)}{A:Option Addr}{cap:Nat}{vs:List Value}(i8:es.length<=cap)(i9:cap<=maxLen)(h:iH c ps sz es A vs):
  RVd c ps (.sl sz es) (.slice A es.length cap):=by
 refine .sl (fun i j=>vs.getD (i*sz+j) default) i8 i9 h.each h.some_ ?_ ?_
 .intro a ha i j hi hj;obtain⟨u,hu,_⟩:=h.read i j hi (by rw[h.each _ (aa hi)];exact hj);obtain⟨h1,h2⟩:=h.at_ a ha _ u hu;refine⟨h1,?_⟩;simp only[ao,hu,dx];exact h2
 .intro i j hi hj;obtain⟨u,hu,hr⟩:=h.read i j hi hj;simp only[ao,hu,dx];exact hr
theorem iH.mono{c c':Addr->Option Value}{ps ps':Addr->Prop}(h:∀a u,ps a->c a=some u->ps' a/\c' a=some u){sz:Nat}{es:List (List D)}{A:Option Addr}{vs:List Value}(r:iH c ps sz es A vs):iH c' ps' sz es A vs where
 len:=r.len
 at_ a ha q u hq:=h _ _ (r.at_ a ha q u hq).1 (r.at_ a ha q u hq).2
 one:=r.one
 some_:=r.some_
 each:=r.each
 read i j hi hj:=let ⟨u,hu,hr⟩:=r.read i j hi hj;⟨u,hu,hr.mono h⟩
def gC(s:ByteArray):List (List D):=s.data.toList.map fun b=>[D.raw (.int .u8 b.toNat)]
theorem aEw(s:ByteArray):(gC s).length=s.size:=by rw[gC,br,Array.length_toList];rfl
theorem iH.v{c:Addr->Option Value}{ps:Addr->Prop}{sz:Nat}{es:List (List D)}{A:Option Addr}{vs:List Value}(h:iH c ps sz es A vs):cN c ps sz es vs:=⟨h.len,h.one,h.each,h.read⟩
theorem cN.bytes(c:Addr->Option Value)(ps:Addr->Prop)(s:ByteArray):cN c ps 1 (gC s) (Lib.strCells s) where
 len:=by simp[gC,Lib.strCells]
 one:=Lib.strCells_oneCell s
 each e he:=by
  simp only[gC,bc] at he;obtain⟨b,_,rfl⟩:=he;rfl
 read i j hi hj:=by
  simp only[gC,bl,ci,db] at hj ⊢;have Ah:j=0:=by omega
  subst Ah;simp only[gC,br] at hi;refine⟨.int .u8 (s.data.toList[i]).toNat,?_,.raw rfl⟩;have oe:i<s.data.size:=by simpa using hi
  refine by simp[Lib.strCells];exact⟨_,fx oe,rfl⟩
theorem iH.append{c:Addr->Option Value}{ps:Addr->Prop}{sz:Nat}{es news:List (List D)}{A:Option Addr}{vs us:List Value}(h:iH c ps sz es A vs)(k:cN c ps sz news us)(a:Addr)(j6:∀q u,(vs++us)[q]?=some u->ps (a.add q)/\c (a.add q)=some u):iH c ps sz (es++news) (some a) (vs++us) where
 len:=by rw[am,am,h.len,k.len,cf]
 at_ a' xi q u hq:=by cases xi;exact j6 q u hq
 one u hu:=by
  rcases ap.1 hu with h1|h1
  .exact h.one u h1
  .exact k.one u h1
 some_ _:=⟨a,rfl⟩
 each e he:=by
  rcases ap.1 he with h1|h1
  .exact h.each e h1
  .exact k.each e h1
 read i j hi hj:=by
  by_cases hlt:i<es.length
  .simp only[b6 hlt] at hj ⊢;obtain⟨u,hu,hr⟩:=h.read i j hlt hj;refine⟨u,?_,hr⟩;rw[bi (ba.1 hu).1];exact hu
  .simp only[ch (by omega:es.length<=i)] at hj ⊢;obtain⟨u,hu,hr⟩:=k.read (i-es.length) j (by simp at hi;omega) hj;refine⟨u,?_,hr⟩;have e1:i*sz+j=vs.length+((i-es.length)*sz+j):=by
    rw[h.len];have:i=es.length+(i-es.length):=by omega
    conv=>lhs;rw[this]
    rw[cf];omega
   rw[e1,dd (by omega),ep];exact hu
theorem iH.resize{c:Addr->Option Value}{ps:Addr->Prop}{sz sz':Nat}{es:List (List D)}{A:Option Addr}{vs:List Value}(h:iH c ps sz es A vs)(hs:sz=sz'∨es=[]):iH c ps sz' es A vs:=by
 rcases hs with rfl|rfl
 .exact h
 .have hv:vs=[]:=bg (by simpa using h.len)
  subst hv;exact⟨by simp,fun a _ q u hq=>by simp at hq,fun u hu=>by simp at hu,fun h=>absurd rfl h,fun e he=>by simp at he,fun i j hi=>by simp at hi⟩
def aH(P:Program)(T:TypeId):Option (List Value):=match (P.info? T).bind (·.zero) with
 | some z=>if z.cells.toList.all (·.oneCell') then some z.cells.toList else none
 | none=>none
theorem cN.append{c:Addr->Option Value}{ps:Addr->Prop}{sz:Nat}{es news:List (List D)}{vs us:List Value}(h:cN c ps sz es vs)(k:cN c ps sz news us):cN c ps sz (es++news) (vs++us) where
 len:=by rw[am,am,h.len,k.len,cf]
 one u hu:=by
  rcases ap.1 hu with h1|h1
  .exact h.one u h1
  .exact k.one u h1
 each e he:=by
  rcases ap.1 he with h1|h1
  .exact h.each e h1
  .exact k.each e h1
 read i j hi hj:=by
  by_cases hlt:i<es.length
  .simp only[b6 hlt] at hj ⊢;obtain⟨u,hu,hr⟩:=h.read i j hlt hj;refine⟨u,?_,hr⟩;rw[bi (ba.1 hu).1];exact hu
  .simp only[ch (by omega:es.length<=i)] at hj ⊢;obtain⟨u,hu,hr⟩:=k.read (i-es.length) j (by simp at hi;omega) hj;refine⟨u,?_,hr⟩;have e1:i*sz+j=vs.length+((i-es.length)*sz+j):=by
    rw[h.len];have:i=es.length+(i-es.length):=by omega
    conv=>lhs;rw[this]
    rw[cf];omega
   rw[e1,dd (by omega),ep];exact hu
theorem cN.none_(c:Addr->Option Value)(ps:Addr->Prop)(sz:Nat):cN c ps sz [] []:=⟨by simp,fun u hu=>by simp at hu,fun e he=>by simp at he,fun i j hi=>by simp at hi⟩
def aC8(P:Program)(o:Oper)(ρ:Operand->AV)(tok:Tks)(nt:Nat)(v:AV)(tok':Nat->Bool)(nt':Nat):Prop:=match o.op with
 | .call c=>match c.callee,c.args.toList,c.argTypes.toList with
  | .builtin .append,[s,x],[T,T']=>match aW P T,ρ s,(ρ x).elems? with
   | some (_,sz,by'),.osl sz0 es own,some (sz1,news) =>
    T'=T/\(sz0=sz∨es=[]/\own=.full)/\(sz1=sz∨news=[])/\(es.length+news.length)*by'<=140737488355328/\own.live tok=true /\
     v=.osl sz (es++news) (.tok nt)/\tok'=upd (own.kill tok) nt true/\nt'=nt+1
   | _,_,_=>False
  | _,_,_=>False
 | _=>False
def aLL(P:Program)(T T':TypeId)(s x:AV)(tok:Tks)(nt:Nat):Option (Prop × AV × (Nat->Bool)):=match aW P T,s with
 | some (E,sz,by'),.stk t sz0 es=>match x.elems? with
  | some (sz1,news)=>some (T'=T/\sz0=sz/\(sz1=sz∨news=[])/\(aH P E).isSome=true/\(es.length+news.length)*by'<=140737488355328/\tok t=true,.stk nt sz (es++news),upd (upd tok t false) nt true)
  | none=>none
 | some (E,sz,by'),.que t sz0 es=>match x.elems? with
  | some (sz1,news)=>some (T'=T/\sz0=sz/\sz1=sz/\news≠[]/\(es.length+news.length)*by'<=140737488355328/\tok t=true,.que nt sz (es++news),upd (upd tok t false) nt true)
  | none=>none
 | some (_,sz,by'),.osl sz0 es own=>match x with
  | .stk t sz1 news=>some (T'=T/\(sz0=sz∨es=[]/\own=.full)/\sz1=sz/\(es.length+news.length)*by'<=140737488355328/\own.live tok=true/\tok t=true,.osl sz (es++news) (.tok nt),upd (own.kill tok) nt true)
  | _=>none
 | _,_=>none
def aLs(P:Program)(T T':TypeId)(s x:AV)(tok:Tks)(nt:Nat):Option (Prop × AV × (Nat->Bool)):=match x with
 | .d (.raw (.string str))=>match aW P T,s with
  | some (E,sz,by'),.osl _ [] .full=>some (aY P T'=true/\sz=1/\0<str.size/\str.size*by'<=140737488355328,.buf E nt (gC str),upd tok nt true)
  | some (E,sz,by'),.buf E' t es=>some (aY P T'=true/\sz=1/\E'=E/\(es.length+str.size)*by'<=140737488355328/\tok t=true,.buf E nt (es++gC str),upd (upd tok t false) nt true)
  | _,_=>none
 | x=>aLL P T T' s x tok nt
def aIA(P:Program)(o:Oper)(ρ:Operand->AV)(tok:Tks)(nt:Nat)(v:AV)(tok':Nat->Bool)(nt':Nat):Prop:=match o.op with
 | .call c=>match c.callee,c.args.toList,c.argTypes.toList with
  | .builtin .append,[s,x],[T,T']=>∃ φ,aLs P T T' (ρ s) (ρ x) tok nt=some (φ,v,tok')/\φ/\nt'=nt+1
  | _,_,_=>False
 | _=>False
def aMv(es:List (ByteArray × List (List D) × Own))(s:ByteArray):AV:=match es.find? fun e=>decide (e.1=s) with
 | some e=>.osl 1 e.2.1 e.2.2
 | none=>.osl 0 [] .full
def aII(es:List (ByteArray × List (List D)))(s:ByteArray):AV:=match es.find? fun e=>decide (e.1=s) with
 | some e=>.d (.sl 1 e.2)
 | none=>.osl 0 [] .full
def aFf(P:Program)(T:TypeId):Bool:=match P.underlying T with
 | some (.map kt et)=>(match P.underlying kt with|some .string=>true|_=>false)&&(match P.info? et with|some i=>(match i.zero with|some (.slice none 0 0)=>true|_=>false)|none=>false)
 | _=>false
def fM(P:Program)(o:Oper)(ρ:Operand->AV)(tok:Tks)(nt:Nat):Option (Prop × AV × (Nat->Bool) × Nat):=match o.op with
 | .makeMap _ none=>some (True,.mp nt [],upd tok nt true,nt+1)
 | .lookup T m k false=>match ρ m,ρ k with
  | .mp t es,.d (.raw (.string s))=>some (aFf P T=true/\tok t=true,aMv es s,tok,nt)
  | .mpd es,.d (.raw (.string s))=>some (aFf P T=true,aII es s,tok,nt)
  | _,_=>none
 | _=>none
def aQJ(P:Program)(o:Oper)(ρ:Operand->AV)(tok:Tks)(nt:Nat)(v:AV)(tok':Nat->Bool)(nt':Nat):Prop:=∃ φ,fM P o ρ tok nt=some (φ,v,tok',nt')/\φ
def aE0(P:Program)(o:Oper)(ρ:Operand->AV)(tok:Tks)(nt:Nat)(v:AV)(tok':Nat->Bool)(nt':Nat):Prop:=aC8 P o ρ tok nt v tok' nt'∨aIA P o ρ tok nt v tok' nt'∨aQJ P o ρ tok nt v tok' nt'
structure Src (P:Program) (w:World) (T T' ty E:TypeId) (i:TypeInfo) (z:Value) (xv:Value) (n:Nat) (us:List Value):Prop where
 none_:n=0->∀(A:Option Addr) (k cap:Nat),k<=cap->(Builtin.append_ #[T,T'] ty #[.slice A k cap,xv]).run P w=.ok (.slice A k cap) w
 room:0<n->∀(g sLen sCap:Nat) (cur:Array Value) (e':TypeId),w.heap[g]?=some (.cells cur e' (0,0))->sLen+n<=sCap->sLen*i.size+us.length<=cur.size ->
  (Builtin.append_ #[T,T'] ty #[.slice (some ⟨g,0,none⟩) sLen sCap,xv]).run P w=.ok (.slice (some ⟨g,0,none⟩) (sLen+n) sCap) (w.setRow g (cur.toList.take (sLen*i.size)++us++cur.toList.drop (sLen*i.size+us.length)).toArray)
 grow:0<n->∀(b:Addr) (sLen sCap:Nat) (olds:List Value),olds.length=sLen*i.size->(∀j v,olds[j]?=some v->w.cell? (b.add j)=some v)->sCap<sLen+n->((sLen+n:Nat):Int)<=9223372036854775807 ->
  Builtin.nextslicecap (sLen+n) sCap*i.bytes<=281474976710656 ->
  (Builtin.append_ #[T,T'] ty #[.slice (some b) sLen sCap,xv]).run P w=.ok (.slice (some ⟨w.heap.size,0,none⟩) (sLen+n) (grownCap w (sLen+n) sCap E))
   (w.drew.alloc (.cells (olds.toArray++us.toArray++Builtin.zeroCells z.cells (grownCap w (sLen+n) sCap E-(sLen+n))) E))
 nil_:0<n->(n:Int)<=9223372036854775807->n*i.bytes<=281474976710656 ->
  (Builtin.append_ #[T,T'] ty #[.slice none 0 0,xv]).run P w=.ok (.slice (some ⟨w.heap.size,0,none⟩) n (grownCap w n 0 E)) (w.drew.alloc (.cells (us.toArray++Builtin.zeroCells z.cells (grownCap w n 0 E-n)) E))
theorem mA(t ty E:TypeId)(i:TypeInfo)(w:World)(ht:P.underlying t=some (.slice E))(hi:P.info? E=some i)(A B:Option Addr)(n cap c:Nat)(hn:n<=cap):
  (Builtin.append_ #[t,t] ty #[.slice A n cap,.slice B 0 c]).run P w=.ok (.slice A n cap) w:=by
 cases A<;>cases B<;>simp[Builtin.append_,bp ht,sizeOf,typeInfo,hi,Builtin.lenOf,Builtin.firstCells,loadCells,loadCellsFrom,hn,storeCells]
theorem kR(t ty e e':TypeId)(i:TypeInfo)(w:World)(ht:P.underlying t=some (.slice e))(hi:P.info? e=some i)(g sLen sCap:Nat)(cur:Array Value)(hg:w.heap[g]?=some (.cells cur e' (0,0)))(a:Addr)(m c:Nat)(news:List Value)(hl:news.length=m*i.size)(ul:∀j u,news[j]?=some u->w.cell? (a.add j)=some u)(h1:∀u∈news,u.oneCell'=true)(j5:sLen+m<=sCap)(ji:sLen*i.size+news.length<=cur.size):
  (Builtin.append_ #[t,t] ty #[.slice (some ⟨g,0,none⟩) sLen sCap,.slice (some a) m c]).run P w =
   .ok (.slice (some ⟨g,0,none⟩) (sLen+m) sCap) (w.setRow g (cur.toList.take (sLen*i.size)++news++cur.toList.drop (sLen*i.size+news.length)).toArray):=by
 have hf:=run_firstCells_some (P:=P) w i.size m a m c news hl ul;have jp:=run_storeCells_at P g (sLen*i.size) e' news 0 cur w hg (by simpa using ji) h1;simp only[fl] at jp;simp[Builtin.append_,bp ht,sizeOf,typeInfo,hi,Builtin.lenOf,j5,hf,Addr.add_lit,jp]
theorem dO.imp{o:Oper}{ρv:Operand->Value}{G:Gh}{w:World}{R R':Value->Gh->World->Prop}(h:dO P o ρv G w R)(k:∀u G' w',R u G' w'->R' u G' w'):dO P o ρv G w R':=by
 obtain⟨nx,u,G',w',h1,h2,h3,h4⟩:=h;exact⟨nx,u,G',w',h1,h2,h3,k _ _ _ h4⟩
theorem oH{o:Oper}{ρv:Operand->Value}{G:Gh}{m:bH}{w:World}{c:Call}{s x:Operand}{T T' E:TypeId}{i:TypeInfo}{z:Value}{sz by' sz0:Nat}{es news:List (List D)}{own:Own}{xv:Value}{us:List Value}(ho:o.op=.call c)(i5:c.callee=.builtin .append)(hargs:c.args.toList=[s,x])(lr:c.argTypes.toList=[T,T'])(hE:P.underlying T=some (.slice E))(hi:P.info? E=some i)(hz:i.zero=some z)(oy:z.cells.size=sz)(k7:i.size=sz)(nc:i.bytes=by')(l5:0<sz)(l6:0<by')(sb:sz0=sz∨es=[]/\own=.full)(hbytes:(es.length+news.length)*by'<=140737488355328)(ip:own.live m.tok=true)(hs:RV G w (.osl sz0 es own) (ρv s))(o8:ρv x=xv)(j4:cN w.cell? G.ps sz news us)(mw:Src P w T T' o.type E i z xv news.length us)(hm:aV G m w):
    dO P o ρv G w fun u G' w'=>RV G' w' (.osl sz (es++news) (.tok m.nt)) u/\aV G' { m with tok:=upd (own.kill m.tok) m.nt true,nt:=m.nt+1 } w'/\G'.bx=G.bx/\((news≠[]∨∃t g,own=.tok t/\G.tk t=some (some g))->G'.tk m.nt≠some none)/\((∀t g,own=.tok t->G.tk t=some (some g)->∃cs f,w.heap[g]?=some (.cells cs E f))->∀g',G'.tk m.nt=some (some g')->∃cs f,w'.heap[g']?=some (.cells cs E f)):=by
  generalize Ai:ρv s=sv at hs
  -- the operation is one run of append
  have ka:∀u w',(Builtin.append_ #[T,T'] o.type #[sv,xv]).run P w=.ok u w'->(execOp ρv o).run P w=.ok (.value u) w':=by
    intro u w' hr;have ha:c.args = #[s,x]:=by rw[<-Array.toArray_toList (xs:=c.args),hargs]
    have hb:c.argTypes = #[T,T']:=by rw[<-Array.toArray_toList (xs:=c.argTypes),lr]
    simp only[execOp,ho,resolve,i5,ha,hb,List.map_toArray,di,d6,Ai,o8,ax,a8,aj,invoke,builtin,hr]
  cases hs with
  | osl Dy hown =>
    obtain⟨A,cap,vs,rfl,i8,i9,hf⟩:=Dy.flat;have mq:iH w.cell? G.ps sz es A vs:=hf.resize (sb.imp id And.left)
    have Aj:es.length+news.length<=140737488355328:=cb (Nat.le_mul_of_pos_right _ l6) hbytes
    have px:=hm.kill own;have ll:=Le.kill (G:=G) (w:=w) own;have oo:(G.kill own).nt=G.nt:=by cases own<;>rfl
    have um:(G.kill own).bx=G.bx:=by cases own<;>rfl
    have md:=hm.nt
    -- what follows once the memory is laid
    by_cases Ak:news=[]
    . -- nothing to append
      subst Ak;have Bu:us=[]:=bg (by simpa using j4.len)
      have hr:=mw.none_ rfl A es.length cap i8;have ym:∃x,(∀g,x=some g->G.kind g=.part (es.length*sz) (cap*sz)/\A=some ⟨g,0,none⟩/\∃t,own=.tok t/\G.tk t=some (some g))/\(x=none->cap=es.length)/\(∀t g,own=.tok t->G.tk t=some (some g)->x=some g):=by
        cases own with
        | full =>
          obtain⟨A',tq,_⟩:=hown;injection tq with _ _ h3
          exact⟨none,(fun g hg=>by cases hg),fun _=>h3,fun t g e _=>by cases e⟩
        | tok t =>
          obtain⟨_,y,hy⟩:=hm.toks t ip;have hk:=hown.2 y hy;cases y with
          | none =>
            obtain⟨A',tq⟩:=hk;injection tq with _ _ h3
            exact⟨none,(fun g hg=>by cases hg),fun _=>h3,fun t' g e h=>by cases e;rw[hy] at h;cases h⟩
          | some g =>
            obtain⟨cap',hv,pj⟩:=hk;injection hv with h1 _ h3
            subst h3;have:sz0=sz:=by
             rcases sb with h|⟨_,h⟩;· exact h
             . cases h
            subst this;exact⟨some g,fun g' hg'=>by cases hg';exact⟨pj,h1,t,rfl,hy⟩,(fun h=>by cases h),fun t' g' e h=>by cases e;rw[hy] at h;cases h;rfl⟩
      obtain⟨x0,Ad,wb,yn⟩:=ym;have lx:=px.newtok x0 (fun g hg=>by
        obtain⟨hk,_,t,rfl,ht⟩:=Ad g hg;refine⟨fun t' ly=>?_,?_⟩
        . simp only[Gh.kill] at ly
          by_cases e:t'=t
          . subst e;simp[uS] at ly
          . rw[uO _ _ e] at ly
            exact e (hm.tinj t' t g ly ht)
        . obtain⟨f,cur,e,h1,h2⟩:=hm.tokb t g ht
          exact⟨f,cur,e,h1,h2⟩)
      have lw:=Le.newtok (G:=G.kill own) (w:=w) x0;refine⟨.value _,_,(G.kill own).newtok x0,w,ka _ _ hr,.inl rfl,ll.trans lw,?_,lx,by simp[Gh.newtok,um],fun hn=>?_,fun BH g' hg'=>?_⟩
      rotate_left 1
      . rcases hn with hn|⟨t,g,rfl,ht⟩
        . exact absurd rfl hn
        . cases x0 with
          | some g0=>simp[Gh.newtok,oo,md,uS]
          | none=>exact absurd (yn _ _ rfl ht) (by simp)
      . simp only[Gh.newtok,oo,md,uS,ad] at hg'
        obtain⟨_,_,t,e1,e2⟩:=Ad g' hg';exact BH t g' e1 e2
      have hd:RVd w.cell? ((G.kill own).newtok x0).ps (.sl sz (es++[])) (.slice A es.length cap):=by
        simp only[c6];exact .of_flat i8 i9 (mq.mono (ll.trans lw).cells)
      refine .osl hd ⟨by simp only[Gh.newtok,oo];omega,fun y hy=>?_⟩;simp only[Gh.newtok,oo,md,uS,ad] at hy;subst hy;cases x0 with
      | none=>simp only[c6];rw[wb rfl];exact⟨A,rfl⟩
      | some g =>
        obtain⟨hk,hA,t,rfl,ht⟩:=Ad g rfl;subst hA;simp only[c6];exact⟨cap,rfl,hk⟩
    . -- something to append
      have n7:0<news.length:=dg.2 Ak
      have kc:us.length=news.length*i.size:=by rw[k7];exact j4.len
      have nq:vs.length=es.length*i.size:=by rw[k7];exact mq.len
      -- where a new array is made
      have grow:∀cp,(Builtin.append_ #[T,T'] o.type #[.slice A es.length cap,xv]).run P w =
          .ok (.slice (some ⟨w.heap.size,0,none⟩) (es.length+news.length) cp) (w.drew.alloc (.cells (vs.toArray++us.toArray++Builtin.zeroCells z.cells (cp-(es.length+news.length))) E)) ->
          es.length+news.length<=cp->cp<=maxLen ->
          dO P o ρv G w fun u G' w'=>RV G' w' (.osl sz (es++news) (.tok m.nt)) u/\aV G' { m with tok:=upd (own.kill m.tok) m.nt true,nt:=m.nt+1 } w'/\G'.bx=G.bx/\((news≠[]∨∃t g,own=.tok t/\G.tk t=some (some g))->G'.tk m.nt≠some none)/\((∀t g,own=.tok t->G.tk t=some (some g)->∃cs f,w.heap[g]?=some (.cells cs E f))->∀g',G'.tk m.nt=some (some g')->∃cs f,w'.heap[g']?=some (.cells cs E f)):=by
        intro cp hr hge hcm;have xj:=px.drew
        let obj:Obj:=.cells (vs.toArray++us.toArray++Builtin.zeroCells z.cells (cp-(es.length+news.length))) E
        have hp:=xj.newpart ((es.length+news.length)*sz) (cp*sz) obj;have jy:=Le.newpart xj ((es.length+news.length)*sz) (cp*sz) obj;have m9:(vs.toArray++us.toArray++Builtin.zeroCells z.cells (cp-(es.length+news.length))).size=cp*sz:=by
          simp only[Array.size_append,ga,size_zeroCells,oy,nq,kc,k7,<-Nat.add_mul];congr 1
          omega
        have lx:=hp.newtok (some w.heap.size) (fun g hg=>by
          cases hg;refine⟨fun t ht=>?_,(es.length+news.length)*sz,vs.toArray++us.toArray++Builtin.zeroCells z.cells (cp-(es.length+news.length)),_,?_,fk w.drew _⟩
          . have:=px.tlt t _ (by simpa[Gh.setKind] using ht)
            omega
          . rw[m9]
            refine .inl ⟨?_,E,rfl⟩;show upd _ w.heap.size _ w.heap.size=_
            rw[uS])
        have lw:=Le.newtok (G:=(G.kill own).setKind w.heap.size (.part ((es.length+news.length)*sz) (cp*sz))) (w:=w.drew.alloc obj) (some w.heap.size);have ik:=(ll.trans Le.drew).trans (jy.trans lw);refine⟨.value _,_,_,_,ka _ _ hr,.inl rfl,ik,?_,lx,by simp[Gh.newtok,Gh.setKind,um],fun _=>by simp[Gh.newtok,Gh.setKind,oo,md,uS],fun _ g' hg'=>by
          simp only[Gh.newtok,Gh.setKind,oo,md,uS,ad] at hg';subst hg';exact⟨_,_,fk w.drew _⟩⟩
        have xk:(vs++us).length=(es.length+news.length)*sz:=by rw[am,nq,kc,k7,cf]
        have kv:iH (w.drew.alloc obj).cell? (Gh.ps (((G.kill own).setKind w.heap.size (.part ((es.length+news.length)*sz) (cp*sz))).newtok (some w.heap.size))) sz (es++news) (some ⟨w.heap.size,0,none⟩) (vs++us):=by
          refine(mq.mono ik.cells).append (j4.mono ik.cells) _ (fun q u hq=>?_);have hlt:q<(vs++us).length:=(ba.1 hq).1
          rw[bK];refine⟨?_,?_⟩
          . show (match upd (G.kill own).kind w.heap.size (BK.part ((es.length+news.length)*sz) (cp*sz)) w.heap.size with|.whole=>True|.part f _=>0+q<f|.box=>False|.ex=>False)
            rw[uS];show 0+q<_
            omega
          . rw[e8 _ w.heap.size (0+q) (vs.toArray++us.toArray++Builtin.zeroCells z.cells (cp-(es.length+news.length))) E (0,0) (fk w.drew _)]
            rw[cd,Array.getElem?_append_left (by simpa using hlt)];simpa using hq
        have:=RVd.of_flat (cap:=cp) (by simpa using hge) hcm kv
        rw[am] at this;refine .osl this ⟨by simp only[Gh.newtok,Gh.setKind,oo];omega,fun y hy=>?_⟩;simp only[Gh.newtok,Gh.setKind,oo,md,uS,ad] at hy;subst hy;refine⟨cp,by simp,?_⟩;simp only[Gh.newtok,Gh.setKind,uS,am]
      have growA:cap<es.length+news.length->dO P o ρv G w fun u G' w'=>RV G' w' (.osl sz (es++news) (.tok m.nt)) u/\aV G' { m with tok:=upd (own.kill m.tok) m.nt true,nt:=m.nt+1 } w'/\G'.bx=G.bx/\((news≠[]∨∃t g,own=.tok t/\G.tk t=some (some g))->G'.tk m.nt≠some none)/\((∀t g,own=.tok t->G.tk t=some (some g)->∃cs f,w.heap[g]?=some (.cells cs E f))->∀g',G'.tk m.nt=some (some g')->∃cs f,w'.heap[g']?=some (.cells cs E f)):=by
        intro nm;have hge:=grownCap_ge w (es.length+news.length) cap E;have hcm:=grownCap_le_maxLen w (es.length+news.length) cap E (by unfold maxLen;omega);cases A with
        | some b =>
          exact grow _ (mw.grow n7 b es.length cap vs nq (fun q u hq=>(mq.at_ b rfl q u hq).2) nm (by omega) (growslice_fits nm (by rw[nc];exact hbytes))) hge hcm
        | none =>
          have mf:es=[]:=dw fun h=>by obtain⟨b,hb⟩:=mq.some_ h;cases hb
          subst mf;have wh:vs=[]:=bg (by simpa using nq)
          subst wh;have Al:cap=0:=by
            cases own with
            | full=>obtain⟨A',tq,_⟩:=hown;injection tq with _ _ h3
            | tok t =>
              obtain⟨_,y,hy⟩:=hm.toks t ip;have hk:=hown.2 y hy;cases y with
              | none=>obtain⟨A',tq⟩:=hk;injection tq with _ _ h3
              | some g=>obtain⟨cap',hv,pj⟩:=hk;injection hv with h1;cases h1
          subst Al;have hr:=mw.nil_ n7 (by omega) (by rw[nc];simp only[db,cd] at hbytes;omega);simp only[db,cd] at grow hge hcm ⊢;refine grow _ ?_ hge hcm;simpa using hr
      by_cases j5:es.length+news.length<=cap
      . -- there is room: only a token's block has it
        have yo:∃t g,own=.tok t/\G.tk t=some (some g)/\A=some ⟨g,0,none⟩/\G.kind g=.part (es.length*sz) (cap*sz):=by
          cases own with
          | full=>obtain⟨A',tq,_⟩:=hown;injection tq with _ _ h3;omega
          | tok t =>
            obtain⟨_,y,hy⟩:=hm.toks t ip;have hk:=hown.2 y hy;cases y with
            | none=>obtain⟨A',tq⟩:=hk;injection tq with _ _ h3;omega
            | some g =>
              obtain⟨cap',hv,pj⟩:=hk;injection hv with h1 _ h3
              subst h3;have:sz0=sz:=by
               rcases sb with h|⟨_,h⟩;· exact h
               . cases h
              subst this;exact⟨t,g,rfl,hy,h1,pj⟩
        obtain⟨t,g,rfl,ht,rfl,pj⟩:=yo;obtain⟨f,cur,o',hkg',hg⟩:=hm.tokb t g ht;rw[pj] at hkg';rcases hkg' with ⟨hkg',e',rfl⟩|hkg'
        case inr=>cases hkg'
        injection hkg' with hf1 hc1
        have ji:es.length*i.size+us.length<=cur.size:=by
          rw[kc,<-Nat.add_mul,<-hc1,k7];exact bm _ j5
        have hr:=mw.room n7 g es.length cap cur e' hg j5 ji;rw[k7] at hr ji;have k8:∀t',(G.kill (.tok t)).tk t'≠some (some g):=by
          intro t' ly;simp only[Gh.kill] at ly;by_cases e:t'=t
          . subst e;simp[uS] at ly
          . rw[uO _ _ e] at ly
            exact e (hm.tinj t' t g ly ht)
        let new:Array Value:=(cur.toList.take (es.length*sz)++us++cur.toList.drop (es.length*sz+us.length)).toArray
        have e1:cur.toList.length=cur.size:=by simp
        have hlt:(List.take (es.length*sz) cur.toList).length=es.length*sz:=by rw[cj];omega
        have my:∀q,q<es.length*sz->new[q]?=cur[q]?:=by
          intro q hq;simp only[new,d5];rw[cw,bi (by omega),e9 hq];simp
        have pu:=px.fill (g:=g) (f:=es.length*sz) (f':=(es.length+news.length)*sz) (c:=cap*sz) pj (bm _ (by omega)) k8 hg my;have un:=Le.fill (G:=G.kill (.tok t)) (w:=w) (g:=g) (f:=es.length*sz) (f':=(es.length+news.length)*sz) (c:=cap*sz) pj (bm _ (by omega)) k8 hg my;have uo:new.size=cap*sz:=by
          simp only[new,ga,am,cj,eg,Array.length_toList];omega
        have lx:=pu.newtok (some g) (fun g' hg'=>by
          cases hg'
          refine⟨fun t' ly=>k8 t' ly,(es.length+news.length)*sz,new,_,?_,setRow_heap w g cur new e' (0,0) hg⟩;rw[uo];refine .inl ⟨?_,e',rfl⟩;show upd _ g _ g=_
          rw[uS])
        have lw:=Le.newtok (G:=(G.kill (.tok t)).setKind g (.part ((es.length+news.length)*sz) (cap*sz))) (w:=w.setRow g new) (some g);have ik:=ll.trans (un.trans lw);refine⟨.value _,_,_,_,ka _ _ hr,.inl rfl,ik,?_,lx,by simp[Gh.newtok,Gh.setKind,um],fun _=>by simp[Gh.newtok,Gh.setKind,oo,md,uS],fun BH g' hg'=>by
          simp only[Gh.newtok,Gh.setKind,oo,md,uS,ad] at hg';subst hg';obtain⟨c0,f0,h0⟩:=BH t g rfl ht;exact oC w g g new c0 E f0 h0⟩
        have xk:(vs++us).length=(es.length+news.length)*sz:=by rw[am,nq,kc,k7,cf]
        have kv:iH (w.setRow g new).cell? (Gh.ps (((G.kill (.tok t)).setKind g (.part ((es.length+news.length)*sz) (cap*sz))).newtok (some g))) sz (es++news) (some ⟨g,0,none⟩) (vs++us):=by
          refine(mq.mono ik.cells).append (j4.mono ik.cells) _ (fun q u hq=>?_);have BI:q<(vs++us).length:=(ba.1 hq).1
          rw[bK];refine⟨?_,?_⟩
          . show (match upd (G.kill (.tok t)).kind g (BK.part ((es.length+news.length)*sz) (cap*sz)) g with|.whole=>True|.part f _=>0+q<f|.box=>False|.ex=>False)
            rw[uS];show 0+q<_
            omega
          . rw[cell_setRow_same w g (0+q) cur new e' (0,0) hg,cd]
            by_cases Bv:q<vs.length
            . rw[bi Bv] at hq
              rw[my q (by rw[<-mq.len];exact Bv)];have:=(mq.at_ ⟨g,0,none⟩ rfl q u hq).2
              rw[bK,e8 w g _ cur e' (0,0) hg,cd] at this;exact this
            . rw[dd (by omega)] at hq
              have yp:q-vs.length<us.length:=(ba.1 hq).1
              simp only[new,d5];rw[cw,dd (by rw[hlt,<-mq.len];omega),hlt,<-mq.len,bi yp];exact hq
        have:=RVd.of_flat (cap:=cap) (by simpa using j5) i9 kv
        rw[am] at this;refine .osl this ⟨by simp only[Gh.newtok,Gh.setKind,oo];omega,fun y hy=>?_⟩;simp only[Gh.newtok,Gh.setKind,oo,md,uS,ad] at hy;subst hy;refine⟨cap,by simp,?_⟩;simp only[Gh.newtok,Gh.setKind,uS,am]
      . exact growA (by omega)
theorem aI9{E:TypeId}{i:TypeInfo}{z:Value}(h:(aH P E).isSome=true)(hi:P.info? E=some i)(hz:i.zero=some z):∀u∈z.cells.toList,u.oneCell'=true:=by
 unfold aH at h;rw[hi,fh,hz] at h;simp only at h;split at h
 .rename_i h1;exact fun u hu=>aq.1 h1 u hu
 .cases h
theorem yW{z:Array Value}{n:Nat}{u:Value}(h:u∈(Builtin.zeroCells z n).toList):u∈z.toList:=by
 simp only[Builtin.zeroCells,fy,bc] at h;obtain⟨i,hi,rfl⟩:=h;have hi:i<n*z.size:=by simpa using hi
 have hp:0<z.size:=by
  rcases Nat.eq_zero_or_pos z.size with h|h
  .rw[h] at hi;omega
  .exact h
 have hm:=Nat.mod_lt i hp;rw[getElem!_pos z _ hm];exact Array.getElem_mem_toList hm
theorem aDl{o:Oper}{ρv:Operand->Value}{G:Gh}{m:bH}{w:World}{c:Call}{s x:Operand}{T T' E:TypeId}{i:TypeInfo}{z:Value}{sz by' t:Nat}{es news:List (List D)}{xv:Value}{us:List Value}(ho:o.op=.call c)(i5:c.callee=.builtin .append)(hargs:c.args.toList=[s,x])(lr:c.argTypes.toList=[T,T'])(hE:P.underlying T=some (.slice E))(hi:P.info? E=some i)(hz:i.zero=some z)(oy:z.cells.size=sz)(k7:i.size=sz)(nc:i.bytes=by')(l5:0<sz)(l6:0<by')(BJ:∀u∈z.cells.toList,u.oneCell'=true)(hbytes:(es.length+news.length)*by'<=140737488355328)(ip:m.tok t=true)(hs:zF G w t sz es (ρv s))(o8:ρv x=xv)(j4:cN w.cell? G.ps sz news us)(mw:Src P w T T' o.type E i z xv news.length us)(hm:aV G m w):
  dO P o ρv G w fun u G' w'=>RV G' w' (.stk m.nt sz (es++news)) u/\aV G' { m with tok:=upd (upd m.tok t false) m.nt true,nt:=m.nt+1 } w'/\G'.bx=G.bx:=by
 generalize Ai:ρv s=sv at hs;have ka:∀u w',(Builtin.append_ #[T,T'] o.type #[sv,xv]).run P w=.ok u w'->(execOp ρv o).run P w=.ok (.value u) w':=by
  intro u w' hr;have ha:c.args = #[s,x]:=by rw[<-Array.toArray_toList (xs:=c.args),hargs]
  have hb:c.argTypes = #[T,T']:=by rw[<-Array.toArray_toList (xs:=c.argTypes),lr]
  simp only[execOp,ho,resolve,i5,ha,hb,List.map_toArray,di,d6,Ai,o8,ax,a8,aj,invoke,builtin,hr]
 obtain⟨BL,A,cap,rfl,i8,i9,jp⟩:=hs;obtain⟨_,y,hy⟩:=hm.toks t ip;have jp:=jp y hy;have Aj:es.length+news.length<=140737488355328:=cb (Nat.le_mul_of_pos_right _ l6) hbytes
 have px:=hm.kill (.tok t);have ll:=Le.kill (G:=G) (w:=w) (.tok t);have md:=hm.nt;have BM:∀q,(G.kill (.tok t)).tk q≠none->q≠t:=fun q hq e=>by subst e;exact hq (by simp[Gh.kill,uS])
 have k8:∀g,y=some g->∀t',(G.kill (.tok t)).tk t'≠some (some g):=by
  intro g hg t' ly;have hne:=BM t' (by rw[ly];simp);simp only[Gh.kill] at ly;rw[uO _ _ hne] at ly;exact hne (hm.tinj t' t g ly (hg ▸ hy))
 obtain⟨vs,hf,ma,nj⟩:∃vs,cN w.cell? G.ps sz es vs/\(∀g,y=some g->A=some ⟨g,0,none⟩/\∃sp e,G.kind g=.ex/\w.heap[g]?=some (.cells (vs++sp).toArray e (0,0))/\(vs++sp).length=cap*sz/\∀u∈sp,u.oneCell'=true)/\(y=none->es=[]/\cap=0/\vs=[]):=by
  cases y with
  | none =>
   have mf:es=[]:=bg (by have:cap=0:=jp;omega)
   subst mf;exact⟨[],cN.none_ _ _ _,(fun g h=>by cases h),fun _=>⟨rfl,jp,rfl⟩⟩
  | some g =>
   obtain⟨hA,vs,sp,e,h1,h2,h3,h4,h5⟩:=jp;exact⟨vs,h4,fun g' h=>by cases h;exact⟨hA,sp,e,h1,h2,h3,h5⟩,fun h=>by cases h⟩
 by_cases Ak:news=[]
 .subst Ak;have hr:=mw.none_ rfl A es.length cap i8;have lx:=px.newtok y (fun g hg=>⟨k8 g hg,by
   subst hg;exact hm.tokb t g hy⟩)
  have lw:=Le.newtok (G:=G.kill (.tok t)) (w:=w) y;refine⟨.value _,_,(G.kill (.tok t)).newtok y,w,ka _ _ hr,.inl rfl,ll.trans lw,?_,lx,rfl⟩;rw[c6];refine .stk ⟨by simp only[Gh.newtok,Gh.kill];omega,A,cap,rfl,i8,i9,fun q hq=>?_⟩;simp only[Gh.newtok,Gh.kill,md,uS,ad] at hq;subst hq;cases y with
  | none=>exact(nj rfl).2.1
  | some g =>
   obtain⟨hA,sp,e,h1,h2,h3,h5⟩:=ma g rfl;exact⟨hA,vs,sp,e,h1,h2,h3,hf.mono (ll.trans lw).cells,h5⟩
 .have n7:0<news.length:=dg.2 Ak
  have kc:us.length=news.length*i.size:=by rw[k7];exact j4.len
  have nq:vs.length=es.length*i.size:=by rw[k7];exact hf.len
  have grow:∀cp,(Builtin.append_ #[T,T'] o.type #[.slice A es.length cap,xv]).run P w =
    .ok (.slice (some ⟨w.heap.size,0,none⟩) (es.length+news.length) cp) (w.drew.alloc (.cells (vs.toArray++us.toArray++Builtin.zeroCells z.cells (cp-(es.length+news.length))) E)) ->
    es.length+news.length<=cp->cp<=maxLen ->
    dO P o ρv G w fun u G' w'=>RV G' w' (.stk m.nt sz (es++news)) u/\aV G' { m with tok:=upd (upd m.tok t false) m.nt true,nt:=m.nt+1 } w'/\G'.bx=G.bx:=by
   intro cp hr hge hcm;have xj:=px.drew
   let sp:=(Builtin.zeroCells z.cells (cp-(es.length+news.length))).toList
   let obj:Obj:=.cells (vs.toArray++us.toArray++Builtin.zeroCells z.cells (cp-(es.length+news.length))) E
   have hp:=xj.newkind .ex obj;have jy:=Le.newkind xj .ex obj;have qa:vs.toArray++us.toArray++Builtin.zeroCells z.cells (cp-(es.length+news.length))=((vs++us)++sp).toArray:=by
    apply Array.ext';simp[sp]
   have m9:((vs++us)++sp).length=cp*sz:=by
    have h1:sp.length=(cp-(es.length+news.length))*sz:=by simp only[sp,Array.length_toList,size_zeroCells,oy]
    rw[am,am,nq,kc,h1,k7,<-Nat.add_mul,<-Nat.add_mul];congr 1
    omega
   have kw:(w.drew.alloc obj).heap[w.heap.size]?=some (.cells ((vs++us)++sp).toArray E (0,0)):=by
    rw[<-qa];exact fk w.drew _
   have lx:=hp.newtok (some w.heap.size) (fun g hg=>by
    cases hg;refine⟨fun t' ht=>?_,0, #[],_,?_,kw⟩
    .have:=px.tlt t' _ (by simpa[Gh.setKind] using ht)
     omega
    .refine .inr ?_;show upd _ w.heap.size _ w.heap.size=_
     rw[uS])
   have lw:=Le.newtok (G:=(G.kill (.tok t)).setKind w.heap.size .ex) (w:=w.drew.alloc obj) (some w.heap.size);have ik:=(ll.trans Le.drew).trans (jy.trans lw);refine⟨.value _,_,_,_,ka _ _ hr,.inl rfl,ik,?_,lx,rfl⟩;refine .stk ⟨by simp only[Gh.newtok,Gh.setKind,Gh.kill];omega,_,cp,by rw[am],by rw[am];exact hge,hcm,fun q hq=>?_⟩;simp only[Gh.newtok,Gh.setKind,Gh.kill,md,uS,ad] at hq;subst hq;refine⟨rfl,vs++us,sp,E,?_,kw,m9,(hf.mono ik.cells).append (j4.mono ik.cells),fun u hu=>BJ u (yW hu)⟩;show upd _ w.heap.size _ w.heap.size=_
   rw[uS]
  by_cases j5:es.length+news.length<=cap
  .cases y with
   | none=>have:=(nj rfl).2.1;omega
   | some g =>
    obtain⟨hA,sp,e,pj,hg,hlen,qf⟩:=ma g rfl;subst hA;have ji:es.length*i.size+us.length<=(vs++sp).toArray.size:=by
     rw[kc,<-Nat.add_mul,ga,hlen,k7];exact bm _ j5
    have hr:=mw.room n7 g es.length cap (vs++sp).toArray e hg j5 ji;have husp:us.length<=sp.length:=by
     rw[ga,am,<-nq] at ji;omega
    have Dz:((vs++sp).toArray.toList.take (es.length*i.size)++us++(vs++sp).toArray.toList.drop (es.length*i.size+us.length)).toArray=((vs++us)++sp.drop us.length).toArray:=by
     congr 1
     simp only[<-nq];rw[c8 (nr0 _),bh,List.drop_append,List.drop_of_length_le (by omega),eq,ep]
    rw[Dz] at hr;have hkg':(G.kill (.tok t)).kind g=.ex:=pj
    have pu:=px.fillx (new:=((vs++us)++sp.drop us.length).toArray) hkg' (k8 g rfl) hg;have un:=Le.fillx (w:=w) (new:=((vs++us)++sp.drop us.length).toArray) hkg' (k8 g rfl) hg;have kw:=setRow_heap w g (vs++sp).toArray ((vs++us)++sp.drop us.length).toArray e (0,0) hg;have lx:=pu.newtok (some g) (fun g' hg'=>by
     cases hg'
     exact⟨k8 g rfl,0, #[],_,.inr pj,kw⟩)
    have lw:=Le.newtok (G:=G.kill (.tok t)) (w:=w.setRow g ((vs++us)++sp.drop us.length).toArray) (some g);have ik:=ll.trans (un.trans lw);refine⟨.value _,_,_,_,ka _ _ hr,.inl rfl,ik,?_,lx,rfl⟩;refine .stk ⟨by simp only[Gh.newtok,Gh.kill];omega,_,cap,by rw[am],by rw[am];exact j5,i9,fun q hq=>?_⟩;simp only[Gh.newtok,Gh.kill,md,uS,ad] at hq;subst hq;refine⟨rfl,vs++us,sp.drop us.length,e,pj,kw,?_,(hf.mono ik.cells).append (j4.mono ik.cells),fun u hu=>qf u (cu hu)⟩;rw[am] at hlen;rw[am,am,eg];omega
  .have nm:cap<es.length+news.length:=by omega
   have hge:=grownCap_ge w (es.length+news.length) cap E;have hcm:=grownCap_le_maxLen w (es.length+news.length) cap E (by unfold maxLen;omega);cases A with
   | some b =>
    refine grow _ (mw.grow n7 b es.length cap vs nq (fun q u hq=>?_) nm (by omega) (growslice_fits nm (by rw[nc];exact hbytes))) hge hcm;cases y with
    | none=>rw[(nj rfl).2.2] at hq;simp at hq
    | some g =>
     obtain⟨hA,sp,e,pj,hg,hlen,qf⟩:=ma g rfl;cases hA;rw[bK,e8 w g _ _ e (0,0) hg,cd];simp only[d5];rw[bi (ba.1 hq).1];exact hq
   | none =>
    cases y with
    | some g=>have:=(ma g rfl).1;cases this
    | none =>
     obtain⟨rfl,rfl,rfl⟩:=nj rfl;have hr:=mw.nil_ n7 (by omega) (by rw[nc];simp only[db,cd] at hbytes;omega);simp only[db,cd] at grow hge hcm ⊢;refine grow _ ?_ hge hcm;simpa using hr
theorem aDx{o:Oper}{ρ:Operand->AV}{ρv:Operand->Value}{G:Gh}{m:bH}{w:World}{v:AV}{tok':Nat->Bool}{nt':Nat}(h:aC8 P o ρ m.tok m.nt v tok' nt')(hρ:∀x∈o.op.operands,RV G w (ρ x) (ρv x))(hm:aV G m w):
  dO P o ρv G w fun u G' w'=>RV G' w' v u/\aV G' { m with tok:=tok',nt:=nt' } w'/\G'.bx=G.bx:=by
 unfold aC8 at h;split at h
 .rename_i c ho;split at h
  .rename_i s x T T' i5 hargs lr;have hs:=hρ s (by rw[ho];simp only[Op.operands,Call.operands,i5];rw[<-Array.mem_toList_iff];simp[hargs]);have hx:=hρ x (by rw[ho];simp only[Op.operands,Call.operands,i5];rw[<-Array.mem_toList_iff];simp[hargs]);split at h
   .rename_i E sz by' sz0 es own sz1 news hrow yq yr
    obtain⟨rfl,sb,yt,hbytes,ip,rfl,rfl,rfl⟩:=h;obtain⟨hE,i,z,hi,hz,oy,k7,nc,l5,l6⟩:=fP hrow;rw[yq] at hs;have up:=hx.elems yr;generalize o8:ρv x=xv at up;obtain⟨B,capx,us,rfl,p7,uq,rp⟩:=up.flat;have j4:iH w.cell? G.ps sz news B us:=rp.resize yt
    have kc:=j4.len;rw[<-k7] at kc;refine(oH ho i5 hargs lr hE hi hz oy k7 nc l5 l6 sb hbytes ip hs o8 j4.v ?_ hm).imp fun u G' w' ⟨h1,h2,h3,_,_⟩=>⟨h1,h2,h3⟩
    refine⟨fun h0 A k cap hk=>?_,fun hp g sLen sCap cur e' hg j5 ji=>?_,fun hp b sLen sCap olds h1 h2 h3 h4 h5=>?_,fun hp h1 h2=>?_⟩
    .rw[h0];exact mA (P:=P) _ o.type E i w hE hi A B k cap capx hk
    .obtain⟨a,rfl⟩:=j4.some_ (dg.1 hp);exact kR (P:=P) _ o.type E e' i w hE hi g sLen sCap cur hg a _ capx us kc (fun q u hq=>(j4.at_ a rfl q u hq).2) j4.one j5 ji
    .obtain⟨a,rfl⟩:=j4.some_ (dg.1 hp);exact run_append_grow (P:=P) w _ o.type E i z hE hi hz b sLen sCap olds h1 h2 a _ capx us kc (fun q u hq=>(j4.at_ a rfl q u hq).2) h3 h4 h5
    .obtain⟨a,rfl⟩:=j4.some_ (dg.1 hp);exact run_append_nil (P:=P) w _ o.type E i z hE hi hz a _ capx us kc (fun q u hq=>(j4.at_ a rfl q u hq).2) hp h1 h2
   .exact h.elim
  .exact h.elim
 .exact h.elim
theorem aAb{w:World}{T ty E:TypeId}{i:TypeInfo}{z:Value}(hE:P.underlying T=some (.slice E))(hi:P.info? E=some i)(hz:i.zero=some z){B:Option Addr}{n capx:Nat}{us:List Value}(p7:n<=capx)(kc:us.length=n*i.size)(ma:0<n->∃a,B=some a)(j6:∀a,B=some a->∀q u,us[q]?=some u->w.cell? (a.add q)=some u)(jq:∀u∈us,u.oneCell'=true):Src P w T T ty E i z (.slice B n capx) n us:=by
 refine⟨fun h0 A k cap hk=>?_,fun hp g sLen sCap cur e' hg j5 ji=>?_,fun hp b sLen sCap olds h1 h2 h3 h4 h5=>?_,fun hp h1 h2=>?_⟩
 .rw[h0];exact mA (P:=P) _ ty E i w hE hi A B k cap capx hk
 .obtain⟨a,rfl⟩:=ma hp;exact kR (P:=P) _ ty E e' i w hE hi g sLen sCap cur hg a _ capx us kc (fun q u hq=>j6 a rfl q u hq) jq j5 ji
 .obtain⟨a,rfl⟩:=ma hp;exact run_append_grow (P:=P) w _ ty E i z hE hi hz b sLen sCap olds h1 h2 a _ capx us kc (fun q u hq=>j6 a rfl q u hq) h3 h4 h5
 .obtain⟨a,rfl⟩:=ma hp;exact run_append_nil (P:=P) w _ ty E i z hE hi hz a _ capx us kc (fun q u hq=>j6 a rfl q u hq) hp h1 h2
theorem zO(t ty e e':TypeId)(i:TypeInfo)(w:World)(ht:P.underlying t=some (.slice e))(hi:P.info? e=some i)(g d sLen sCap:Nat)(cur:Array Value)(hg:w.heap[g]?=some (.cells cur e' (0,0)))(a:Addr)(m c:Nat)(news:List Value)(hl:news.length=m*i.size)(ul:∀j u,news[j]?=some u->w.cell? (a.add j)=some u)(h1:∀u∈news,u.oneCell'=true)(j5:sLen+m<=sCap)(ji:d+sLen*i.size+news.length<=cur.size):
  (Builtin.append_ #[t,t] ty #[.slice (some ⟨g,d,none⟩) sLen sCap,.slice (some a) m c]).run P w =
   .ok (.slice (some ⟨g,d,none⟩) (sLen+m) sCap) (w.setRow g (cur.toList.take (d+sLen*i.size)++news++cur.toList.drop (d+sLen*i.size+news.length)).toArray):=by
 have hf:=run_firstCells_some (P:=P) w i.size m a m c news hl ul;have jp:=run_storeCells_at P g (d+sLen*i.size) e' news 0 cur w hg (by simpa using ji) h1;simp only[fl] at jp;simp[Builtin.append_,bp ht,sizeOf,typeInfo,hi,Builtin.lenOf,j5,hf,bK,jp]
theorem aDi{o:Oper}{ρv:Operand->Value}{G:Gh}{m:bH}{w:World}{c:Call}{s x:Operand}{T E:TypeId}{i:TypeInfo}{z:Value}{t sz by':Nat}{es news:List (List D)}{xv:Value}(ho:o.op=.call c)(i5:c.callee=.builtin .append)(hargs:c.args.toList=[s,x])(lr:c.argTypes.toList=[T,T])(hE:P.underlying T=some (.slice E))(hi:P.info? E=some i)(hz:i.zero=some z)(oy:z.cells.size=sz)(k7:i.size=sz)(nc:i.bytes=by')(l5:0<sz)(l6:0<by')(hne:news≠[])(hbytes:(es.length+news.length)*by'<=140737488355328)(ip:m.tok t=true)(hs:RV G w (.que t sz es) (ρv s))(o8:ρv x=xv)(hx:RVd w.cell? G.ps (.sl sz news) xv)(hm:aV G m w):
  dO P o ρv G w fun u G' w'=>RV G' w' (.que m.nt sz (es++news)) u/\aV G' { m with tok:=upd (upd m.tok t false) m.nt true,nt:=m.nt+1 } w'/\G'.bx=G.bx:=by
 generalize Ai:ρv s=sv at hs;have ka:∀u w',(Builtin.append_ #[T,T] o.type #[sv,xv]).run P w=.ok u w'->(execOp ρv o).run P w=.ok (.value u) w':=by
  intro u w' hr;have e1:c.args.map ρv = #[sv,xv]:=by
   have:(c.args.map ρv).toList=[sv,xv]:=by rw[fy,hargs];simp[Ai,o8]
   rw[<-Array.toList_inj,this]
  have e2:c.argTypes = #[T,T]:=by rw[<-Array.toList_inj,lr]
  simp only[execOp,ho,resolve,i5,ax,a8,aj,invoke,builtin,e1,e2,hr]
 cases hs with
 | que hd hq =>
  obtain⟨Am,hq⟩:=hq;obtain⟨_,y,hy⟩:=hm.toks t ip;have hq:=hq y hy;obtain⟨A,cap,vs,rfl,i8,i9,mq⟩:=hd.flat;obtain⟨B,capx,us,rfl,p7,uq,j4⟩:=hx.flat;have px:=hm.kill (.tok t);have ll:=Le.kill (G:=G) (w:=w) (.tok t);have md:G.nt=m.nt:=hm.nt
  have n7:0<news.length:=dg.2 hne
  have kc:us.length=news.length*i.size:=by rw[k7];exact j4.len
  have nq:vs.length=es.length*i.size:=by rw[k7];exact mq.len
  obtain⟨b,rfl⟩:=j4.some_ hne;have Bu:∀q u,us[q]?=some u->w.cell? (b.add q)=some u:=fun q u hq=>(j4.at_ b rfl q u hq).2
  have xk:(vs++us).length=(es.length+news.length)*sz:=by rw[am,nq,kc,k7,cf]
  have grow:∀cp,(Builtin.append_ #[T,T] o.type #[.slice A es.length cap,.slice (some b) news.length capx]).run P w =
    .ok (.slice (some ⟨w.heap.size,0,none⟩) (es.length+news.length) cp) (w.drew.alloc (.cells (vs.toArray++us.toArray++Builtin.zeroCells z.cells (cp-(es.length+news.length))) E)) ->
    es.length+news.length<=cp->cp<=maxLen ->
    dO P o ρv G w fun u G' w'=>RV G' w' (.que m.nt sz (es++news)) u/\aV G' { m with tok:=upd (upd m.tok t false) m.nt true,nt:=m.nt+1 } w'/\G'.bx=G.bx:=by
   intro cp hr hge hcm;have xj:=px.drew
   let obj:Obj:=.cells (vs.toArray++us.toArray++Builtin.zeroCells z.cells (cp-(es.length+news.length))) E
   have hp:=xj.newpart ((es.length+news.length)*sz) (cp*sz) obj;have jy:=Le.newpart xj ((es.length+news.length)*sz) (cp*sz) obj;have m9:(vs.toArray++us.toArray++Builtin.zeroCells z.cells (cp-(es.length+news.length))).size=cp*sz:=by
    simp only[Array.size_append,ga,size_zeroCells,oy,nq,kc,k7,<-Nat.add_mul];congr 1
    omega
   have lx:=hp.newtok (some w.heap.size) (fun g hg=>by
    cases hg;refine⟨fun t ht=>?_,(es.length+news.length)*sz,vs.toArray++us.toArray++Builtin.zeroCells z.cells (cp-(es.length+news.length)),_,?_,fk w.drew _⟩
    .have:=px.tlt t _ (by simpa[Gh.setKind] using ht)
     omega
    .rw[m9];refine .inl ⟨?_,E,rfl⟩;show upd _ w.heap.size _ w.heap.size=_
     rw[uS])
   have lw:=Le.newtok (G:=(G.kill (.tok t)).setKind w.heap.size (.part ((es.length+news.length)*sz) (cp*sz))) (w:=w.drew.alloc obj) (some w.heap.size);have ik:=(ll.trans Le.drew).trans (jy.trans lw);refine⟨.value _,_,_,_,ka _ _ hr,.inl rfl,ik,?_,lx,rfl⟩;have kv:iH (w.drew.alloc obj).cell? (Gh.ps (((G.kill (.tok t)).setKind w.heap.size (.part ((es.length+news.length)*sz) (cp*sz))).newtok (some w.heap.size))) sz (es++news) (some ⟨w.heap.size,0,none⟩) (vs++us):=by
    refine(mq.mono ik.cells).append (j4.v.mono ik.cells) _ (fun q u hq=>?_);have hlt:q<(vs++us).length:=(ba.1 hq).1
    rw[bK];refine⟨?_,?_⟩
    .show (match upd (G.kill (.tok t)).kind w.heap.size (BK.part ((es.length+news.length)*sz) (cp*sz)) w.heap.size with|.whole=>True|.part f _=>0+q<f|.box=>False|.ex=>False)
     rw[uS];show 0+q<_
     omega
    .rw[e8 _ w.heap.size (0+q) (vs.toArray++us.toArray++Builtin.zeroCells z.cells (cp-(es.length+news.length))) E (0,0) (fk w.drew _)];rw[cd,Array.getElem?_append_left (by simpa using hlt)];simpa using hq
   have:=RVd.of_flat (cap:=cp) (by simpa using hge) hcm kv
   rw[am] at this;refine .que this ⟨by simp only[Gh.newtok,Gh.setKind,Gh.kill];omega,fun y hy=>?_⟩;simp only[Gh.newtok,Gh.setKind,Gh.kill,md,uS,ad] at hy;subst hy;refine .inr ⟨w.heap.size,0,cp,rfl,by simp,?_⟩;simp only[Gh.newtok,Gh.setKind,uS,am,cd]
  have growA:cap<es.length+news.length->(A=none->cap=0)->dO P o ρv G w fun u G' w'=>RV G' w' (.que m.nt sz (es++news)) u/\aV G' { m with tok:=upd (upd m.tok t false) m.nt true,nt:=m.nt+1 } w'/\G'.bx=G.bx:=by
   intro nm D1;have hge:=grownCap_ge w (es.length+news.length) cap E;have hcm:=grownCap_le_maxLen w (es.length+news.length) cap E (by unfold maxLen;have:=Nat.mul_le_mul_left (es.length+news.length) l6;omega);cases A with
   | some a =>
    exact grow _ (run_append_grow (P:=P) w T o.type E i z hE hi hz a es.length cap vs nq (fun q u hq=>(mq.at_ a rfl q u hq).2) b _ capx us kc Bu nm (by have:=Nat.mul_le_mul_left (es.length+news.length) l6;omega) (growslice_fits nm (by rw[nc];exact hbytes))) hge hcm
   | none =>
    have mf:es=[]:=dw fun h=>by obtain⟨b,hb⟩:=mq.some_ h;cases hb
    subst mf;have wh:vs=[]:=bg (by simpa using nq)
    subst wh;have Al:=D1 rfl;subst Al;have hr:=run_append_nil (P:=P) w T o.type E i z hE hi hz b _ capx us kc Bu n7 (by have:=Nat.mul_le_mul_left ((([]:List (List D)).length+news.length)) l6;simp only[db,cd] at this hbytes;omega) (by rw[nc];simp only[db,cd] at hbytes;omega);simp only[db,cd] at grow hge hcm ⊢;refine grow _ ?_ hge hcm;simpa using hr
  rcases hq with ⟨A',hA⟩|⟨g,d,cap',rfl,hA,pj⟩
  .injection hA with h1 _ h3
   subst h3;refine growA (by omega) fun hn=>?_
   subst hn;exact dj.2 (dw fun h=>by obtain⟨b,hb⟩:=mq.some_ h;cases hb)
  .injection hA with h1 _ h3
   subst h1;subst h3;by_cases j5:es.length+news.length<=cap
   .obtain⟨f,cur,o',hkg',hg⟩:=hm.tokb t g hy;rw[pj] at hkg';rcases hkg' with ⟨hkg',e',rfl⟩|hkg'
    case inr=>cases hkg'
    injection hkg' with hf1 hc1
    have hcz:cap*sz=es.length*sz+(cap-es.length)*sz:=by rw[<-Nat.add_mul];congr 1;omega
    have BN:news.length*sz<=(cap-es.length)*sz:=bm _ (by omega)
    have ji:d+es.length*i.size+us.length<=cur.size:=by rw[kc,k7];omega
    have hr:=zO (P:=P) T o.type E e' i w hE hi g d es.length cap cur hg b _ capx us kc Bu j4.one j5 ji;rw[k7] at hr ji;have k8:∀t',(G.kill (.tok t)).tk t'≠some (some g):=by
     intro t' ly;simp only[Gh.kill] at ly;by_cases e:t'=t
     .subst e;simp[uS] at ly
     .rw[uO _ _ e] at ly;exact e (hm.tinj t' t g ly hy)
    let new:Array Value:=(cur.toList.take (d+es.length*sz)++us++cur.toList.drop (d+es.length*sz+us.length)).toArray
    have e1:cur.toList.length=cur.size:=by simp
    have hlt:(List.take (d+es.length*sz) cur.toList).length=d+es.length*sz:=by rw[cj];omega
    have my:∀q,q<d+es.length*sz->new[q]?=cur[q]?:=by
     intro q hq;simp only[new,d5];rw[cw,bi (by omega),e9 hq];simp
    have CM:d+es.length*sz<=d+(es.length+news.length)*sz:=by rw[cf];omega
    have pu:=px.fill (g:=g) (f:=d+es.length*sz) (f':=d+(es.length+news.length)*sz) (c:=d+cap*sz) pj CM k8 hg my;have un:=Le.fill (G:=G.kill (.tok t)) (w:=w) (g:=g) (f:=d+es.length*sz) (f':=d+(es.length+news.length)*sz) (c:=d+cap*sz) pj CM k8 hg my;have uo:new.size=d+cap*sz:=by
     simp only[new,ga,am,cj,eg,Array.length_toList];omega
    have lx:=pu.newtok (some g) (fun g' hg'=>by
     cases hg'
     refine⟨fun t' ly=>k8 t' ly,d+(es.length+news.length)*sz,new,_,?_,setRow_heap w g cur new e' (0,0) hg⟩;rw[uo];refine .inl ⟨?_,e',rfl⟩;show upd _ g _ g=_
     rw[uS])
    have lw:=Le.newtok (G:=(G.kill (.tok t)).setKind g (.part (d+(es.length+news.length)*sz) (d+cap*sz))) (w:=w.setRow g new) (some g);have ik:=ll.trans (un.trans lw);refine⟨.value _,_,_,_,ka _ _ hr,.inl rfl,ik,?_,lx,rfl⟩;have kv:iH (w.setRow g new).cell? (Gh.ps (((G.kill (.tok t)).setKind g (.part (d+(es.length+news.length)*sz) (d+cap*sz))).newtok (some g))) sz (es++news) (some ⟨g,d,none⟩) (vs++us):=by
     refine(mq.mono ik.cells).append (j4.v.mono ik.cells) _ (fun q u hq=>?_);have BI:q<(vs++us).length:=(ba.1 hq).1
     rw[bK];refine⟨?_,?_⟩
     .show (match upd (G.kill (.tok t)).kind g (BK.part (d+(es.length+news.length)*sz) (d+cap*sz)) g with|.whole=>True|.part f _=>d+q<f|.box=>False|.ex=>False)
      rw[uS];show d+q<_
      omega
     .rw[cell_setRow_same w g (d+q) cur new e' (0,0) hg];by_cases Bv:q<vs.length
      .rw[bi Bv] at hq;rw[my (d+q) (by have:=mq.len;omega)];have:=(mq.at_ ⟨g,d,none⟩ rfl q u hq).2
       rw[bK,e8 w g _ cur e' (0,0) hg] at this;exact this
      .rw[dd (by omega)] at hq;have yp:q-vs.length<us.length:=(ba.1 hq).1
       have qg:=mq.len;simp only[new,d5];rw[cw,dd (by rw[hlt];omega),hlt,show d+q-(d+es.length*sz)=q-vs.length by omega,bi yp];exact hq
    have:=RVd.of_flat (cap:=cap) (by simpa using j5) i9 kv
    rw[am] at this;refine .que this ⟨by simp only[Gh.newtok,Gh.setKind,Gh.kill];omega,fun y hy=>?_⟩;simp only[Gh.newtok,Gh.setKind,Gh.kill,md,uS,ad] at hy;subst hy;refine .inr ⟨g,d,cap,rfl,by simp,?_⟩;simp only[Gh.newtok,Gh.setKind,uS,am]
   .exact growA (by omega) fun h=>by cases h
theorem aFb{o:Oper}{ρv:Operand->Value}{G:Gh}{m:bH}{w:World}{c:Call}{s x:Operand}{T T':TypeId}{sa xa v:AV}{tok':Nat->Bool}{φ:Prop}(ho:o.op=.call c)(i5:c.callee=.builtin .append)(hargs:c.args.toList=[s,x])(lr:c.argTypes.toList=[T,T'])(h:aLL P T T' sa xa m.tok m.nt=some (φ,v,tok'))(hφ:φ)(hs:RV G w sa (ρv s))(hx:RV G w xa (ρv x))(hm:aV G m w):
  dO P o ρv G w fun u G' w'=>RV G' w' v u/\aV G' { m with tok:=tok',nt:=m.nt+1 } w'/\G'.bx=G.bx:=by
 unfold aLL at h;split at h
 .rename_i E sz by' t sz0 es hrow
  split at h
  .rename_i sz1 news yr;simp only[ad,aw] at h;obtain⟨rfl,rfl,rfl⟩:=h;obtain⟨rfl,rfl,yt,BJ,hbytes,ip⟩:=hφ;obtain⟨hE,i,z,hi,hz,oy,k7,nc,l5,l6⟩:=fP hrow;have up:=hx.elems yr;generalize o8:ρv x=xv at up;obtain⟨B,capx,us,rfl,p7,uq,rp⟩:=up.flat;have j4:iH w.cell? G.ps sz0 news B us:=rp.resize yt
   have kc:=j4.len;rw[<-k7] at kc;have jp:zF G w t sz0 es (ρv s):=by
    generalize ρv s=sv at hs;cases hs with|stk h=>exact h
   exact aDl ho i5 hargs lr hE hi hz oy k7 nc l5 l6 (aI9 BJ hi hz) hbytes ip jp o8 j4.v (aAb hE hi hz p7 kc (fun hp=>j4.some_ (dg.1 hp)) (fun a ha q u hq=>(j4.at_ a ha q u hq).2) j4.one) hm
  .cases h
 .rename_i E sz by' t sz0 es hrow
  split at h
  .rename_i sz1 news yr;simp only[ad,aw] at h;obtain⟨rfl,rfl,rfl⟩:=h;obtain⟨rfl,rfl,rfl,hne,hbytes,ip⟩:=hφ;obtain⟨hE,i,z,hi,hz,oy,k7,nc,l5,l6⟩:=fP hrow;exact aDi ho i5 hargs lr hE hi hz oy k7 nc l5 l6 hne hbytes ip hs rfl (hx.elems yr) hm
  .cases h
 .rename_i E sz by' sz0 es own hrow
  split at h
  .rename_i t sz1 news;simp only[ad,aw] at h;obtain⟨rfl,rfl,rfl⟩:=h;obtain⟨rfl,sb,rfl,hbytes,ip,hlt⟩:=hφ;obtain⟨hE,i,z,hi,hz,oy,k7,nc,l5,l6⟩:=fP hrow;have jp:zF G w t sz1 news (ρv x):=by
    generalize ρv x=sv at hx;cases hx with|stk h=>exact h
   obtain⟨BL,B,capx,o8,p7,uq,jp⟩:=jp;obtain⟨_,y,hy⟩:=hm.toks t hlt;have jp:=jp y hy;obtain⟨us,hf,j6⟩:∃us,cN w.cell? G.ps sz1 news us/\(0<news.length->∃a,B=some a)/\(∀a,B=some a->∀q u,us[q]?=some u->w.cell? (a.add q)=some u):=by
    cases y with
    | none =>
     have mf:news=[]:=bg (by have:capx=0:=jp;omega)
     subst mf;exact⟨[],cN.none_ _ _ _,(fun h=>by simp at h),fun a _ q u hq=>by simp at hq⟩
    | some g =>
     obtain⟨hA,vs,sp,e,h1,h2,h3,h4,h5⟩:=jp;refine⟨vs,h4,fun _=>⟨_,hA⟩,fun a ha q u hq=>?_⟩;rw[hA] at ha;cases ha;rw[bK,e8 w g _ _ e (0,0) h2,cd];simp only[d5];rw[bi (ba.1 hq).1];exact hq
   have kc:=hf.len;rw[<-k7] at kc;exact(oH ho i5 hargs lr hE hi hz oy k7 nc l5 l6 sb hbytes ip hs o8 hf (aAb hE hi hz p7 kc j6.1 j6.2 hf.one) hm).imp fun u G' w' ⟨h1,h2,h3,_,_⟩=>⟨h1,h2,h3⟩
  .cases h
 .cases h
theorem xA{w:World}{T T' ty E:TypeId}{i:TypeInfo}{z:Value}(str:ByteArray)(hE:P.underlying T=some (.slice E))(hT:aY P T'=true)(hi:P.info? E=some i)(hz:i.zero=some z)(h1:i.size=1):
  Src P w T T' ty E i z (.string str) str.size (Lib.strCells str):=by
 have Bw:P.underlying T'=some .string:=by
  unfold aY at hT;split at hT
  .assumption
  .cases hT
 have nm:(Lib.strCells str).length=str.size:=Lib.strCells_length str
 refine⟨fun h0 A k cap hk=>?_,fun hp g sLen sCap cur e' hg j5 ji=>?_,fun hp b sLen sCap olds h1 h2 h3 h4 h5=>Lib.run_append_grow_string (P:=P) w T T' ty E i z hE Bw hi hz b sLen sCap olds h1 h2 str h3 h4 h5,fun hp h1 h2=>?_⟩
 .have hn:Lib.strCells str=[]:=bg (by rw[nm];exact h0)
  have hf:=Lib.run_firstCells_string (P:=P) w i.size str;rw[h0,hn] at hf;rw[h1] at hf;cases A<;>simp[Builtin.append_,bp hE,bp Bw,sizeOf,typeInfo,hi,h1,Builtin.lenOf,h0,hf,hk,storeCells]
 .rw[nm,h1,gz] at ji;have hf:=Lib.run_firstCells_string (P:=P) w 1 str;have jp:=run_storeCells_at P g sLen e' (Lib.strCells str) 0 cur w hg (by simpa[Lib.strCells_length] using ji) (Lib.strCells_oneCell str);simp only[fl,Lib.strCells_length] at jp;rw[h1,gz,nm];simp[Builtin.append_,bp hE,bp Bw,sizeOf,typeInfo,hi,h1,Builtin.lenOf,j5,hf,Addr.add_lit,jp]
 .have hr:=run_append_nil_string (P:=P) w T T' ty E i z hE Bw hi hz str hp h1 h2;have e1:(str.data.map fun b=>Value.int .u8 b.toNat)=(Lib.strCells str).toArray:=by
   apply Array.ext';simp[Lib.strCells]
  rw[e1] at hr;exact hr
theorem aEX{o:Oper}{ρ:Operand->AV}{ρv:Operand->Value}{G:Gh}{m:bH}{w:World}{v:AV}{tok':Nat->Bool}{nt':Nat}(h:aIA P o ρ m.tok m.nt v tok' nt')(hρ:∀x∈o.op.operands,RV G w (ρ x) (ρv x))(hm:aV G m w):
  dO P o ρv G w fun u G' w'=>RV G' w' v u/\aV G' { m with tok:=tok',nt:=nt' } w'/\G'.bx=G.bx:=by
 unfold aIA at h;split at h
 .rename_i c ho;split at h
  .rename_i s x T T' i5 hargs lr;have hs:=hρ s (by rw[ho];simp only[Op.operands,Call.operands,i5];rw[<-Array.mem_toList_iff];simp[hargs]);have hx:=hρ x (by rw[ho];simp only[Op.operands,Call.operands,i5];rw[<-Array.mem_toList_iff];simp[hargs]);obtain⟨φ,h,hφ,rfl⟩:=h;unfold aLs at h;split at h
   .rename_i str tr;rw[tr] at hx;have o8:ρv x=.string str:=by
     generalize ρv x=xw at hx;cases hx with
     | d h1=>cases h1;rfl
    have qq:(gC str).length=str.size:=aEw str
    have out:∀{es:List (List D)} {own:Own} {u:Value} {G':Gh} {w':World},∀{E:TypeId},RV G' w' (.osl 1 (es++gC str) (.tok m.nt)) u->G'.tk m.nt≠some none->(∀g',G'.tk m.nt=some (some g')->∃cs f,w'.heap[g']?=some (.cells cs E f))->RV G' w' (.buf E m.nt (es++gC str)) u:=fun {es own u G' w' E} h1 h2 h5=>by
     cases h1 with
     | osl h3 h4=>exact .buf h3 h4 h2 h5
    split at h
    .rename_i E sz by' sz0 hrow yq
     simp only[ad,aw] at h;obtain⟨rfl,rfl,rfl⟩:=h;obtain⟨hT,rfl,h0,hb⟩:=hφ;obtain⟨hE,i,z,hi,hz,oy,k7,nc,l5,l6⟩:=fP hrow;rw[yq] at hs;have mw:=xA (P:=P) (w:=w) (ty:=o.type) str hE hT hi hz k7;rw[<-qq] at mw;refine(oH (news:=gC str) ho i5 hargs lr hE hi hz oy k7 nc l5 l6 (.inr ⟨rfl,rfl⟩) (by simpa[qq] using hb) rfl hs o8 (cN.bytes _ _ str) mw hm).imp fun u G' w' ⟨h1,h2,h3,h4,h5⟩=>⟨?_,h2,h3⟩
     exact out (es:=[]) (own:=.full) h1 (h4 (.inl fun e=>by rw[e] at qq;simp at qq;omega)) (h5 fun t g e=>by cases e)
    .rename_i E sz by' E' t es hrow yq
     simp only[ad,aw] at h;obtain⟨rfl,rfl,rfl⟩:=h;obtain⟨hT,rfl,rfl,hb,ht⟩:=hφ;obtain⟨hE,i,z,hi,hz,oy,k7,nc,l5,l6⟩:=fP hrow;rw[yq] at hs;have mw:=xA (P:=P) (w:=w) (ty:=o.type) str hE hT hi hz k7;rw[<-qq] at mw;obtain⟨_,y,hy⟩:=hm.toks t ht;have pw:RV G w (.osl 1 es (.tok t)) (ρv s)/\G.tk t≠some none/\∀g,G.tk t=some (some g)->∃cs f,w.heap[g]?=some (.cells cs E' f):=by
      generalize ρv s=sv at hs;cases hs with
      | buf h1 h2 h3 h6=>exact⟨.osl h1 h2,h3,h6⟩
     have D4:∃g,G.tk t=some (some g):=by
      cases y with
      | none=>exact absurd hy pw.2.1
      | some g=>exact⟨g,hy⟩
     obtain⟨g,hg⟩:=D4;refine(oH (news:=gC str) (own:=.tok t) ho i5 hargs lr hE hi hz oy k7 nc l5 l6 (.inl rfl) (by simpa[qq] using hb) ht pw.1 o8 (cN.bytes _ _ str) mw hm).imp fun u G' w' ⟨h1,h2,h3,h4,h5⟩=>⟨?_,h2,h3⟩
     exact out (es:=es) (own:=.full) h1 (h4 (.inr ⟨t,g,rfl,hg⟩)) (h5 fun t' g' e h=>by cases e;exact pw.2.2 g' h)
    .cases h
   .exact aFb ho i5 hargs lr h hφ hs hx hm
  .exact h.elim
 .exact h.elim
theorem aA8{T:TypeId}(h:aFf P T=true):∃kt et,P.underlying T=some (.map kt et)/\P.underlying kt=some .string/\∀w,(zeroValue et).run P w=.ok (.slice none 0 0) w:=by
 unfold aFf at h;split at h
 .rename_i kt et hT;simp only[bd] at h;obtain⟨h1,h2⟩:=h;refine⟨kt,et,hT,?_,fun w=>?_⟩
  .split at h1
   .assumption
   .cases h1
  .split at h2
   .rename_i i hi;split at h2
    .rename_i hz;simp[zeroValue,typeInfo,hi,hz]
    .cases h2
   .cases h2
 .cases h
theorem aIS(a b:ByteArray):(a==b)=decide (a=b):=by
 cases a with|mk a=>cases b with|mk b =>
 show (a==b)=_
 rw[dp,g8,au];simp
theorem nS(s:ByteArray):∀(l:List MapEntry) (ks:List ByteArray) (k:Nat),l.map (·.key)=ks.map Value.string->Instr.findNow .string (.string s) l k=some ((ks.findIdx? fun x=>decide (x=s)).bind fun i=>(l[i]?).map fun e=>(k+i,e.val))
 | [],[],k,_=>rfl
 | [],_::_,k,h=>by simp at h
 | _::_,[],k,h=>by simp at h
 | e::l,b::ks,k,h=>by
  simp only[di,List.cons.injEq] at h;unfold Instr.findNow;rw[h.1];simp only[Instr.sameNow,aIS];by_cases hb:s=b
  .subst hb;simp[List.findIdx?_cons]
  .have h2:¬b=s:=fun e=>hb e.symm
   rw[List.findIdx?_cons];simp only[hb,h2,decide_false,nS s l ks (k+1) h.2,bu,↓reduceIte];cases ks.findIdx? fun x=>decide (x=s) with
   | none=>rfl
   | some i =>
    simp only[dc,fh,List.getElem?_cons_succ];cases l[i]? with
    | none=>rfl
    | some e=>simp;omega
theorem EnR.keys{c:Addr->Option Value}{ps:Addr->Prop}{es:List (ByteArray × List (List D))}{en:Array MapEntry}(h:EnR c ps es en):en.toList.map (·.key)=(es.map (·.1)).map Value.string:=by
 refine f7 (by simp[h.1]) fun i h1 h2=>?_
 simp at h1 h2;simp[(h.2 i h2 h1).1]
theorem nT{w:World}{T:TypeId}{r:Nat}{en:Array MapEntry}{k:Nat}{c:Addr->Option Value}{ps:Addr->Prop}{es:List (ByteArray × List (List D))}(hT:aFf P T=true)(hb:w.heap[r]?=some (.map en k))(he:EnR c ps es en)(s:ByteArray):
  (Instr.lookup T (.map (some r)) (.string s) false).run P w=.ok (match ((es.map (·.1)).findIdx? fun x=>decide (x=s)) with|some i=>(en[i]?.map (·.val)).getD (.slice none 0 0)|none=>.slice none 0 0) w:=by
 obtain⟨kt,et,h1,h2,h3⟩:=aA8 hT;have hf:=nS s en.toList (es.map (·.1)) 0 he.keys;have hc:(Instr.checkKey en.isEmpty 10000 kt (.string s)).run P w=.ok () w:=MapKept.run_checkKey (k:=.string s) h2 (by simp[MapKept.IsKey]) _ 9999
 have hk:=MapKept.run_findKey (w:=w) h2 hf;cases hi:((es.map (·.1)).findIdx? fun x=>decide (x=s)) with
 | none =>
  rw[hi] at hk;simp only[Option.bind_none] at hk;simp[Instr.lookup,bp h1,MapKept.run_getObj_map hb,hc,hk,h3,Result.andThen]
 | some i =>
  have hlt:i<en.size:=by
   have:=(ee.1 hi).1
   rw[br,he.1] at this;exact this
  rw[hi] at hk;have hg:en.toList[i]?=some en[i]:=by simp[hlt]
  simp only[fh,hg,dc] at hk;simp[Instr.lookup,bp h1,MapKept.run_getObj_map hb,hc,hk,hlt,Result.andThen]
theorem yH{α:Type}(p:α->Bool):∀l:List α,l.find? p=(l.findIdx? p).bind fun i=>l[i]?
 | []=>rfl
 | x::l=>by
  rw[List.find?_cons,List.findIdx?_cons];cases p x with
  | true=>simp
  | false =>
   rw[yH p l];cases l.findIdx? p<;>simp
theorem wT{α:Type}(f:α->ByteArray)(s:ByteArray)(l:List α):((l.map f).findIdx? fun x=>decide (x=s))=l.findIdx? fun e=>decide (f e=s):=by
 rw[List.findIdx?_map];rfl
theorem RV.nil0{G:Gh}{w:World}:RV G w (.osl 0 [] .full) (.slice none 0 0) :=
 .osl (.sl (fun _ _=>default) (ai _) (by decide) (by simp) (by simp) (by simp) (by simp)) ⟨none,rfl,fun _=>rfl⟩
theorem aEn{o:Oper}{ρ:Operand->AV}{ρv:Operand->Value}{G:Gh}{m:bH}{w:World}{v:AV}{tok':Nat->Bool}{nt':Nat}(h:aQJ P o ρ m.tok m.nt v tok' nt')(hρ:∀x∈o.op.operands,RV G w (ρ x) (ρv x))(hm:aV G m w):
  dO P o ρv G w fun u G' w'=>RV G' w' v u/\aV G' { m with tok:=tok',nt:=nt' } w'/\G'.bx=G.bx:=by
 obtain⟨φ,h,hφ⟩:=h;unfold fM at h;split at h
 .rename_i T ho;simp only[ad,aw] at h;obtain⟨rfl,rfl,rfl,rfl⟩:=h;have hp:=hm.newkind .ex (.map #[] 0);have jy:=Le.newkind hm .ex (.map #[] 0);have kw:(w.alloc (.map #[] 0)).heap[w.heap.size]?=some (.map #[] 0):=fk w _
  have lx:=hp.newtok (some w.heap.size) (fun g hg=>by
   cases hg;refine⟨fun t ht=>?_,0, #[],_,.inr ?_,kw⟩
   .have:=hm.tlt t _ (by simpa[Gh.setKind] using ht)
    omega
   .show upd _ w.heap.size _ w.heap.size=_
    rw[uS])
  have lw:=Le.newtok (G:=G.setKind w.heap.size .ex) (w:=w.alloc (.map #[] 0)) (some w.heap.size);refine⟨.value (.map (some w.heap.size)),_,_,_,?_,.inl rfl,jy.trans lw,?_,lx,rfl⟩
  .simp[execOp,ho,Instr.makeMap]
  .have md:=hm.nt;refine .mp ⟨by simp only[Gh.newtok,Gh.setKind];omega,by simp,_,rfl,fun x hx=>?_⟩;simp only[Gh.newtok,Gh.setKind,md,uS,ad] at hx;subst hx;refine⟨rfl,?_, #[],0,kw,⟨rfl,fun i h1 _=>by simp[mpE] at h1⟩,fun i h1 _=>by simp at h1⟩;show upd _ w.heap.size _ w.heap.size=_
   rw[uS]
 .rename_i T x y ho;have hx:=hρ x (by rw[ho];simp[Op.operands]);have hy:=hρ y (by rw[ho];simp[Op.operands]);split at h
  .rename_i t es s h1 h2;simp only[ad,aw] at h;obtain⟨rfl,rfl,rfl,rfl⟩:=h;obtain⟨hT,ht⟩:=hφ;rw[h1] at hx;rw[h2] at hy;have Ae:ρv y=.string s:=by
    generalize ρv y=u at hy;cases hy with|d h=>cases h;rfl
   generalize o8:ρv x=xv at hx;cases hx with
   | mp hx =>
    obtain⟨_,_,r,rfl,hx⟩:=hx;obtain⟨_,z,hz⟩:=hm.toks t ht;obtain⟨rfl,hk,en,k,hh,he,Bx⟩:=hx z hz;have jc:=nT hT hh he s;refine⟨.value _,_,G,w,by simp only[execOp,ho,o8,Ae,ax,jc,aj,a8];rfl,.inl rfl,Le.refl G w,?_,hm,rfl⟩;unfold aMv;rw[yH,mpE,List.map_map,show ((fun x:ByteArray × List (List D)=>x.1) ∘ fun e:ByteArray × List (List D) × Own=>(e.1,e.2.1))=fun e=>e.1 from rfl,wT];cases hi:es.findIdx? fun e=>decide (e.1=s) with
    | none=>exact RV.nil0
    | some i =>
     have hlt:=(ee.1 hi).1;have jj:i<en.size:=by have:=he.1;simp[mpE] at this;omega
     have hr:=(he.2 i (by simpa[mpE] using hlt) jj).2;simp only[mpE,bl] at hr;simp only[fh,ab hlt,fx jj,dc,dx];exact .osl hr (Bx i hlt jj)
  .rename_i es s h1 h2;simp only[ad,aw] at h;obtain⟨rfl,rfl,rfl,rfl⟩:=h;have hT:=hφ;rw[h1] at hx;rw[h2] at hy;have Ae:ρv y=.string s:=by
    generalize ρv y=u at hy;cases hy with|d h=>cases h;rfl
   generalize o8:ρv x=xv at hx;cases hx with
   | mpd hx =>
    obtain⟨r,rfl,hk,en,k,hh,he⟩:=hx;have jc:=nT hT hh he s;refine⟨.value _,_,G,w,by simp only[execOp,ho,o8,Ae,ax,jc,aj,a8];rfl,.inl rfl,Le.refl G w,?_,hm,rfl⟩;unfold aII;rw[yH,wT];cases hi:es.findIdx? fun e=>decide (e.1=s) with
    | none=>exact RV.nil0
    | some i =>
     have hlt:=(ee.1 hi).1;have jj:i<en.size:=by rw[<-he.1];exact hlt
     simp only[fh,ab hlt,fx jj,dc,dx];exact .d (he.2 i hlt jj).2
  .cases h
 .cases h
theorem aEF{o:Oper}{ρ:Operand->AV}{ρv:Operand->Value}{G:Gh}{m:bH}{w:World}{v:AV}{tok':Nat->Bool}{nt':Nat}(h:aE0 P o ρ m.tok m.nt v tok' nt')(hρ:∀x∈o.op.operands,RV G w (ρ x) (ρv x))(hm:aV G m w):
  dO P o ρv G w fun u G' w'=>RV G' w' v u/\aV G' { m with tok:=tok',nt:=nt' } w'/\G'.bx=G.bx:=by
 rcases h with h|h|h
 .exact aDx h hρ hm
 .exact aEX h hρ hm
 .exact aEn h hρ hm
variable {P:Program}
def aO(P:Program)(T:TypeId):Option (List (Nat × Nat)):=match P.underlying T with
 | some (.struct fs)=>if fs.toList.all (fun f=>(P.info? f.type).isSome) then some (fs.toList.map fun f=>(f.offset,((P.info? f.type).map (·.size)).getD 0)) else none
 | _=>none
def yT(P:Program)(T:TypeId):Option (List (Nat × Nat)):=match aO P T with
 | some pl=>some pl
 | none=>match qC P T with
  | some (n,e)=>match aT P e with
   | some s=>some ((List.range n).map fun i=>(i*s,s))
   | none=>none
  | none=>none
def qP(pl:List (Nat × Nat))(cells:List AV):List (Nat × AV)->Option (List AV)
 | []=>some cells
 | (i,x)::r=>match pl[i]?,x.cells? with
  | some (off,n),some cs=>if cs.length=n/\off+n<=cells.length then qP pl (setCells cells off cs) r else none
  | _,_=>none
def eK(P:Program)(op:BinOp)(T:TypeId)(a b r:Value):Prop:=r.oneCell'=true/\∀x y w,Sem.run P (do eqGuard op T x y a b;binOp op T a b) w=.ok r w
def aK7(P:Program)(op:UnOp)(a r:Value):Prop:=r.oneCell'=true/\∀w,Sem.run P (Op.unary op a) w=.ok r w
def aEg(P:Program)(s t:TypeId)(a r:Value):Prop:=r.oneCell'=true/\∀w,Sem.run P (convert s t a) w=.ok r w
def oD(P:Program)(b:Builtin)(ts:Array TypeId)(t:TypeId)(vs:List Value)(r:Value):Prop:=r.oneCell'=true/\∀cs w,Sem.run P (builtin b ts t cs vs.toArray) w=.ok (.value r) w
def dK(ρ:Operand->AV)(o:Option Operand)(dflt n:Nat):Prop:=match o with
 | none=>n=dflt
 | some x=>match ρ x with
  | .d (.raw (.int _ k))=>k=(n:Int)
  | _=>False
def nU:List AV->Option (List (List D))
 | []=>some []
 | x::r=>match x.cells?,nU r with
  | some cs,some rs=>match zS cs with
   | some ds=>some (ds::rs)
   | none=>none
  | _,_=>none
def lenOf(P:Program)(T:TypeId)(x:AV)(v:AV):Prop:=match x with
 | .msl _ _ n _=>(aF P T).isSome=true/\v=.d (.raw (.int .i64 n))
 | .d (.raw (.string s))=>aY P T=true/\v=.d (.raw (.int .i64 s.size))
 | .d (.sl _ es)=>(aF P T).isSome=true/\v=.d (.raw (.int .i64 es.length))
 | .osl _ es _=>(aF P T).isSome=true/\v=.d (.raw (.int .i64 es.length))
 | .stk _ _ es=>(aF P T).isSome=true/\v=.d (.raw (.int .i64 es.length))
 | .que _ _ es=>(aF P T).isSome=true/\v=.d (.raw (.int .i64 es.length))
 | _=>False
def idxOf(P:Program)(T:TypeId)(x:AV)(n:Int)(v:AV):Prop:=match aW P T,x with
 | some (_,sz,_),.msl k off len sz'=>0<=n/\n<len/\sz'=sz/\v=.ptr k (off+n.toNat) 0
 | some (_,sz,_),.d (.sl _ es)=>0<=n/\∃e,es[n.toNat]?=some e/\e.length=sz/\v=.cptr e 0
 | some (_,sz,_),.osl _ es _=>0<=n/\∃e,es[n.toNat]?=some e/\e.length=sz/\v=.cptr e 0
 | some (_,sz,_),.que _ _ es=>0<=n/\∃e,es[n.toNat]?=some e/\e.length=sz/\v=.cptr e 0
 | none,.cptr cs off=>match qC P T with
  | some (len,E)=>match aT P E with
   | some sz=>0<=n/\n<len/\v=.cptr cs (off+n.toNat*sz)
   | none=>False
  | none=>False
 | none,.ptr k i off=>match qC P T with
  | some (len,E)=>match aT P E with
   | some sz=>0<=n/\n<len/\v=.ptr k i (off+n.toNat*sz)
   | none=>False
  | none=>False
 | _,_=>False
def dG(P:Program)(T:TypeId)(ρ:Operand->AV)(x:AV)(lo hi mx:Option Operand)(v:AV):Prop:=match x with
 | .msl k off n sz=>match aW P T with
  | some (_,sz',_)=>sz'=sz/\mx=none/\∃l h,dK ρ lo 0 l/\dK ρ hi n h/\l<=h/\h<=n/\(l<n∨l=0)/\v=.msl k (off+l) (h-l) sz
  | none=>False
 | .stk t sz es=>match aW P T with
  | some (_,sz',_)=>sz'=sz/\lo=none/\∃h,dK ρ hi es.length h/\h<=es.length /\
    (match mx with
     | none=>v=.stk t sz (es.take h)
     | some _=>h=0/\hi.isSome=true/\dK ρ mx 0 0/\v=.osl sz [] .full)
  | none=>False
 | .que t sz es=>match aW P T with
  | some (_,sz',_)=>sz'=sz/\hi=none/\mx=none/\∃l,dK ρ lo 0 l/\l<=es.length/\v=.que t sz (es.drop l)
  | none=>False
 | .d (.raw (.string s))=>aY P T=true/\mx=none/\∃l h,dK ρ lo 0 l/\dK ρ hi s.size h/\l<=h/\h<=s.size/\v=.d (.raw (.string (s.extract l h)))
 | x=>match aW P T,x.elems? with
  | some (_,sz,_),some (sz',es)=>∃l h,(sz'=sz∨es=[])/\dK ρ lo 0 l/\dK ρ hi es.length h/\l<=h/\h<=es.length /\
    (match mx with
     | none=>v=.d (.sl sz ((es.take h).drop l))
     | some _=>hi.isSome=true/\dK ρ mx 0 h/\v=.osl sz ((es.take h).drop l) .full)
  | _,_=>False
def aBf(P:Program)(base:Nat)(o:Oper)(ρ:Operand->AV)(v:AV):Prop:=match o.op with
 | .move x=>v=ρ x
 | .assign x=>v=ρ x
 | .pick c a b=>match ρ c with
  | .d (.raw (.bool t))=>v=(match t with|true=>ρ a|false=>ρ b)
  | _=>False
 | .alloc _=>match o.dst with
  | some s=>v=.ptr (base+s) 0 0
  | none=>False
 | .build T parts=>match yT P T,aH P T with
  | some pl,some zs=>match qP pl (zs.map cF) (parts.toList.map fun p=>(p.1,ρ p.2)) with
   | some cs=>v=.agg cs
   | none=>False
  | _,_=>False
 | .buildSlice T len parts=>match aW P T,nU (parts.toList.map fun p=>ρ p.2) with
  | some (_,sz,_),some rows=>parts.toList.map (·.1)=List.range len/\(∀r∈rows,r.length=sz)/\len*sz<=16777216/\v=.osl sz rows .full
  | _,_=>False
 | .nilCheck x=>match ρ x with
  | .ptr k i off=>v=.ptr k i off
  | .cptr cs off=>v=.cptr cs off
  | .fn (.func f) caps=>v=.fn (.func f) caps
  | _=>False
 | .binOp op T x y _=>match iA (ρ x),iA (ρ y) with
  | some a,some b=>∃r,eK P op T a b r/\v=.d (.raw r)
  | _,_=>False
 | .unOp op _ x=>match iA (ρ x) with
  | some a=>∃r,aK7 P op a r/\v=.d (.raw r)
  | none=>False
 | .convert s t x=>match iA (ρ x) with
  | some a=>∃r,aEg P s t a r/\v=.d (.raw r)
  | none=>False
 | .makeFunc fn first caps=>first.toList=[]/\v=.fn fn (caps.toList.map ρ)
 | .fieldAddr T x f=>match aO P T with
  | some pl=>match pl[f]?,ρ x with
   | some (off,n),.cptr cs o'=>n≠0/\v=.cptr cs (o'+off)
   | some (off,n),.ptr k i o'=>n≠0/\v=.ptr k i (o'+off)
   | _,_=>False
  | none=>False
 | .field T x f=>match aB P T f,ρ x with
  | some (ft,off),.agg cs=>match aX P ft,aT P ft with
   | some ag,some n=>rB ag n cs off=some v
   | _,_=>False
  | _,_=>False
 | .indexAddr T x i=>match ρ i with
  | .d (.raw (.int _ n))=>idxOf P T (ρ x) n v
  | _=>False
 | .index T x i=>match ρ x,ρ i with
  | .d (.raw (.string s)),.d (.raw (.int _ n))=>aY P T=true/\0<=n/\∃b,s[n.toNat]?=some b/\v=.d (.raw (.int .u8 b.toNat))
  | _,_=>False
 | .extract t i=>match ρ t with
  | .tup vs=>vs[i]?=some v
  | _=>False
 | .slice T x lo hi mx=>dG P T ρ (ρ x) lo hi mx v
 | .call c=>match c.callee,c.args.toList.map ρ,c.argTypes.toList with
  | .builtin .len,[x],[T]=>lenOf P T x v
  | .builtin .append,_,_=>False
  | .builtin b,_,_=>match gP (c.args.toList.map ρ) with
   | some vs=>∃r,oD P b c.argTypes o.type vs r/\v=.d (.raw r)
   | none=>False
  | _,_,_=>False
 | _=>False
theorem jY(k:IntKind)(n:Int)(w:World):(asIntOf (.int k n)).run P w=.ok (k,n) w:=rfl
theorem oY{T E sz by':Nat}(h:aW P T=some (E,sz,by')):P.underlying T=some (.slice E)/\aT P E=some sz/\0<sz:=by
 obtain⟨h1,i,z,hi,_,_,hs,_,h2,_⟩:=fP h;exact⟨h1,by simp[aT,hi,hs],h2⟩
theorem iQ{T E:Nat}(h:aF P T=some E):P.underlying T=some (.slice E):=by
 unfold aF at h;split at h
 .simp_all
 .cases h
theorem tQ{T:Nat}(h:aY P T=true):P.underlying T=some .string:=by
 unfold aY at h;split at h
 .assumption
 .cases h
theorem aDI{T ty:Nat}{x v:AV}{xv:Value}{G:Gh}{w:World}(h:lenOf P T x v)(hx:RV G w x xv):∃u,(Builtin.len_ #[T] ty #[xv]).run P w=.ok u w/\RV G w v u:=by
 unfold lenOf at h;split at h
 .rename_i k off n sz;obtain⟨h1,rfl⟩:=h;obtain⟨E,hE⟩:=cq.1 h1;have hU:=iQ hE;cases hx with
  | msl h1 h2 h3=>exact⟨.int .i64 n,by simp[Builtin.len_,bp hU,goInt],.raw rfl⟩
 .rename_i s;obtain⟨h1,rfl⟩:=h;have hU:=tQ h1;cases hx with
  | d h=>cases h;exact⟨.int .i64 s.size,by simp[Builtin.len_,bp hU,goInt],.raw rfl⟩
 .rename_i sz es;obtain⟨h1,rfl⟩:=h;obtain⟨E,hE⟩:=cq.1 h1;have hU:=iQ hE;cases hx with
  | d h=>cases h;exact⟨.int .i64 es.length,by simp[Builtin.len_,bp hU,goInt],.raw rfl⟩
 .rename_i sz es o;obtain⟨h1,rfl⟩:=h;obtain⟨E,hE⟩:=cq.1 h1;have hU:=iQ hE;cases hx with
  | osl h _=>cases h;exact⟨.int .i64 es.length,by simp[Builtin.len_,bp hU,goInt],.raw rfl⟩
 .rename_i t sz es;obtain⟨h1,rfl⟩:=h;obtain⟨E,hE⟩:=cq.1 h1;have hU:=iQ hE;cases hx with
  | stk h =>
   obtain⟨_,A,cap,rfl,_⟩:=h;exact⟨.int .i64 es.length,by simp[Builtin.len_,bp hU,goInt],.raw rfl⟩
 .rename_i t sz es;obtain⟨h1,rfl⟩:=h;obtain⟨E,hE⟩:=cq.1 h1;have hU:=iQ hE;cases hx with
  | que h _=>cases h;exact⟨.int .i64 es.length,by simp[Builtin.len_,bp hU,goInt],.raw rfl⟩
 .exact h.elim
theorem iT{T E sz:Nat}(hE:P.underlying T=some (.slice E))(hs:aT P E=some sz)(a:Addr)(len cap:Nat)(k:IntKind)(n:Int)(h0:0<=n)(h1:n<len)(w:World):
  (Instr.indexAt T (.slice (some a) len cap) (.int k n)).run P w=.ok (.pointer (some (a.add (n.toNat*sz)))) w:=by
 have BO:0<=n/\n<(len:Int):=⟨h0,h1⟩
 simp only[Instr.indexAt,ax,jY,aj,bp hE,a8,BO,and_self,↓reduceIte,bT hs]
theorem jH{T E sz L:Nat}(hE:P.underlying T=some (.array L E))(hs:aT P E=some sz)(a:Addr)(k:IntKind)(n:Int)(h0:0<=n)(h1:n<L)(w:World):
  (Instr.indexAt T (.pointer (some a)) (.int k n)).run P w=.ok (.pointer (some (a.add (n.toNat*sz)))) w:=by
 have BO:0<=n/\n<(L:Int):=⟨h0,h1⟩
 simp only[Instr.indexAt,ax,jY,aj,bp hE,a8,BO,and_self,↓reduceIte,bT hs,Instr.sureAddr]
theorem aEZ{T E sz by' sz0:Nat}(hrow:aW P T=some (E,sz,by')){es:List (List D)}{e:List D}{k:IntKind}{n:Int}{xv:Value}{G:Gh}{w:World}(hx:RVd w.cell? G.ps (.sl sz0 es) xv)(h0:0<=n)(he:es[n.toNat]?=some e)(hl:e.length=sz):
  ∃u,(Instr.indexAt T xv (.int k n)).run P w=.ok u w/\RV G w (.cptr e 0) u:=by
 obtain⟨hE,hs,hp⟩:=oY hrow;obtain⟨hlt,rfl⟩:=ba.1 he;cases hx with
 | sl u i8 i9 hsz hA hc hr =>
  rename_i A cap;have BP:sz0=sz:=(hsz _ (aa hlt)).symm.trans hl
  subst BP;obtain⟨a,rfl⟩:=hA (by intro h;subst h;simp at hlt);refine⟨_,iT hE hs a _ cap k n h0 (by omega) w,?_⟩;have:(a.add (n.toNat*sz0))=(a.add (n.toNat*sz0)).add 0:=by simp[Addr.add]
  rw[this];refine .cptr _ (fun j=>u n.toNat j) (fun j hj=>?_) (fun j hj=>hr n.toNat j hlt hj);rw[add_add];exact hc a rfl n.toNat j hlt (by rw[<-hl];exact hj)
theorem aCB{T:Nat}{x v:AV}{k:IntKind}{n:Int}{xv:Value}{G:Gh}{w:World}(h:idxOf P T x n v)(hx:RV G w x xv):∃u,(Instr.indexAt T xv (.int k n)).run P w=.ok u w/\RV G w v u:=by
 unfold idxOf at h;split at h
 .rename_i E sz by' key off len sz' hrow
  obtain⟨h0,h1,rfl,rfl⟩:=h;obtain⟨hE,hs,hp⟩:=oY hrow;cases hx with
  | msl hb hn hc =>
   rename_i b cap;refine⟨_,iT hE hs _ _ cap k n h0 h1 w,?_⟩;rw[bK];have:off*sz'+n.toNat*sz'=(off+n.toNat)*sz'+0:=by rw[cf];omega
   rw[this];exact .ptr hb
 .rename_i E sz by' sz0 es hrow
  obtain⟨h0,e,he,hl,rfl⟩:=h;cases hx with
  | d hx=>exact aEZ hrow hx h0 he hl
 .rename_i E sz by' sz0 es o hrow
  obtain⟨h0,e,he,hl,rfl⟩:=h;cases hx with
  | osl hx _=>exact aEZ hrow hx h0 he hl
 .rename_i E sz by' t sz0 es hrow
  obtain⟨h0,e,he,hl,rfl⟩:=h;cases hx with
  | que hx _=>exact aEZ hrow hx h0 he hl
 .split at h
  .rename_i cs off hrow L E sc;split at h
   .rename_i sz hs;obtain⟨h0,h1,rfl⟩:=h;have hE:P.underlying T=some (.array L E):=by
     unfold qC at sc;split at sc
     .simp_all
     .cases sc
    cases hx with
    | cptr a u hc hr =>
     refine⟨_,jH hE hs _ k n h0 h1 w,?_⟩;rw[add_add];exact .cptr a u hc hr
   .exact h.elim
  .exact h.elim
 .split at h
  .rename_i key i off hrow xx L E sc;split at h
   .rename_i sz hs;obtain⟨h0,h1,rfl⟩:=h;have hE:P.underlying T=some (.array L E):=by
     unfold qC at sc;split at sc
     .simp_all
     .cases sc
    cases hx with
    | ptr hb =>
     rename_i b bsz;refine⟨_,jH hE hs _ k n h0 h1 w,?_⟩;have e:(⟨b,i*bsz+off,none⟩:Addr).add (n.toNat*sz)=⟨b,i*bsz+(off+n.toNat*sz),none⟩:=by rw[bK,gw]
     rw[e];exact .ptr hb
   .exact h.elim
  .exact h.elim
 .exact h.elim
theorem aDR{ρ:Operand->AV}{ρv:Operand->Value}{G:Gh}{w:World}{o:Option Operand}{d n:Nat}(h:dK ρ o d n)(hρ:∀x,o=some x->RV G w (ρ x) (ρv x)):
  (o=none/\n=d)∨∃x k,o=some x/\ρv x=.int k (n:Int):=by
 unfold dK at h;split at h
 .exact .inl ⟨rfl,h⟩
 .rename_i x;split at h
  .rename_i k m hx;have hr:=hρ x rfl;rw[hx] at hr;generalize hv:ρv x=v at hr;cases hr with
   | d hd=>cases hd;subst h;exact .inr ⟨x,k,rfl,hv⟩
  .exact h.elim
variable {P:Program}
theorem nJ(k:IntKind)(n y:Nat)(code:BoundsCode)(h:n<=y)(w:World):(Instr.sliceBound (.int k (n:Int)) y code).run P w=.ok n w:=by
 have h1:(0:Int)<=n/\(n:Int)<=y:=by omega
 simp only[Instr.sliceBound,ax,jY,aj,h1,and_self,↓reduceIte,a8,bz]
theorem cL{b:Bool}{len cap l h m:Nat}{low high mx:Option Value}(hm:(mx=none/\m=cap)∨∃k,mx=some (.int k (m:Int)))(CN:m<=cap)(hh:(high=none/\mx=none/\h=len)∨∃k,high=some (.int k (h:Int)))(CO:h<=m)(hl:(low=none/\l=0)∨∃k,low=some (.int k (l:Int)))(wi:l<=h)(w:World):
  (Instr.sliceBounds b len cap low high mx).run P w=.ok (l,h,m) w:=by
 rcases hm with ⟨rfl,rfl⟩|⟨km,rfl⟩
 .rcases hh with ⟨rfl,_,rfl⟩|⟨kh,rfl⟩<;>rcases hl with ⟨rfl,rfl⟩|⟨kl,rfl⟩ <;>
   simp[Instr.sliceBounds,nJ,CN,CO,wi]
 .rcases hh with ⟨rfl,h1,rfl⟩|⟨kh,rfl⟩
  .cases h1
  .rcases hl with ⟨rfl,rfl⟩|⟨kl,rfl⟩ <;>
    simp[Instr.sliceBounds,nJ,CN,CO,wi]
theorem eG{ρ:Operand->AV}{ρv:Operand->Value}{G:Gh}{w:World}{o:Option Operand}{d n:Nat}(h:dK ρ o d n)(hρ:∀x,o=some x->RV G w (ρ x) (ρv x)):
  (o.map ρv=none/\o=none/\n=d)∨∃k,o.map ρv=some (.int k (n:Int)):=by
 rcases aDR h hρ with ⟨rfl,h1⟩|⟨x,k,rfl,h1⟩
 .exact .inl ⟨rfl,rfl,h1⟩
 .exact .inr ⟨k,by simp[h1]⟩
theorem nX{T:Nat}{ρ:Operand->AV}{ρv:Operand->Value}{x v:AV}{xv:Value}{lo hi mx:Option Operand}{G:Gh}{w:World}(h:dG P T ρ x lo hi mx v)(An:∀t sz es,x=.que t sz es->False)(hx:RV G w x xv)(qh:∀y,lo=some y->RV G w (ρ y) (ρv y))(xl:∀y,hi=some y->RV G w (ρ y) (ρv y))(sd:∀y,mx=some y->RV G w (ρ y) (ρv y)):
    ∃u,(Instr.sliceAt T xv (lo.map ρv) (hi.map ρv) (mx.map ρv)).run P w=.ok u w/\RV G w v u:=by
  unfold dG at h;split at h
  . rename_i k off n sz
    split at h
    . rename_i E sz' by' hrow
      obtain⟨rfl,rfl,l,h',ol,oh,wi,ur,hl0,rfl⟩:=h;obtain⟨hE,hs,hp⟩:=oY hrow;cases hx with
      | msl hb hn hc =>
        rename_i b cap;have hb':=cL (P:=P) (b:=true) (len:=n) (cap:=cap) (l:=l) (h:=h') (m:=cap) (low:=lo.map ρv) (high:=hi.map ρv) (mx:=none) (.inl ⟨rfl,rfl⟩) (nr0 _)
          ((eG oh xl).imp (fun h=>⟨h.1,rfl,h.2.2⟩) id) (by omega) ((eG ol qh).imp (fun h=>⟨h.1,h.2.2⟩) id) wi w
        refine⟨.slice (if cap=l then some ⟨b,off*sz',none⟩ else (some (⟨b,off*sz',none⟩:Addr)).map (·.add (l*sz'))) (h'-l) (cap-l),?_,?_⟩
        . simp only[Instr.sliceAt,ax,bp hE,aj,Instr.slice,fu,fe,bu,↓reduceIte,a8,hb',bT hs]
        . have e:(if cap=l then some (⟨b,off*sz',none⟩:Addr) else (some (⟨b,off*sz',none⟩:Addr)).map (·.add (l*sz')))=some ⟨b,(off+l)*sz',none⟩:=by
            split
            . have:l=0:=by omega
              subst this;simp
            . rw[dc,bK,cf]
          rw[e];exact .msl hb (by omega) (by omega)
    . exact h.elim
  . rename_i t sz es
    split at h
    . rename_i E sz' by' hrow
      obtain⟨rfl,rfl,h',oh,ur,hv⟩:=h;obtain⟨hE,hs,hp⟩:=oY hrow;cases hx with
      | stk jp =>
        obtain⟨h1,A,cap,rfl,i8,i9,jp⟩:=jp;split at hv
        . subst hv
          have hb':=cL (P:=P) (b:=true) (len:=es.length) (cap:=cap) (l:=0) (h:=h') (m:=cap) (low:=none) (high:=hi.map ρv) (mx:=none) (.inl ⟨rfl,rfl⟩) (nr0 _)
            ((eG oh xl).imp (fun h=>⟨h.1,rfl,h.2.2⟩) id) (by omega) (.inl ⟨rfl,rfl⟩) (ai _) w
          refine⟨.slice (if cap=0 then A else A.map (·.add (0*sz'))) (h'-0) (cap-0),?_,?_⟩
          . simp only[Instr.sliceAt,ax,bp hE,aj,Instr.slice,fu,fe,bu,↓reduceIte,a8,hb',bT hs]
          . have e:(if cap=0 then A else A.map (·.add (0*sz')))=A:=by
              split
              . rfl
              . cases A<;>simp[Addr.add]
            rw[e];have hl:(es.take h').length=h':=by simp[ur]
            refine .stk ⟨h1,A,cap,by rw[hl];rfl,by omega,i9,fun x hx=>?_⟩;have h0:=jp x hx;cases x with
            | none=>exact h0
            | some g =>
              obtain⟨hA,vs,sp,e,k1,k2,k3,k4,k5⟩:=h0;have qg:=k4.len;have iv:h'*sz'<=es.length*sz':=bm _ ur
              refine⟨hA,vs.take (h'*sz'),vs.drop (h'*sz')++sp,e,k1,by rw[<-List.append_assoc,cg];exact k2,by rw[<-List.append_assoc,cg];exact k3,?_,fun u hu=>?_⟩
              . refine⟨by rw[cj,hl,qg];omega,fun u hu=>k4.one u (bt hu),fun q hq=>k4.each q (bt hq),fun i j hi hj=>?_⟩
                rw[hl] at hi;simp only[fj] at hj ⊢;obtain⟨u,hu,hr⟩:=k4.read i j (by omega) hj;refine⟨u,?_,hr⟩;have qr:j<sz':=by rw[<-k4.each _ (aa (by omega:i<es.length))];exact hj
                have:(i+1)*sz'<=h'*sz':=bm _ (by omega)
                rw[cf] at this;rw[e9 (by omega)];exact hu
              . rcases ap.1 hu with hu|hu
                . exact k4.one u (cu hu)
                . exact k5 u hu
        . rename_i mxo
          obtain⟨rfl,ma,om,rfl⟩:=hv;obtain⟨ho,rfl⟩:=cq.1 ma;have hb':=cL (P:=P) (b:=true) (len:=es.length) (cap:=cap) (l:=0) (h:=0) (m:=0) (low:=none) (high:=some (ρv ho)) (mx:=some (ρv mxo))
            (by rcases eG om sd with h|⟨k,h⟩;· exact absurd h.1 (by simp)
                . exact .inr ⟨k,h⟩) (ai _)
            (by rcases eG oh xl with h|⟨k,h⟩;· exact absurd h.1 (by simp)
                . exact .inr ⟨k,h⟩) (nr0 _) (.inl ⟨rfl,rfl⟩) (nr0 _) w
          refine⟨.slice (if 0=0 then A else A.map (·.add (0*sz'))) (0-0) (0-0),?_,?_⟩
          . simp only[Instr.sliceAt,ax,bp hE,aj,Instr.slice,fu,dc,fe,bu,↓reduceIte,a8,hb',bT hs]
          . exact .osl (.sl (es:=[]) (fun _ _=>default) (ai _) (ai _) (by simp) (by simp) (fun a _ i j hi _=>by simp at hi) (fun i j hi _=>by simp at hi)) ⟨_,rfl,fun e=>absurd e (by omega)⟩
    . exact h.elim
  . exact(An _ _ _ rfl).elim
  . rename_i s
    obtain⟨hT,rfl,l,h',ol,oh,wi,ur,rfl⟩:=h;have hU:=tQ hT;have tr:xv=.string s:=by cases hx with|d h=>cases h;rfl
    subst tr;have hb:=cL (P:=P) (b:=false) (len:=s.size) (cap:=s.size) (l:=l) (h:=h') (m:=s.size) (low:=lo.map ρv) (high:=hi.map ρv) (mx:=none) (.inl ⟨rfl,rfl⟩) (nr0 _)
      ((eG oh xl).imp (fun h=>⟨h.1,rfl,h.2.2⟩) id) ur ((eG ol qh).imp (fun h=>⟨h.1,h.2.2⟩) id) wi w
    refine⟨.string (s.extract l h'),?_,.raw rfl⟩;simp only[Instr.sliceAt,ax,bp hU,aj,Instr.slice,fu,fe,bu,↓reduceIte,a8,hb]
  . split at h
    . rename_i E sz by' sz' es hrow mf
      obtain⟨l,h',hsz,ol,oh,wi,ur,hv⟩:=h;obtain⟨hE,hs,hp⟩:=oY hrow;obtain⟨A,cap,vs,rfl,i8,i9,hf⟩:=(hx.elems mf).flat;have mq:iH w.cell? G.ps sz es A vs:=hf.resize hsz
      have fin:∀m,h'<=m->m<=cap->iH w.cell? G.ps sz ((es.take h').drop l) (if m=l then A else A.map (·.add (l*sz))) ((vs.take (h'*sz)).drop (l*sz)):=by
        intro m tu BQ;have qg:=mq.len;constructor
        . simp only[eg,cj,qg,Nat.min_eq_left ur,Nat.min_eq_left (bm sz ur),Nat.sub_mul]
        . intro a ha q u hq
          simp only[gr,List.getElem?_take] at hq;split at hq
          . rename_i hlt
            have pz:m≠l:=by
              intro e;have:h'=l:=by omega
              subst this;omega
            rw[ac pz] at ha;obtain⟨a0,hA,rfl⟩:=cy.1 ha;rw[add_add];exact mq.at_ a0 hA _ u hq
          . cases hq
        . intro u hu
          exact mq.one u (bt (cu hu))
        . intro hne
          have hlt:l<h':=by
            rcases ew l h' with h|h
            . exact h
            . exact absurd (List.drop_of_length_le (by simp;omega)) hne
          obtain⟨a,rfl⟩:=mq.some_ (by intro e;subst e;simp at ur;omega);rw[ac (by omega)];exact⟨_,rfl⟩
        . intro e he
          exact mq.each e (bt (cu he))
        . intro i j oe hj
          simp only[eg,cj,Nat.min_eq_left ur] at oe;simp only[List.getElem_drop,fj] at hj ⊢;obtain⟨u,hu,hr⟩:=mq.read (l+i) j (by omega) hj;refine⟨u,?_,hr⟩;have qr:j<sz:=by rw[<-mq.each _ (aa (by omega:l+i<es.length))];exact hj
          have e1:l*sz+(i*sz+j)=(l+i)*sz+j:=by rw[cf];omega
          rw[gr,List.getElem?_take,af,e1]
          . exact hu
          . have:(l+i+1)*sz<=h'*sz:=bm _ (by omega)
            rw[cf,cf] at this;omega
      have hlen:((es.take h').drop l).length=h'-l:=by simp only[eg,cj,Nat.min_eq_left ur]
      cases mx with
      | none =>
        simp only at hv;subst hv;have hb:=cL (P:=P) (b:=true) (len:=es.length) (cap:=cap) (l:=l) (h:=h') (m:=cap) (low:=lo.map ρv) (high:=hi.map ρv) (mx:=none) (.inl ⟨rfl,rfl⟩) (nr0 _)
          ((eG oh xl).imp (fun h=>⟨h.1,rfl,h.2.2⟩) id) (by omega) ((eG ol qh).imp (fun h=>⟨h.1,h.2.2⟩) id) wi w
        refine⟨.slice (if cap=l then A else A.map (·.add (l*sz))) (h'-l) (cap-l),?_,.d ?_⟩
        . simp only[Instr.sliceAt,ax,bp hE,aj,Instr.slice,fu,fe,bu,↓reduceIte,a8,hb,bT hs]
        . have:=RVd.of_flat (cap:=cap-l) (by rw[hlen];omega) (by omega) (fin cap (by omega) (nr0 _))
          rw[hlen] at this;exact this
      | some y =>
        simp only at hv;obtain⟨ma,om,rfl⟩:=hv;have ohm:=eG om sd;have mb:∃k,(some y).map ρv=some (.int k (h':Int)):=by
          rcases ohm with ⟨h,_⟩|h
          . simp at h
          . exact h
        have D5:∃k,hi.map ρv=some (.int k (h':Int)):=by
          rcases eG oh xl with ⟨_,h,_⟩|h
          . subst h;simp at ma
          . exact h
        have hb:=cL (P:=P) (b:=true) (len:=es.length) (cap:=cap) (l:=l) (h:=h') (m:=h') (low:=lo.map ρv) (high:=hi.map ρv) (mx:=(some y).map ρv) (.inr mb) (by omega)
          (.inr D5) (nr0 _) ((eG ol qh).imp (fun h=>⟨h.1,h.2.2⟩) id) wi w
        refine⟨.slice (if h'=l then A else A.map (·.add (l*sz))) (h'-l) (h'-l),?_,.osl ?_ ?_⟩
        . simp only[Instr.sliceAt,ax,bp hE,aj,Instr.slice,fu,fe,bu,↓reduceIte,a8,hb,bT hs]
        . have:=RVd.of_flat (cap:=h'-l) (by rw[hlen];omega) (by omega) (fin h' (nr0 _) (by omega))
          rw[hlen] at this;exact this
        . rw[hlen];exact⟨_,rfl,fun e=>absurd e (by omega)⟩
    . exact h.elim
theorem zI{T:Nat}{ρ:Operand->AV}{ρv:Operand->Value}{x v:AV}{xv:Value}{lo hi mx:Option Operand}{G:Gh}{w:World}(h:dG P T ρ x lo hi mx v)(hx:RV G w x xv)(qh:∀y,lo=some y->RV G w (ρ y) (ρv y))(xl:∀y,hi=some y->RV G w (ρ y) (ρv y))(sd:∀y,mx=some y->RV G w (ρ y) (ρv y)):
  ∃u,(Instr.sliceAt T xv (lo.map ρv) (hi.map ρv) (mx.map ρv)).run P w=.ok u w/\RV G w v u:=by
 by_cases hq:∃t sz es,x=.que t sz es
 .obtain⟨t,sz,es,rfl⟩:=hq;unfold dG at h;simp only at h;split at h
  .rename_i E sz' by' hrow
   obtain⟨rfl,rfl,rfl,l,ol,hl,rfl⟩:=h;obtain⟨hE,hs,hp⟩:=oY hrow;cases hx with
   | que hd hq =>
    have h0:dG P T ρ (.d (.sl sz' es)) lo none none (.d (.sl sz' ((es.take es.length).drop l))):=by
     unfold dG;simp only[hrow,AV.elems?];exact⟨l,es.length,by simp,ol,rfl,hl,nr0 _,by simp⟩
    obtain⟨u,hr,hu⟩:=nX (w:=w) h0 (fun _ _ _ h=>by cases h) (.d hd) qh (fun y h=>by cases h) (fun y h=>by cases h);obtain⟨A,cap,vs,rfl,i8,i9,hf⟩:=hd.flat;have hb:=cL (P:=P) (b:=true) (len:=es.length) (cap:=cap) (l:=l) (h:=es.length) (m:=cap) (low:=lo.map ρv) (high:=none) (mx:=none) (.inl ⟨rfl,rfl⟩) (nr0 _)
     (.inl ⟨rfl,rfl,rfl⟩) (by omega) ((eG ol qh).imp (fun h=>⟨h.1,h.2.2⟩) id) hl w
    have jc:(Instr.sliceAt T (.slice A es.length cap) (lo.map ρv) ((none:Option Operand).map ρv) ((none:Option Operand).map ρv)).run P w=.ok (.slice (if cap=l then A else A.map (·.add (l*sz'))) (es.length-l) (cap-l)) w:=by
     simp only[Instr.sliceAt,ax,bp hE,aj,Instr.slice,fu,fe,bu,↓reduceIte,a8,hb,bT hs]
    rw[jc] at hr;injection hr with hr _
    subst hr;refine⟨_,jc,.que ?_ ⟨hq.1,fun x hx=>?_⟩⟩
    .cases hu with|d hu=>rw[bh] at hu;exact hu
    .rw[eg];rcases hq.2 x hx with ⟨A',hA⟩|⟨g,d,cap',rfl,hA,hk⟩
     .injection hA with _ _ h3
      subst h3;exact .inl ⟨_,rfl⟩
     .injection hA with h1 _ h3
      subst h1;subst h3;by_cases hc:cap=l
      .have:es.length-l=0:=by omega
       have h2:cap-l=0:=by omega
       rw[this,h2];exact .inl ⟨_,rfl⟩
      .refine .inr ⟨g,d+l*sz',cap-l,rfl,?_,?_⟩
       .rw[ac hc,dc,bK]
       .rw[hk,Nat.sub_mul,Nat.sub_mul];have e1:l*sz'<=es.length*sz':=bm _ hl
        have e2:l*sz'<=cap*sz':=bm _ (by omega)
        congr 1<;>omega
  .exact h.elim
 .exact nX h (fun t sz es e=>hq ⟨t,sz,es,e⟩) hx qh xl sd
theorem wQ:∀(l:List Field) (w:World),(l.all fun f=>(P.info? f.type).isSome)=true ->
  (l.mapM (m:=Sem) fun f=>do pure (f.offset,<-sizeOf f.type)).run P w=.ok (l.map fun f=>(f.offset,((P.info? f.type).map (·.size)).getD 0)) w
 | [],w,_=>by simp
 | f::l,w,h=>by
  simp only[List.all_cons,bd] at h;obtain⟨i,hi⟩:=cq.1 h.1;have ih:=wQ l w h.2;have hs:(sizeOf f.type).run P w=.ok i.size w:=bT (by simp[aT,hi]) w
  simp only[List.mapM_cons,ax,hs,aj,a8,ih,di,hi,dc,dx]
theorem aA4:∀(vs:List Value) (k off:Nat) (cells:Array Value),
  ((vs.zipIdx k).foldl (fun cs (x:Value × Nat)=>cs.setIfInBounds (off+x.2) x.1) cells).toList=setCells cells.toList (off+k) vs
 | [],k,off,cells=>by simp[setCells]
 | v::vs,k,off,cells=>by
  simp only[List.zipIdx_cons,List.foldl_cons];rw[aA4 vs (k+1) off,setCells];simp[Array.toList_setIfInBounds,gw]
theorem wW(v:Value)(off:Nat)(cells:Array Value):
  (v.cells.zipIdx.foldl (fun cs (x:Value × Nat)=>cs.setIfInBounds (off+x.2) x.1) cells).toList=setCells cells.toList off v.cells.toList:=by
 have:=aA4 v.cells.toList 0 off cells
 rw[fl] at this;rw[<-this,<-Array.foldl_toList];congr 2
 simp
theorem qB{G:Gh}{w:World}(pl:List (Nat × Nat))(place:Nat->Option (Nat × Nat))(mg:∀i x,pl[i]?=some x->place i=some x):∀(parts:List (Nat × AV)) (pv:List (Nat × Value)) (cells:List AV) (cv:Array Value) (out:List AV),
  pv.length=parts.length->(∀j (h1:j<parts.length) (h2:j<pv.length),parts[j].1=pv[j].1/\RV G w parts[j].2 pv[j].2)->RVs G w cells cv.toList->(∀u∈cv.toList,u.oneCell'=true) ->
  qP pl cells parts=some out->∃ov:Array Value,Instr.fill place cv pv=some ov/\RVs G w out ov.toList/\(∀u∈ov.toList,u.oneCell'=true)
 | [],pv,cells,cv,out,hl,hp,hR,h1,h=>by
  have:pv=[]:=bg (by simpa using hl)
  subst this;simp only[qP,ad] at h;subst h;exact⟨cv,rfl,hR,h1⟩
 | (i,x)::parts,pv,cells,cv,out,hl,hp,hR,h1,h=>by
  cases pv with
  | nil=>simp at hl
  | cons q pv =>
   obtain⟨i',xv⟩:=q;have h0:=hp 0 (by simp) (by simp);simp only[ck] at h0;obtain⟨rfl,hx⟩:=h0;simp only[qP] at h;split at h
   .rename_i off n cs hi m9;split at h
    .rename_i hc;obtain⟨nm,iv⟩:=hc;obtain⟨yk,hc1⟩:=hx.cells m9;have hlen:xv.cells.size=n:=by have:=yk.1;simp at this;omega
     have zz:cv.size=cells.length:=by have:=hR.1;simpa using this.symm
     have e:=wW xv off cv;obtain⟨ov,ho,D6,By⟩:=qB pl place mg parts pv (setCells cells off cs) (xv.cells.zipIdx.foldl (fun cs (x:Value × Nat)=>cs.setIfInBounds (off+x.2) x.1) cv) out
      (by simpa using hl) (fun j g1 g2=>hp (j+1) (by simpa using g1) (by simpa using g2)) (by rw[e];exact hR.setCells yk)
      (by rw[e];exact lS (p:=fun u=>Value.oneCell' u=true) _ _ _ h1 hc1) h
     refine⟨ov,?_,D6,By⟩;simp only[Instr.fill,mg _ _ hi];rw[ac]
     .exact ho
     .simp[hlen];omega
    .cases h
   .cases h
theorem aBO{T:Nat}{parts:Array (Nat × Operand)}{ρ:Operand->AV}{ρv:Operand->Value}{G:Gh}{w:World}{pl:List (Nat × Nat)}{zs:List Value}{cs:List AV}(mg:aO P T=some pl)(hz:aH P T=some zs)(h:qP pl (zs.map cF) (parts.toList.map fun p=>(p.1,ρ p.2))=some cs)(hρ:∀p∈parts.toList,RV G w (ρ p.2) (ρv p.2)):
  ∃u,(Instr.build T (parts.map fun (i,x)=>(i,ρv x))).run P w=.ok u w/\RV G w (.agg cs) u:=by
 unfold aO at mg;split at mg
 .rename_i fs qi;split at mg
  .rename_i ik;simp only[ad] at mg;subst mg;unfold aH at hz;split at hz
   .rename_i z Ao;split at hz
    .rename_i jq;simp only[ad] at hz;subst hz;obtain⟨i,hi,Ap⟩:=dv.1 Ao;have wg:(zeroValue T).run P w=.ok z w:=by simp[zeroValue,typeInfo,hi,Ap]
     have Aq:(fs.mapM (m:=Sem) fun f=>do pure (f.offset,<-sizeOf f.type)).run P w=.ok (fs.toList.map fun f=>(f.offset,((P.info? f.type).map (·.size)).getD 0)).toArray w:=by
      rw[Array.mapM_eq_mapM_toList];have:=wQ (P:=P) fs.toList w (by simpa using ik)
      simp only[map_eq_pure_bind,ax,this,aj,a8]
     obtain⟨ov,h1,h2,h3⟩:=qB (G:=G) (w:=w) (fs.toList.map fun f=>(f.offset,((P.info? f.type).map (·.size)).getD 0)) ((fs.toList.map fun f=>(f.offset,((P.info? f.type).map (·.size)).getD 0)).toArray[·]?) (by intro i x h;simpa using h)
      (parts.toList.map fun p=>(p.1,ρ p.2)) ((parts.map fun (i,x)=>(i,ρv x)).toList) (z.cells.toList.map cF) z.cells cs (by simp)
      (by
       intro j g1 g2;simp at g1 g2;simp only[bl,fy];exact⟨trivial,hρ _ (aa _)⟩)
      ⟨by simp,fun j g1 g2=>by simp only[bl];exact RV.of_ofVal1 _⟩ (fun u hu=>aq.1 jq u hu) h
     refine⟨.agg ov,?_,?_⟩
     .simp only[Instr.build,ax,wg,aj,bp qi,Aq,h1,a8]
     .have:=RV.agg (G:=G) (w:=w) h2.1 h2.2 h3
      simpa using this
    .cases hz
   .cases hz
  .cases mg
 .cases mg
theorem aDZ{T:Nat}{parts:Array (Nat × Operand)}{ρ:Operand->AV}{ρv:Operand->Value}{G:Gh}{w:World}{pl:List (Nat × Nat)}{zs:List Value}{cs:List AV}(mg:yT P T=some pl)(hz:aH P T=some zs)(h:qP pl (zs.map cF) (parts.toList.map fun p=>(p.1,ρ p.2))=some cs)(hρ:∀p∈parts.toList,RV G w (ρ p.2) (ρv p.2)):
  ∃u,(Instr.build T (parts.map fun (i,x)=>(i,ρv x))).run P w=.ok u w/\RV G w (.agg cs) u:=by
 unfold yT at mg;split at mg
 .rename_i pl' hs;cases mg;exact aBO hs hz h hρ
 .split at mg
  .rename_i n e ha;split at mg
   .rename_i s hsz;cases mg;have hu:P.underlying T=some (.array n e):=by
     unfold qC at ha;split at ha
     .cases ha;assumption
     .cases ha
    unfold aH at hz;split at hz
    .rename_i z Ao;split at hz
     .rename_i jq;simp only[ad] at hz;subst hz;obtain⟨i,hi,Ap⟩:=dv.1 Ao;have wg:(zeroValue T).run P w=.ok z w:=by simp[zeroValue,typeInfo,hi,Ap]
      obtain⟨ov,h1,h2,h3⟩:=qB (G:=G) (w:=w) ((List.range n).map fun i=>(i*s,s)) (fun i=>some (i*s,s)) (by
        intro i x h;rw[f9] at h;cases hr:(List.range n)[i]? with
        | none=>rw[hr] at h;cases h
        | some k =>
         rw[hr] at h;obtain⟨hl,hk⟩:=ba.1 hr;rw[gq] at hk;subst hk;exact h)
       (parts.toList.map fun p=>(p.1,ρ p.2)) ((parts.map fun (i,x)=>(i,ρv x)).toList) (z.cells.toList.map cF) z.cells cs (by simp)
       (by
        intro j g1 g2;simp at g1 g2;simp only[bl,fy];exact⟨trivial,hρ _ (aa _)⟩)
       ⟨by simp,fun j g1 g2=>by simp only[bl];exact RV.of_ofVal1 _⟩ (fun u hu=>aq.1 jq u hu) h
      refine⟨.agg ov,?_,?_⟩
      .simp only[Instr.build,ax,wg,aj,bp hu,bT hsz,h1,a8]
      .have:=RV.agg (G:=G) (w:=w) h2.1 h2.2 h3
       simpa using this
     .cases hz
    .cases hz
   .cases mg
  .cases mg
theorem tT{G:Gh}{w:World}:∀{xs:List AV} {vs:List Value} {rows:List (List D)},RVs G w xs vs->nU xs=some rows ->
  rows.length=vs.length/\∀i (h1:i<rows.length) (h2:i<vs.length),(∀u∈vs[i].cells.toList,u.oneCell'=true)/\rows[i].length=vs[i].cells.toList.length /\
   ∀j (g1:j<rows[i].length) (g2:j<vs[i].cells.toList.length),RVd w.cell? G.ps rows[i][j] vs[i].cells.toList[j]
 | [],vs,rows,r,h=>by
  simp[nU] at h;subst h;exact⟨r.1,fun i h1=>by simp at h1⟩
 | x::xs,vs,rows,r,h=>by
  obtain⟨v,us,rfl,h1,h2⟩:=r.uncons;simp only[nU] at h;split at h
  .rename_i cs rs m9 qj;split at h
   .rename_i ds xm;simp only[ad] at h;subst h;obtain⟨k1,k2⟩:=tT h2 qj;obtain⟨c1,c2⟩:=h1.cells m9;obtain⟨d1,d2⟩:=oI c1 xm;refine⟨by simp[k1],fun i g1 g2=>?_⟩;cases i with
    | zero=>exact⟨c2,d1,d2⟩
    | succ i=>exact k2 i (by simpa using g1) (by simpa using g2)
   .cases h
  .cases h
theorem aCo{sz:Nat}:∀(vs:List Value) (k:Nat) (cells:Array Value),(∀v∈vs,v.cells.size=sz)->cells.size=(k+vs.length)*sz ->
  ∃ov:Array Value,Instr.fill (fun i=>some (i*sz,sz)) cells ((List.range' k vs.length).zip vs)=some ov/\ov.toList=cells.toList.take (k*sz)++(vs.map fun v=>v.cells.toList).flatten
 | [],k,cells,hv,hs=>by
  refine⟨cells,rfl,?_⟩;simp only[db,fl] at hs;rw[<-hs];have:cells.toList.length=cells.size:=by simp
  rw[<-this,bh];simp
 | v::vs,k,cells,hv,hs=>by
  have wh:=hv v (by simp);have e:=wW v (k*sz) cells;have pw:(v.cells.zipIdx.foldl (fun cs (x:Value × Nat)=>cs.setIfInBounds (k*sz+x.2) x.1) cells).size=cells.size:=by
   have:=d8 List.length e
   rw[eX] at this;simpa using this
  have iv:k*sz+v.cells.toList.length<=cells.toList.length:=by
   have h1:v.cells.toList.length=sz:=by simp[wh]
   have h2:cells.toList.length=cells.size:=by simp
   rw[h1,h2,hs,ci,cf,cf];omega
  obtain⟨ov,h1,h2⟩:=aCo vs (k+1) (v.cells.zipIdx.foldl (fun cs (x:Value × Nat)=>cs.setIfInBounds (k*sz+x.2) x.1) cells) (fun u hu=>hv u (by simp[hu])) (by rw[pw,hs];simp only[ci];congr 1;omega);refine⟨ov,?_,?_⟩
  .simp only[ci,List.range'_succ,List.zip_cons_cons,Instr.fill];rw[ac]
   .exact h1
   .simp[wh];rw[hs,ci,cf,cf];omega
  .rw[h2,e,hJ _ _ _ iv];have h3:v.cells.toList.length=sz:=by simp[wh]
   have h4:(k+1)*sz=k*sz+sz:=by rw[cf];omega
   have h5:(List.take (k*sz) cells.toList).length=k*sz:=by rw[cj];omega
   rw[h4,cw,List.take_append,h5,ep,ak (by rw[h5];omega),c8 (by omega),ak (l:=v.cells.toList) (by omega)];simp
theorem tF{T E sz by' len:Nat}{parts:Array (Nat × Operand)}{ρ:Operand->AV}{ρv:Operand->Value}{G:Gh}{m:bH}{w:World}{rows:List (List D)}(hrow:aW P T=some (E,sz,by'))(hr:nU (parts.toList.map fun p=>ρ p.2)=some rows)(hp:parts.toList.map (·.1)=List.range len)(hs:∀r∈rows,r.length=sz)(h24:len*sz<=16777216)(hρ:∀p∈parts.toList,RV G w (ρ p.2) (ρv p.2))(hm:aV G m w):
  ∃u o,(Instr.buildSlice T len (parts.map fun (i,x)=>(i,ρv x))).run P w=.ok u (w.alloc o)/\RV G (w.alloc o) (.osl sz rows .full) u:=by
 obtain⟨hE,i,z,hi,hz,oy,k7,nc,l5,_⟩:=fP hrow;have hsz:(sizeOf E).run P w=.ok sz w:=bT (by simp[aT,hi,k7]) w
 have wg:(zeroValue E).run P w=.ok z w:=by simp[zeroValue,typeInfo,hi,hz]
 let vs:List Value:=parts.toList.map fun p=>ρv p.2
 have hlen:len=vs.length:=by
  have:=d8 List.length hp
  simpa[vs] using this.symm
 have BD:RVs G w (parts.toList.map fun p=>ρ p.2) vs:=⟨by simp[vs],fun j g1 g2=>by
  simp only[bl,vs];exact hρ _ (aa _)⟩
 obtain⟨k1,k2⟩:=tT BD hr;have As:∀v∈vs,v.cells.size=sz:=by
  intro v hv;obtain⟨j,hj,rfl⟩:=bf hv;have:=(k2 j (by omega) hj).2.1
  rw[hs _ (aa _)] at this;simpa using this.symm
 have ut:(parts.map fun (i,x)=>(i,ρv x)).toList=(List.range' 0 vs.length).zip vs:=by
  rw[<-hlen];have e1:(List.range' 0 len)=parts.toList.map (·.1):=by rw[hp,List.range_eq_range']
  rw[e1,fy];show _=(parts.toList.map (·.1)).zip (parts.toList.map fun p=>ρv p.2)
  rw[List.zip_map']
 let zc:Array Value:=if len*sz=0 then #[] else z.cells
 obtain⟨ov,h1,h2⟩:=aCo (sz:=sz) vs 0 ((Array.range (len*sz)).map (zc[· % zc.size]!)) As (by simp[hlen]);simp only[Nat.zero_mul,List.take_zero,eq] at h2;have Au:¬(len*sz>2 ^ 24):=by omega
 refine⟨.slice (some ⟨w.heap.size,0,none⟩) len len,.cells ov E,?_,?_⟩
 .by_cases h0:len*sz=0
  .have BR:zc = #[]:=by simp only[zc,h0,↓reduceIte]
   rw[BR] at h1;have D7:¬((0:Nat)>2 ^ 24):=by omega
   simp only[Instr.buildSlice,ax,bp hE,aj,hsz,Au,D7,↓reduceIte,h0,a8] at h1 ⊢;simp only[ut,h1,ax,newRow,a8,aj];rfl
  .have BR:zc=z.cells:=by simp only[zc,h0,↓reduceIte]
   rw[BR] at h1;simp only[Instr.buildSlice,ax,bp hE,aj,hsz,Au,↓reduceIte,h0,wg,a8] at h1 ⊢;simp only[ut,h1,ax,newRow,a8,aj];rfl
 .have D8:=Le.alloc (w:=w) hm.fresh (.cells ov E);have xn:∀v∈vs.map (fun v=>v.cells.toList),v.length=sz:=by
   intro l hl;simp only[bc] at hl;obtain⟨v,hv,rfl⟩:=hl;simpa using As v hv
  have kv:iH (w.alloc (.cells ov E)).cell? G.ps sz rows (some ⟨w.heap.size,0,none⟩) ov.toList:=by
   constructor
   .rw[h2,dJ xn,br,<-k1]
   .intro a ha q u hq;cases ha;rw[bK];refine⟨?_,?_⟩
    .unfold Gh.ps;rw[hm.fresh w.heap.size (nr0 _)];trivial
    .rw[e8 _ w.heap.size _ ov E (0,0) (fk w _),cd];simpa using hq
   .intro u hu;rw[h2] at hu;simp only[gl,bc] at hu;obtain⟨l,⟨v,hv,rfl⟩,D9⟩:=hu;obtain⟨j,hj,rfl⟩:=bf hv;exact(k2 j (by omega) hj).1 u D9
   .exact fun _=>⟨_,rfl⟩
   .exact hs
   .intro a b ha hb;have CP:a<vs.length:=by omega
    have Av:b<sz:=by rw[<-hs _ (aa ha)];exact hb
    obtain⟨_,g2,g3⟩:=k2 a ha CP;have o7:(vs.map fun v=>v.cells.toList)[a]?=some vs[a].cells.toList:=by simp[CP]
    refine⟨vs[a].cells.toList[b]'(by omega),?_,(g3 b hb (by omega)).mono D8.cells⟩;rw[h2,gU xn o7 Av];exact ab _
  have n9:rows.length=len:=by omega
  have:=RVd.of_flat (cap:=len) (by omega) (by unfold maxLen;have:=Nat.le_mul_of_pos_right len l5;omega) kv
  rw[n9] at this;exact .osl this (by rw[n9];exact⟨_,rfl,fun e=>absurd e (by omega)⟩)
variable {P:Program}
theorem dO.pure{o:Oper}{ρv:Operand->Value}{G:Gh}{w:World}{R:Value->Gh->World->Prop}{u:Value}(h:(execOp ρv o).run P w=.ok (.value u) w)(hr:R u G w):dO P o ρv G w R :=
 ⟨.value u,u,G,w,h,.inl rfl,Le.refl G w,hr⟩
theorem aB3{T f off n:Nat}{pl:List (Nat × Nat)}(h:aO P T=some pl)(hf:pl[f]?=some (off,n)):∃fs x,P.underlying T=some (.struct fs)/\fs[f]?=some x/\x.offset=off/\aT P x.type=some n:=by
 unfold aO at h;split at h
 .rename_i fs qi;split at h
  .rename_i ik;simp only[ad] at h;subst h;simp only[f9] at hf;obtain⟨x,hx,yn⟩:=cy.1 hf;have qs:fs[f]?=some x:=by simpa using hx
   have jg:x∈fs.toList:=fg hx
   obtain⟨i,hi⟩:=cq.1 (aq.1 ik x jg);simp only[aw,hi,dc,dx] at yn;exact⟨fs,x,qi,qs,yn.1,by simp[aT,hi,yn.2]⟩
  .cases h
 .cases h
theorem uB{T f off n:Nat}{pl:List (Nat × Nat)}(h:aO P T=some pl)(hf:pl[f]?=some (off,n))(hn:n≠0)(a:Addr)(w:World):(Instr.fieldAt T (.pointer (some a)) f).run P w=.ok (.pointer (some (a.add off))) w:=by
 obtain⟨fs,x,h1,h2,h3,h4⟩:=aB3 h hf;simp only[Instr.fieldAt,ax,bp h1,aj,h2,Instr.sureAddr,a8,fieldPlace,bT h4,hn,↓reduceIte,h3]
theorem aHj{G:Gh}{w:World}{cs:List AV}{vs:List Value}(h:RVs G w cs vs){ag:Bool}{n off:Nat}{v:AV}(hl:rB ag n cs off=some v)(h1:∀u∈vs,u.oneCell'=true):
  ∃u,(if ag then (some (.agg (vs.toArray.extract off (off+n))):Option Value) else vs[off]?)=some u/\RV G w v u:=by
 unfold rB at hl;cases ag with
 | false =>
  simp only[bu,↓reduceIte] at hl ⊢;obtain⟨u,hu,hr⟩:=h.get hl;exact⟨u,hu,hr⟩
 | true =>
  simp only[↓reduceIte] at hl ⊢;split at hl
  .simp only[ad] at hl;subst hl;refine⟨_,rfl,?_⟩;have hs:=(h.drop off).take n;have e:vs.toArray.extract off (off+n)=((vs.drop off).take n).toArray:=by
    simp only[List.extract_toArray,List.extract_eq_take_drop,ep]
   rw[e];exact .agg hs.1 hs.2 (fun u hu=>h1 u (cu (bt hu)))
  .cases hl
theorem aJw{T off n:Nat}{ag:Bool}{cs:Array Value}{u:Value}(rm:aX P T=some ag)(hn:aT P T=some n)(h:(if ag then (some (.agg (cs.extract off (off+n))):Option Value) else cs[off]?)=some u)(w:World):
  (part T cs off).run P w=.ok u w:=by
 cases ag with
 | false =>
  simp only[bu,↓reduceIte] at h;simp only[part,ax,iM rm,aj,bu,↓reduceIte,h,a8]
 | true =>
  simp only[↓reduceIte,ad] at h;simp only[part,ax,iM rm,aj,↓reduceIte,bT hn,a8,h]
def uU(k:Nat)(T:TypeId)(zs:List Value):List AV:=match zs with
 | [.pointer none,.slice none 0 0]=>[.here k T,cF (.slice none 0 0)]
 | zs=>zs.map cF
theorem aKM{G:Gh}{w:World}{k b sz:Nat}{T:TypeId}{cs:Array Value}{f:Nat × Nat}(zs:List Value)(h:G.bx k=some (b,sz))(ht:w.heap[b]?=some (.cells cs T f)):RVs G w (uU k T zs) zs:=by
 unfold uU;split
 .exact RVs.cons (.here h ht) (RVs.cons (RV.of_ofVal1 _) RVs.nil)
 .exact⟨by simp,fun j g1 g2=>by simp only[bl];exact RV.of_ofVal1 _⟩
def pG(P:Program)(base:Nat)(o:Oper)(G:Gh)(box:Bxs):Prop:=match o.op,o.dst with
 | .alloc T,some s=>∃zs,aH P T=some zs/\box (base+s)=some [uU (base+s) T zs]/\G.bx (base+s)=none
 | _,_=>True
theorem cM{α:Type}(f:Nat->α)(k:Nat)(v:α)(h:f k=v):upd f k v=f:=by
 funext j
 unfold upd;split
 .rename_i e;rw[e,h]
 .rfl
theorem aEV{ρ:Operand->AV}{ρv:Operand->Value}{G:Gh}{w:World}:∀{xs:List Operand} {vs:List Value},gP (xs.map ρ)=some vs->(∀x∈xs,RV G w (ρ x) (ρv x))->xs.map ρv=vs:=by
 intro xs vs h hρ;exact nN (G:=G) (w:=w) h ⟨by simp,fun i h1 h2=>by simp only[bl];exact hρ _ (aa _)⟩
set_option maxHeartbeats 1000000 in
theorem aEK{base:Nat}{o:Oper}{ρ:Operand->AV}{ρv:Operand->Value}{G:Gh}{m:bH}{w:World}{v:AV}(h:aBf P base o ρ v)(hρ:∀x∈o.op.operands,RV G w (ρ x) (ρv x))(hm:aV G m w)(hd:∀s,o.dst=some s->base+s<m.nb)(hp:pG P base o G m.box):
  dO P o ρv G w fun u G' w'=>RV G' w' v u/\aV G' m w'/\∀k,some k≠o.dst.map (base + ·)->G.bx k=none->G'.bx k=none:=by
 have keep:∀u,(execOp ρv o).run P w=.ok (.value u) w->RV G w v u->dO P o ρv G w fun u G' w'=>RV G' w' v u/\aV G' m w'/\∀k,some k≠o.dst.map (base + ·)->G.bx k=none->G'.bx k=none :=
  fun u h1 h2=>.pure h1 ⟨h2,hm,fun _ _ h=>h⟩
 unfold aBf at h;split at h
 .rename_i x ho;subst h;exact keep (ρv x) (by simp only[execOp,ho,a8]) (hρ x (by rw[ho];simp[Op.operands]))
 .rename_i x ho;subst h;exact keep (ρv x) (by simp only[execOp,ho,a8]) (hρ x (by rw[ho];simp[Op.operands]))
 .rename_i c a b ho;split at h
  .rename_i t hc;have h1:=hρ c (by rw[ho];simp[Op.operands]);rw[hc] at h1;have h2:ρv c=.bool t:=dC rfl h1
   subst h;cases t with
   | true=>exact keep (ρv a) (by simp[execOp,ho,h2,asBool]) (hρ a (by rw[ho];simp[Op.operands]))
   | false=>exact keep (ρv b) (by simp[execOp,ho,h2,asBool]) (hρ b (by rw[ho];simp[Op.operands]))
  .exact h.elim
 .rename_i T ho;split at h
  .rename_i s hs;subst h;unfold pG at hp;rw[ho,hs] at hp;obtain⟨zs,hz,Hb,n5⟩:=hp;unfold aH at hz;split at hz
   .rename_i z Ao;split at hz
    .rename_i jq;simp only[ad] at hz;subst hz;obtain⟨i,hi,Ap⟩:=dv.1 Ao;have wg:(zeroValue T).run P w=.ok z w:=by simp[zeroValue,typeInfo,hi,Ap]
     have hrel:=hm.mkbox' (k:=base+s) n5 (hd s hs) (sz:=(uU (base+s) T z.cells.toList).length) (rows:=[uU (base+s) T z.cells.toList]) (by simp) (cs:=z.cells) T
      (by simp only[cr,List.flatten_nil,c6];exact aKM _ (by simp only[Gh.mkbox];exact uS _ _ _) (fk w _)) (fun u hu=>aq.1 jq u hu)
     have ix:({ m with box:=upd m.box (base+s) (some [uU (base+s) T z.cells.toList]) }:bH)=m:=by
      cases m;simp only[bH.mk.injEq,and_true];exact cM _ _ _ Hb
     rw[ix] at hrel;refine⟨.value (.pointer (some ⟨w.heap.size,0,none⟩)),_,_,w.alloc (.cells z.cells T),?_,.inl rfl,Le.mkbox hm.fresh hm.tlt n5 _ _,?_,hrel,?_⟩
     .simp only[execOp,ho,Instr.alloc,newVar,newRow,ax,wg,a8,aj];rfl
     .have:(⟨w.heap.size,0,none⟩:Addr)=⟨w.heap.size,0*(uU (base+s) T z.cells.toList).length+0,none⟩:=by simp
      rw[this];exact .ptr (by simp[Gh.mkbox,uS])
     .intro k hk hg;have hne:k≠base+s:=fun e=>hk (by rw[hs,e];rfl)
      simp only[Gh.mkbox];rw[uO _ _ hne];exact hg
    .cases hz
   .cases hz
  .exact h.elim
 .rename_i T parts ho;split at h
  .rename_i pl zs mg hz;split at h
   .rename_i cs m9;subst h;obtain⟨u,h1,h2⟩:=aDZ (ρv:=ρv) mg hz m9 (fun p hp=>hρ p.2 (by rw[ho];simp only[Op.operands];rw[<-Array.mem_toList_iff];simpa using ⟨p.1,by simpa using hp⟩));exact keep u (by simp only[execOp,ho,ax,h1,aj,a8]) h2
   .exact h.elim
  .exact h.elim
 .rename_i T len parts ho;split at h
  .rename_i E sz by' rows hrow hr
   obtain⟨h1,h2,h3,rfl⟩:=h;obtain⟨u,ob,h4,h5⟩:=tF (ρv:=ρv) hrow hr h1 h2 h3 (fun p hp=>hρ p.2 (by rw[ho];simp only[Op.operands];rw[<-Array.mem_toList_iff];simpa using ⟨p.1,by simpa using hp⟩)) hm;exact⟨.value u,u,G,w.alloc ob,by simp only[execOp,ho,ax,h4,aj,a8],.inl rfl,Le.alloc hm.fresh ob,h5,hm.alloc ob,fun _ _ h=>h⟩
  .exact h.elim
 .rename_i x ho;have h1:=hρ x (by rw[ho];simp[Op.operands]);split at h
  .rename_i k i off hx;subst h;rw[hx] at h1;generalize hv:ρv x=xv at h1;have tw:=h1
   cases tw with
   | ptr hb=>exact keep _ (by simp only[execOp,ho,hv,a8]) h1
  .rename_i cs off hx;subst h;rw[hx] at h1;generalize hv:ρv x=xv at h1;have tw:=h1
   cases tw with
   | cptr a u hc hr=>exact keep _ (by simp only[execOp,ho,hv,a8]) h1
  .rename_i f caps hx;subst h;rw[hx] at h1;generalize hv:ρv x=xv at h1;have tw:=h1
   cases tw with
   | fn hl hh=>exact keep _ (by simp only[execOp,ho,hv,a8]) h1
  .exact h.elim
 .rename_i op T x y T2 ho;split at h
  .rename_i a b ha hb;obtain⟨r,hr,rfl⟩:=h;have h1:=dC ha (hρ x (by rw[ho];simp[Op.operands]));have h2:=dC hb (hρ y (by rw[ho];simp[Op.operands]));refine keep r ?_ (.raw hr.1);have:=hr.2 x y w
   simp only[execOp,ho,h1,h2,ax,a8] at this ⊢;rw[this];rfl
  .exact h.elim
 .rename_i op T x ho;split at h
  .rename_i a ha;obtain⟨r,hr,rfl⟩:=h;have h1:=dC ha (hρ x (by rw[ho];simp[Op.operands]));exact keep r (by simp only[execOp,ho,h1,ax,hr.2 w,aj,a8]) (.raw hr.1)
  .exact h.elim
 .rename_i s t x ho;split at h
  .rename_i a ha;obtain⟨r,hr,rfl⟩:=h;have h1:=dC ha (hρ x (by rw[ho];simp[Op.operands]));exact keep r (by simp only[execOp,ho,h1,ax,hr.2 w,aj,a8]) (.raw hr.1)
  .exact h.elim
 .rename_i fn first caps ho;obtain⟨h0,rfl⟩:=h;have hf:first = #[]:=by rw[<-Array.toArray_toList (xs:=first),h0]
  subst hf;refine keep (.func fn #[] (caps.map ρv)) (by simp[execOp,ho,Instr.makeFunc]) ?_;have:=RV.fn (G:=G) (w:=w) (f:=fn) (caps:=caps.toList.map ρ) (vs:=caps.toList.map ρv) (by simp) (fun i h1 h2=>by
   simp only[bl];exact hρ _ (by rw[ho];simp only[Op.operands];rw[<-Array.mem_toList_iff];simp))
  have e:caps.map ρv=(caps.toList.map ρv).toArray:=by rw[<-Array.toList_map,Array.toArray_toList]
  rw[e];exact this
 .rename_i T x f ho;have h1:=hρ x (by rw[ho];simp[Op.operands]);split at h
  .rename_i pl mg;split at h
   .rename_i off n cs o' hf hx;obtain⟨hn,rfl⟩:=h;rw[hx] at h1;generalize hv:ρv x=xv at h1;cases h1 with
    | cptr a u hc hr =>
     refine keep _ (by simp only[execOp,ho,hv,ax,uB mg hf hn,aj,a8];rfl) ?_;rw[add_add];exact .cptr a u hc hr
   .rename_i off n k i o' hf hx;obtain⟨hn,rfl⟩:=h;rw[hx] at h1;generalize hv:ρv x=xv at h1;cases h1 with
    | ptr hb =>
     refine keep _ (by simp only[execOp,ho,hv,ax,uB mg hf hn,aj,a8];rfl) ?_;rw[bK,gw];exact .ptr hb
   .exact h.elim
  .exact h.elim
 .rename_i T x f ho;have h1:=hρ x (by rw[ho];simp[Op.operands]);split at h
  .rename_i ft off cs hf hx;split at h
   .rename_i ag n rm hn;rw[hx] at h1;generalize hv:ρv x=xv at h1;cases h1 with
    | agg hl hh jq =>
     rename_i vs;obtain⟨u,h2,h3⟩:=aHj ⟨hl,hh⟩ h jq;unfold aB at hf;split at hf
     .rename_i fs qi;obtain⟨fd,DA,CQ⟩:=cy.1 hf;simp only[aw] at CQ;obtain⟨rfl,rfl⟩:=CQ;refine keep u ?_ h3;have Aq:(part fd.type vs.toArray fd.offset).run P w=.ok u w:=aJw rm hn (by simpa using h2) w
      simp only[execOp,ho,hv,Instr.field,ax,bp qi,aj,DA,asAgg,a8,Aq]
     .cases hf
   .exact h.elim
  .exact h.elim
 .rename_i T x i ho;split at h
  .rename_i k n hi;have h1:=hρ x (by rw[ho];simp[Op.operands]);have h2:=hρ i (by rw[ho];simp[Op.operands]);rw[hi] at h2;have h3:ρv i=.int k n:=dC rfl h2
   obtain⟨u,h4,h5⟩:=aCB (k:=k) h h1;exact keep u (by simp only[execOp,ho,h3,ax,h4,aj,a8]) h5
  .exact h.elim
 .rename_i T x i ho;split at h
  .rename_i s k n hx hi;obtain⟨hT,h0,b,hb,rfl⟩:=h;have h1:=hρ x (by rw[ho];simp[Op.operands]);have h2:=hρ i (by rw[ho];simp[Op.operands]);rw[hx] at h1;rw[hi] at h2;have h3:ρv x=.string s:=dC rfl h1
   have h4:ρv i=.int k n:=dC rfl h2
   refine keep (.int .u8 b.toNat) ?_ (.raw rfl);simp only[execOp,ho,h3,h4,Instr.index,ax,jY,aj,bp (tQ hT),h0,↓reduceIte,hb,a8]
  .exact h.elim
 .rename_i t i ho;split at h
  .rename_i vs ht;have h1:=hρ t (by rw[ho];simp[Op.operands]);rw[ht] at h1;generalize hv:ρv t=tv at h1;cases h1 with
   | tup hl hh =>
    rename_i us;obtain⟨u,hu,hr⟩:=RVs.get ⟨hl,hh⟩ h;refine keep u ?_ hr;have wj:us.toArray[i]?=some u:=by simpa using hu
    simp only[execOp,ho,hv,Instr.extract,wj,ax,a8,aj]
  .exact h.elim
 .rename_i T x lo hi mx ho;have h1:=hρ x (by rw[ho];simp[Op.operands]);obtain⟨u,h2,h3⟩:=zI (ρv:=ρv) h h1 (fun y hy=>hρ y (by rw[ho];simp[Op.operands,hy])) (fun y hy=>hρ y (by rw[ho];simp[Op.operands,hy])) (fun y hy=>hρ y (by rw[ho];simp[Op.operands,hy]));exact keep u (by simp only[execOp,ho,ax,h2,aj,a8]) h3
 .rename_i c ho;split at h
  .rename_i xa T i5 hargs lr;obtain⟨x,yu,rfl⟩:=List.map_eq_singleton_iff.1 hargs;have ha:c.args = #[x]:=by rw[<-Array.toArray_toList (xs:=c.args),yu]
   have hb:c.argTypes = #[T]:=by rw[<-Array.toArray_toList (xs:=c.argTypes),lr]
   have h1:=hρ x (by rw[ho];simp[Op.operands,Call.operands,i5,ha]);obtain⟨u,h2,h3⟩:=aDI (ty:=o.type) h h1;refine keep u ?_ h3;simp only[execOp,ho,resolve,i5,ha,hb,List.map_toArray,di,d6,ax,a8,aj,invoke,builtin,h2]
  .exact h.elim
  .rename_i args tys b xo i5 xq;split at h
   .rename_i vs wh;obtain⟨r,hr,rfl⟩:=h;have BS:(c.args.map ρv)=vs.toArray:=by
     have:=aEV (ρv:=ρv) (G:=G) (w:=w) wh (fun x hx=>hρ x (by rw[ho];simp only[Op.operands,Call.operands,i5];rw[<-Array.mem_toList_iff];simpa using hx))
     rw[<-this,<-Array.toList_map,Array.toArray_toList]
    refine keep r ?_ (.raw hr.1);simp only[execOp,ho,resolve,i5,ax,a8,aj,invoke,BS,hr.2]
   .exact h.elim
  .exact h.elim
 .exact h.elim
variable {P:Program} {wr:Bool}
structure AS where
 tmps:Nat->AV
 box:Bxs
 tok:Nat->Bool
 nt:Nat
def AS.ev(S:AS):Operand->AV
 | .tmp t=>S.tmps t
 | .const v=>aGc v
 | .global g=>aJQ g
 | .func f=>.fn (.func f) []
def bX(f:Nat->AV)(dst:Option Tmp)(v:AV):Nat->AV:=match dst with
 | some d=>upd f d v
 | none=>f
structure cS (n nb:Nat) (G:Gh) (S:AS) (a:Act) (w:World):Prop where
 defers:a.defers=[]
 size:a.tmps.size=n
 tmps:∀t,RV G w (S.tmps t) (a.tmps.getD t undef)
 mem:aV G ⟨S.box,nb,S.tok,S.nt⟩ w
theorem cS.ev{n nb:Nat}{G:Gh}{S:AS}{a:Act}{w:World}(h:cS n nb G S a w)(x:Operand):RV G w (S.ev x) (a.eval x):=by
 cases x with
 | tmp t=>exact h.tmps t
 | const v=>exact RV.of_ofVal v
 | global g=>exact h.mem.glob.rv g
 | func f=>exact .fn (vs:=[]) rfl (fun i h=>by simp at h)
def iC(P:Program)(f:FuncId):Prop:=∀args w,(callFunc f args).run P w=.ok (.enter f args) w
theorem iC.mk{f:FuncId}{fn:Func}(h:P.funcs[f]?=some fn)(hb:fn.body.isSome=true)(hn:(fn.name == "runtime.NumGoroutine")=false):iC P f:=by
 intro args w;obtain⟨c,hc⟩:=cq.1 hb;have uu:¬fn.name = "runtime.NumGoroutine" := by simpa using hn
 simp[callFunc,program,Sem.run,h,uu,hc]
def aD(P:Program)(f:FuncId)(args:List AV)(m:bH)(Q:AV->bH->Prop):Prop :=
 iC P f/\∀G w vals,aV G m w->RVs G w args vals->Calls P f vals.toArray w fun e w'=>∃v av m' G',e=.returned v/\Q av m'/\m'.nb=m.nb /\
  aV G' m' w'/\RV G' w' av v/\Le G w G' w'/\∀k,G.bx k=none->G'.bx k=none/\m'.box k=m.box k
theorem aD.mono{f:FuncId}{args:List AV}{m:bH}{Q Q':AV->bH->Prop}(h:aD P f args m Q)(hq:∀v m',Q v m'->Q' v m'):aD P f args m Q' :=
 ⟨h.1,fun G w vals hm hr=>(h.2 G w vals hm hr).mono fun e w' ⟨v,av,m',G',h1,h2,h3⟩=>⟨v,av,m',G',h1,hq _ _ h2,h3⟩⟩
def cZ(P:Program)(f:FuncId)(args:List AV)(tok:Tks)(nt:Nat)(v:AV)(tok':Nat->Bool)(nt':Nat):Prop :=
 ∀box nb,aD P f args ⟨box,nb,tok,nt⟩ fun v' m'=>v'=v/\m'=⟨box,nb,tok',nt'⟩
def Ext(box box':Bxs):Prop:=∀k r,box k=some r->box' k=some r
theorem Ext.refl(box:Bxs):Ext box box:=fun _ _ h=>h
theorem Ext.trans{a b c:Bxs}(h:Ext a b)(k:Ext b c):Ext a c:=fun i r hi=>k i r (h i r hi)
def cW(P:Program)(f:FuncId)(args:List AV)(box:Bxs)(tok:Tks)(nt:Nat)(v:AV)(tok':Nat->Bool)(nt':Nat):Prop :=
 ∀box' nb,Ext box box'->aD P f args ⟨box',nb,tok,nt⟩ fun v' m'=>v'=v/\m'=⟨box',nb,tok',nt'⟩
theorem cZ.r{f:FuncId}{args:List AV}{tok:Nat->Bool}{nt:Nat}{v:AV}{tok':Nat->Bool}{nt':Nat}(h:cZ P f args tok nt v tok' nt')(box:Bxs):cW P f args box tok nt v tok' nt' :=
 fun box' nb _=>h box' nb
theorem cW.ext{f:FuncId}{args:List AV}{box box1:Bxs}{tok:Nat->Bool}{nt:Nat}{v:AV}{tok':Nat->Bool}{nt':Nat}(h:cW P f args box tok nt v tok' nt')(he:Ext box box1):cW P f args box1 tok nt v tok' nt' :=
 fun box' nb h'=>h box' nb (he.trans h')
def sV(P:Program)(o:Oper)(ρ:Operand->AV)(box:Bxs)(tok:Tks)(nt:Nat)(v:AV)(tok':Nat->Bool)(nt':Nat):Prop:=match o.op with
 | .call c=>match c.callee with
  | .value f=>match ρ f with
   | .fn (.func fid) caps=>cW P fid (c.args.toList.map ρ++caps) box tok nt v tok' nt'
   | _=>False
  | _=>False
 | _=>False
def aMI(P:Program)(f:FuncId)(args:List AV)(k:Nat)(box:Bxs)(tok:Tks)(nt:Nat)(v:AV)(rows:List (List AV))(tok':Nat->Bool)(nt':Nat):Prop :=
 ∀box' nb,box' k=box k->aD P f args ⟨box',nb,tok,nt⟩ fun v' m'=>v'=v/\m'=⟨upd box' k (some rows),nb,tok',nt'⟩
def aCe:Op->Option Operand
 | .call { callee:=.value _,args,.. }=>args.toList.head?
 | _=>none
def aC3(P:Program)(o:Oper)(ρ:Operand->AV)(box:Bxs)(tok:Tks)(nt:Nat)(v:AV)(box':Bxs)(tok':Nat->Bool)(nt':Nat):Prop:=match o.op with
 | .call c=>match c.callee with
  | .value f=>match ρ f with
   | .fn (.func fid) caps=>∃x k i off rows,aCe o.op=some x/\ρ x=.ptr k i off/\box k≠none/\box'=upd box k (some rows)/\aMI P fid (c.args.toList.map ρ++caps) k box tok nt v rows tok' nt'
   | _=>False
  | _=>False
 | _=>False
inductive Cls where
 | n|r|w|t
 deriving DecidableEq
def cls:Op->Cls
 | .load .. => .r
 | .store .. => .w
 | .box .. => .w
 | .makeSlice .. => .w
 | .call { callee:=.builtin .append,.. }=>.t
 | .call { callee:=.builtin .copy,.. }=>.w
 | .call { callee:=.builtin .clear,.. }=>.w
 | .call { callee:=.value _,.. }=>.t
 | .makeMap .. => .t
 | .lookup .. => .t
 | _=>.n
def Eff(P:Program)(wr:Bool)(base:Nat)(o:Oper)(ρ:Operand->AV)(box:Bxs)(tok:Tks)(nt:Nat)(v:AV)(box':Bxs)(tok':Nat->Bool)(nt':Nat):Prop :=
 match cls o.op with
 | .n=>aBf P base o ρ v/\box'=box/\tok'=tok/\nt'=nt
 | .r=>qK P o ρ box v/\box'=box/\tok'=tok/\nt'=nt
 | .w=>nA P base o ρ box v box'/\tok'=tok/\nt'=nt
 | .t=>((aE0 P o ρ tok nt v tok' nt'∨sV P o ρ box tok nt v tok' nt')/\box'=box)∨wr=true/\aC3 P o ρ box tok nt v box' tok' nt'
def zQ(P:Program)(wr:Bool)(base:Nat)(o:Oper)(S S':AS):Prop :=
 ∃v box' tok' nt',Eff P wr base o S.ev S.box S.tok S.nt v box' tok' nt'/\S'=⟨bX S.tmps o.dst v,box',tok',nt'⟩
def dS(ops:Array Oper)(S:AS)(j:Nat):Option (Option Bool):=match (ops[j]?).bind (·.dst) with
 | some d=>match S.tmps d with
  | .d (.raw (.bool b))=>some (some b)
  | .tup []=>some none
  | _=>none
 | none=>none
def cG(P:Program)(wr:Bool)(base:Nat)(ops:Array Oper)(o:Oper)(S S':AS):Prop:=match o.guard with
 | none=>zQ P wr base o S S'
 | some (j,want)=>match dS ops S j with
  | some b=>if b=some want then zQ P wr base o S S' else S'={ S with tmps:=bX S.tmps o.dst (.tup []) }
  | none=>False
theorem RV.undef{G:Gh}{w:World}:RV G w (.tup []) Go.undef:=.tup (vs:=[]) rfl fun i h=>by simp at h
theorem cS.put{n nb:Nat}{G G':Gh}{S:AS}{a:Act}{w w':World}(h:cS n nb G S a w)(iv:Le G w G' w'){dst:Option Tmp}(hd:∀d,dst=some d->d<n){v:AV}{u:Value}(hv:RV G' w' v u){box:Bxs}{tok:Nat->Bool}{nt:Nat}(hm:aV G' ⟨box,nb,tok,nt⟩ w'):cS n nb G' ⟨bX S.tmps dst v,box,tok,nt⟩ (a.put dst u) w':=by
 cases dst with
 | none=>exact⟨h.defers,h.size,fun t=>(h.tmps t).mono iv,hm⟩
 | some d =>
  refine⟨h.defers,by simp[Act.put,h.size],fun t=>?_,hm⟩;have s9:=hd d rfl
  simp only[bX,Act.put];by_cases e:t=d
  .subst e;rw[uS];have:t<a.tmps.size:=by rw[h.size];exact s9
   simpa[Array.getD,this] using hv
  .rw[uO _ _ e];have h1:(a.tmps.setIfInBounds d u).getD t undef=a.tmps.getD t undef:=by
    simp only[Array.getD_eq_getD_getElem?];rw[Array.getElem?_setIfInBounds_ne (by omega)]
   rw[h1];exact(h.tmps t).mono iv
theorem dO.wp{n nb:Nat}{o:Oper}{G:Gh}{S:AS}{a:Act}{w:World}{R:Value->Gh->World->Prop}{K:Act->World->Prop}{Q:Exit->Act->World->Prop}(h:dO P o a.eval G w R)(hk:∀u G' w',Le G w G' w'->R u G' w'->K (a.put o.dst u) w'):o.wp P a w K Q:=by
 obtain⟨nx,u,G',w',h1,h2,h3,h4⟩:=h;unfold Oper.wp;rw[h1];rcases h2 with rfl|⟨rfl,rfl⟩
 .exact hk u G' w' h3 h4
 .exact hk undef G' w' h3 h4
def aIt(base:Nat)(o:Oper)(G G':Gh)(box box':Bxs):Prop:=∀k,some k≠o.dst.map (base + ·)->G.bx k=none->G'.bx k=none/\box' k=box k
theorem pU{n nb base:Nat}{o:Oper}{S S':AS}{G:Gh}{a:Act}{w:World}{Q:Exit->Act->World->Prop}(h:zQ P wr base o S S')(hr:cS n nb G S a w)(hd:∀d,o.dst=some d->d<n)(j8:base+n<=nb)(hp:pG P base o G S.box):
  o.wp P a w (fun a' w'=>∃G',cS n nb G' S' a' w'/\Le G w G' w'/\aIt base o G G' S.box S'.box) Q:=by
 obtain⟨v,box',tok',nt',he,rfl⟩:=h;have hρ:∀x∈o.op.operands,RV G w (S.ev x) (a.eval x):=fun x _=>hr.ev x
 have CR:∀s,o.dst=some s->base+s<nb:=fun s hs=>ct (Nat.add_lt_add_left (hd s hs) base) j8
 unfold Eff at he;split at he
 .obtain⟨he,rfl,rfl,rfl⟩:=he;exact(aEK he hρ hr.mem CR hp).wp (n:=n) (nb:=nb) (S:=S) fun u G' w' iv ⟨h1,h2,h3⟩=>⟨G',hr.put iv hd h1 h2,iv,fun k hk hg=>⟨h3 k hk hg,rfl⟩⟩
 .obtain⟨he,rfl,rfl,rfl⟩:=he;obtain⟨u,g1,g2⟩:=xC he hρ hr.mem;exact(dO.pure (R:=fun u G' w'=>RV G' w' v u/\G'=G/\w'=w) g1 ⟨g2,rfl,rfl⟩).wp (n:=n) (nb:=nb) (S:=S) fun u G' w' iv ⟨k1,k2,k3⟩=>by
   subst k2;subst k3;exact⟨_,hr.put iv hd k1 hr.mem,iv,fun k hk hg=>⟨hg,rfl⟩⟩
 .obtain⟨he,rfl,rfl⟩:=he;exact(aFd he hρ hr.mem CR).wp (n:=n) (nb:=nb) (S:=S) fun u G' w' iv ⟨h1,h2,h3⟩=>⟨G',hr.put iv hd h1 h2,iv,h3⟩
 .rcases he with ⟨he|he,rfl⟩|⟨_,rq⟩
  .exact(aEF he hρ hr.mem).wp (n:=n) (nb:=nb) (S:=S) fun u G' w' iv ⟨h1,h2,h3⟩=>⟨G',hr.put iv hd h1 h2,iv,fun k hk hg=>⟨by rw[h3];exact hg,rfl⟩⟩
  .unfold sV at he;split at he
   .rename_i c ho;split at he
    .rename_i f i5;split at he
     .rename_i fid caps hf;obtain⟨qt,hc⟩:=he S.box nb (Ext.refl _);have rr:=hr.ev f;rw[hf] at rr;generalize hv:a.eval f=fv at rr;cases rr with
      | fn hl hh =>
       rename_i cvs;have hargs:RVs G w (c.args.toList.map S.ev++caps) ((c.args.map a.eval).toList++cvs):=by
        refine RVs.append ⟨by simp,fun i h1 h2=>?_⟩ ⟨hl,hh⟩;simp only[bl,fy];exact hr.ev _
       have o9:=hc G w _ hr.mem hargs;unfold Oper.wp;have ka:(execOp a.eval o).run P w=.ok (.enter fid ((c.args.map a.eval).toList++cvs).toArray) w:=by
        have e:((c.args.map a.eval).toList++cvs).toArray = #[]++c.args.map a.eval++cvs.toArray:=by simp
        simp only[execOp,ho,resolve,i5,hv,Deferred.ofValue,ax,a8,aj,invoke,e];exact qt _ w
       rw[ka];refine Calls.mono o9 fun e w' ⟨u,av,m',G',h1,h2,h3,h4,h5,h6,h7⟩=>?_
       subst h1;obtain⟨rfl,rfl⟩:=h2;exact⟨G',hr.put h6 hd h5 h4,h6,fun k hk hg=>⟨(h7 k hg).1,rfl⟩⟩
     .exact he.elim
    .exact he.elim
   .exact he.elim
  .unfold aC3 at rq;split at rq
   .rename_i c ho;split at rq
    .rename_i f i5;split at rq
     .rename_i fid caps hf;obtain⟨x,kb,i0,off,rows,hcp,hx,oz,n5,DB⟩:=rq;obtain⟨qt,hc⟩:=DB S.box nb rfl;have rr:=hr.ev f;rw[hf] at rr;generalize hv:a.eval f=fv at rr;cases rr with
      | fn hl hh =>
       rename_i cvs;have hargs:RVs G w (c.args.toList.map S.ev++caps) ((c.args.map a.eval).toList++cvs):=by
        refine RVs.append ⟨by simp,fun i h1 h2=>?_⟩ ⟨hl,hh⟩;simp only[bl,fy];exact hr.ev _
       have o9:=hc G w _ hr.mem hargs;unfold Oper.wp;have ka:(execOp a.eval o).run P w=.ok (.enter fid ((c.args.map a.eval).toList++cvs).toArray) w:=by
        have e:((c.args.map a.eval).toList++cvs).toArray = #[]++c.args.map a.eval++cvs.toArray:=by simp
        simp only[execOp,ho,resolve,i5,hv,Deferred.ofValue,ax,a8,aj,invoke,e];exact qt _ w
       rw[ka];refine Calls.mono o9 fun e w' ⟨u,av,m',G',h1,h2,h3,h4,h5,h6,h7⟩=>?_
       subst h1;obtain⟨rfl,rfl⟩:=h2;subst n5;exact⟨G',hr.put h6 hd h5 h4,h6,fun k hk hg=>h7 k hg⟩
     .exact rq.elim
    .exact rq.elim
   .exact rq.elim
theorem uE{n nb:Nat}{ops:Array Oper}{G:Gh}{S:AS}{a:Act}{w:World}{j:Nat}{b:Option Bool}(hr:cS n nb G S a w)(h:dS ops S j=some b)(hd:∀o d,ops[j]?=some o->o.dst=some d->d<n):
  yielded ops a.tmps j=b:=by
 unfold dS at h;split at h
 .rename_i d kz;split at h
  .rename_i b' hv;simp only[ad] at h;subst h;have h1:=hr.tmps d;rw[hv] at h1;have h2:a.tmps.getD d undef=.bool b':=dC rfl h1
   obtain⟨o,ho,qb⟩:=dv.1 kz;have hlt:d<a.tmps.size:=by rw[hr.size];exact hd o d ho qb
   have h3:a.tmps[d]?=some (.bool b'):=by
    rw[<-h2];simp[Array.getD,hlt]
   simp[yielded,kz,h3]
  .rename_i hv;simp only[ad] at h;subst h;have h1:=hr.tmps d;rw[hv] at h1;have h2:a.tmps.getD d undef=.tuple #[]:=by
    generalize a.tmps.getD d undef=x at h1;cases h1 with
    | tup hl hh =>
     rename_i vs;have:vs=[]:=bg (by simpa using hl.symm)
     subst this;rfl
   have h3:∀x,a.tmps[d]?=some x->x=.tuple #[]:=by
    intro x hx;rw[<-h2];simp[Array.getD_eq_getD_getElem?,hx]
   simp only[yielded,kz,fh];cases hx:a.tmps[d]? with
   | none=>rfl
   | some x=>rw[h3 x hx]
  .cases h
 .cases h
theorem aCU{n nb base:Nat}{ops:Array Oper}{i:Nat}{o:Oper}{S S':AS}{G:Gh}{a:Act}{w:World}{Q:Exit->Act->World->Prop}{K:Act->World->Prop}(hi:ops[i]?=some o)(h:cG P wr base ops o S S')(hr:cS n nb G S a w)(hd:∀(o:Oper) d,o∈ops->o.dst=some d->d<n)(j8:base+n<=nb)(hp:pG P base o G S.box)(hk:∀a' w' G',cS n nb G' S' a' w'->Le G w G' w'->aIt base o G G' S.box S'.box->K a' w'):wpOp P ops Q i K a w:=by
 unfold wpOp;rw[hi];simp only[];have s9:∀d,o.dst=some d->d<n:=fun d DD=>hd o d (dk hi) DD
 unfold cG at h;split at h
 .rename_i hg;have hw:Region.wanted o (yielded ops a.tmps)=true:=by simp[Region.wanted,hg]
  rw[af hw];exact .inl (Oper.wp_mono (fun _ _ ⟨G',h1,h2,h3⟩=>hk _ _ G' h1 h2 h3) (pU h hr s9 j8 hp))
 .rename_i j want hg;split at h
  .rename_i b hy;have wk:=uE hr hy (fun o d h1 h2=>hd o d (dk h1) h2)
   split at h
   .rename_i e;subst e;have hw:Region.wanted o (yielded ops a.tmps)=true:=by simp[Region.wanted,hg,wk]
    rw[af hw];exact .inl (Oper.wp_mono (fun _ _ ⟨G',h1,h2,h3⟩=>hk _ _ G' h1 h2 h3) (pU h hr s9 j8 hp))
   .rename_i e;have hw:¬Region.wanted o (yielded ops a.tmps)=true:=by simp[Region.wanted,hg,wk,e]
    rw[ac hw];subst h;exact hk _ _ G (hr.put (Le.refl G w) s9 RV.undef hr.mem) (Le.refl G w) fun k _ rx=>⟨rx,rfl⟩
  .exact h.elim
end Go.AM
