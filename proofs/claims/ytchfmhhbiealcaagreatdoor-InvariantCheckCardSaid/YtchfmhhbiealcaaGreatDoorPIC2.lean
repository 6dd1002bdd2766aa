import Derived.Test.YtchfmhhbiealcaaGreatDoorPIC1
import Derived.MapKept
import Derived.Lib.AppendStr
set_option linter.unusedSimpArgs false
set_option linter.unusedVariables false
namespace Go.AM
theorem ao.{u}:type_of% @List.getD_eq_getElem?_getD.{u}:=@List.getD_eq_getElem?_getD
theorem du.{u}:type_of% @Option.getD_some.{u}:=@Option.getD_some
theorem c8.{u}:type_of% @List.length_nil.{u}:=@List.length_nil
theorem fk.{u}:type_of% @Array.getElem?_eq_getElem.{u}:=@Array.getElem?_eq_getElem
theorem c9.{u}:type_of% @List.append_nil.{u}:=@List.append_nil
theorem dg.{u}:type_of% @List.length_pos_iff.{u}:=@List.length_pos_iff
theorem fq.{u}:type_of% @List.size_toArray.{u}:=@List.size_toArray
theorem dq:type_of% @Classical.byContradiction:=@Classical.byContradiction
theorem dy.{u}:type_of% @List.getElem?_toArray.{u}:=@List.getElem?_toArray
theorem d6.{u}:type_of% @List.length_drop.{u}:=@List.length_drop
theorem ew.{u,v}:type_of% @Option.bind_some.{u,v}:=@Option.bind_some
theorem fl.{u,v}:type_of% @Array.toList_map.{u,v}:=@Array.toList_map
theorem bh.{u}:type_of% @List.take_length.{u}:=@List.take_length
theorem dh.{u}:type_of% @List.length_eq_zero_iff.{u}:=@List.length_eq_zero_iff
theorem bd:type_of% @Bool.and_eq_true:=@Bool.and_eq_true
theorem dl:type_of% @Bool.eq_iff_iff:=@Bool.eq_iff_iff
theorem gr.{u}:type_of% @beq_iff_eq.{u}:=@beq_iff_eq
theorem au:type_of% @decide_eq_true_eq:=@decide_eq_true_eq
theorem dd.{u,v}:type_of% @Option.map_some.{u,v}:=@Option.map_some
theorem f9.{u}:type_of% @List.ext_getElem.{u}:=@List.ext_getElem
theorem d4.{u}:type_of% @List.findIdx?_eq_some_iff_getElem.{u}:=@List.findIdx?_eq_some_iff_getElem
theorem c7.{u}:type_of% @Option.isSome_iff_exists.{u}:=@Option.isSome_iff_exists
theorem bv:type_of% @Int.toNat_natCast:=@Int.toNat_natCast
theorem fj.{u,v}:type_of% @Option.map_none.{u,v}:=@Option.map_none
theorem ep.{u}:type_of% @Option.isSome_none.{u}:=@Option.isSome_none
theorem cc.{u}:type_of% @List.take_append_drop.{u}:=@List.take_append_drop
theorem ac.{u}:type_of% @if_neg.{u}:=@if_neg
theorem fo:type_of% @Nat.lt_or_ge:=@Nat.lt_or_ge
theorem af.{u}:type_of% @if_pos.{u}:=@if_pos
theorem cg.{u}:type_of% @List.getElem_cons_zero.{u}:=@List.getElem_cons_zero
theorem bi.{u}:type_of% @List.getElem_of_mem.{u}:=@List.getElem_of_mem
theorem ef.{u}:type_of% @Array.mem_of_getElem?.{u}:=@Array.mem_of_getElem?
open Go
variable {P:Program}
def aS(P:Program)(T:TypeId):Option (TypeId × Nat × Nat):=match P.underlying T with
 | some (.slice E)=>match P.info? E with
  | some i=>match i.zero with
   | some z=>if z.cells.size=i.size/\0<i.size/\0<i.bytes then some (E,i.size,i.bytes) else none
   | none=>none
  | none=>none
 | _=>none
theorem eW{T E sz by':Nat}(h:aS P T=some (E,sz,by')):P.underlying T=some (.slice E)/\∃i z,P.info? E=some i/\i.zero=some z/\z.cells.size=sz/\i.size=sz/\i.bytes=by'/\0<sz/\0<by':=by
 unfold aS at h;split at h
 .rename_i E' hE;split at h
  .rename_i i hi;split at h
   .rename_i z hz;split at h
    .rename_i hc;simp only[ad,aq] at h;obtain⟨rfl,rfl,rfl⟩:=h;exact⟨hE,i,z,hi,hz,hc.1,rfl,rfl,hc.2.1,hc.2.2⟩
    .cases h
   .cases h
  .cases h
 .cases h
structure gX (c:Addr->Option Value) (ps:Addr->Prop) (sz:Nat) (es:List (List D)) (A:Option Addr) (vs:List Value):Prop where
 len:vs.length=es.length*sz
 at_:∀a,A=some a->∀q u,vs[q]?=some u->ps (a.add q)/\c (a.add q)=some u
 one:∀u∈vs,u.oneCell'=true
 some_:es≠[]->∃a,A=some a
 each:∀e∈es,e.length=sz
 read:∀i j (hi:i<es.length) (hj:j<es[i].length),∃u,vs[i*sz+j]?=some u/\RVd c ps es[i][j] u
theorem RVd.flat{c:Addr->Option Value}{ps:Addr->Prop}{sz:Nat}{es:List (List D)}{v:Value}(h:RVd c ps (.sl sz es) v):
    ∃A cap vs,v=.slice A es.length cap/\es.length<=cap/\cap<=maxLen/\gX c ps sz es A vs:=by
  cases h with
  | sl u iq iu hsz hA hc hr =>
    rename_i A cap;refine⟨A,cap,(List.range (es.length*sz)).map fun q=>u (q / sz) (q % sz),rfl,iq,iu,⟨by simp,?_,?_,hA,hsz,?_⟩⟩
    . intro a ha q x hq
      simp only[gh] at hq;obtain⟨q',Bt,rfl⟩:=cr.1 hq;obtain⟨hlt,rfl⟩:=a8.1 Bt;simp at hlt ⊢;have kk:0<sz:=by
       rcases Nat.eq_zero_or_pos sz with h|h;· subst h;simp at hlt
       . exact h
      have h1:q / sz<es.length:=(Nat.div_lt_iff_lt_mul kk).2 hlt
      have h2:=hc a ha (q / sz) (q % sz) h1 (Nat.mod_lt _ kk);rw[Nat.mul_comm,Nat.div_add_mod] at h2;exact h2
    . intro x hx
      simp at hx;obtain⟨q,hlt,rfl⟩:=hx;have kk:0<sz:=by
       rcases Nat.eq_zero_or_pos sz with h|h;· subst h;simp at hlt
       . exact h
      have h1:q / sz<es.length:=(Nat.div_lt_iff_lt_mul kk).2 hlt
      have h3:=hsz _ (aa h1);exact(hr (q / sz) (q % sz) h1 (by rw[h3];exact Nat.mod_lt _ kk)).one
    . intro i j hi hj
      have hl:=hsz _ (aa hi);have hlt:i*sz+j<es.length*sz:=by
        have:(i+1)*sz<=es.length*sz:=bk _ (by omega)
        rw[cb] at this;omega
      have e1:(i*sz+j) / sz=i:=by
        rw[Nat.mul_comm,Nat.mul_add_div (by omega),Nat.div_eq_of_lt (by omega)];omega
      have e2:(i*sz+j) % sz=j:=by
        rw[Nat.mul_comm,Nat.mul_add_mod,Nat.mod_eq_of_lt (by omega)]
      exact⟨u i j,by simp[hlt,e1,e2],hr i j hi hj⟩
theorem RVd.of_flat{c:Addr->Option Value}{ps:Addr->Prop}{sz:Nat}{es:List (List D)}{A:Option Addr}{cap:Nat}{vs:List Value}(iq:es.length<=cap)(iu:cap<=maxLen)(h:gX c ps sz es A vs):
  RVd c ps (.sl sz es) (.slice A es.length cap):=by
 refine .sl (fun i j=>vs.getD (i*sz+j) default) iq iu h.each h.some_ ?_ ?_
 .intro a ha i j hi hj;obtain⟨u,hu,_⟩:=h.read i j hi (by rw[h.each _ (aa hi)];exact hj);obtain⟨h1,h2⟩:=h.at_ a ha _ u hu;refine⟨h1,?_⟩;simp only[ao,hu,du];exact h2
 .intro i j hi hj;obtain⟨u,hu,hr⟩:=h.read i j hi hj;simp only[ao,hu,du];exact hr
theorem gX.mono{c c':Addr->Option Value}{ps ps':Addr->Prop}(h:∀a u,ps a->c a=some u->ps' a/\c' a=some u){sz:Nat}{es:List (List D)}{A:Option Addr}{vs:List Value}(r:gX c ps sz es A vs):gX c' ps' sz es A vs where
 len:=r.len
 at_ a ha q u hq:=h _ _ (r.at_ a ha q u hq).1 (r.at_ a ha q u hq).2
 one:=r.one
 some_:=r.some_
 each:=r.each
 read i j hi hj:=let ⟨u,hu,hr⟩:=r.read i j hi hj;⟨u,hu,hr.mono h⟩
def fO(s:ByteArray):List (List D):=s.data.toList.map fun b=>[D.raw (.int .u8 b.toNat)]
theorem aEo(s:ByteArray):(fO s).length=s.size:=by rw[fO,br,Array.length_toList];rfl
theorem gX.v{c:Addr->Option Value}{ps:Addr->Prop}{sz:Nat}{es:List (List D)}{A:Option Addr}{vs:List Value}(h:gX c ps sz es A vs):cL c ps sz es vs:=⟨h.len,h.one,h.each,h.read⟩
theorem cL.bytes(c:Addr->Option Value)(ps:Addr->Prop)(s:ByteArray):cL c ps 1 (fO s) (Lib.strCells s) where
 len:=by simp[fO,Lib.strCells]
 one:=Lib.strCells_oneCell s
 each e he:=by
  simp only[fO,bc] at he;obtain⟨b,_,rfl⟩:=he;rfl
 read i j hi hj:=by
  simp only[fO,bj,ce,c8] at hj ⊢;have zw:j=0:=by omega
  subst zw;simp only[fO,br] at hi;refine⟨.int .u8 (s.data.toList[i]).toNat,?_,.raw rfl⟩;have nk:i<s.data.size:=by simpa using hi
  refine by simp[Lib.strCells];exact⟨_,fk nk,rfl⟩
theorem gX.append{c:Addr->Option Value}{ps:Addr->Prop}{sz:Nat}{es news:List (List D)}{A:Option Addr}{vs us:List Value}(h:gX c ps sz es A vs)(k:cL c ps sz news us)(a:Addr)(jj:∀q u,(vs++us)[q]?=some u->ps (a.add q)/\c (a.add q)=some u):gX c ps sz (es++news) (some a) (vs++us) where
 len:=by rw[am,am,h.len,k.len,cb]
 at_ a' wj q u hq:=by cases wj;exact jj q u hq
 one u hu:=by
  rcases ap.1 hu with h1|h1
  .exact h.one u h1
  .exact k.one u h1
 some_ _:=⟨a,rfl⟩
 each e he:=by
  rcases ap.1 he with h1|h1
  .exact h.each e h1
  .exact k.each e h1
 read i j hi hj:=by
  by_cases hlt:i<es.length
  .simp only[bu hlt] at hj ⊢;obtain⟨u,hu,hr⟩:=h.read i j hlt hj;refine⟨u,?_,hr⟩;rw[bg (a8.1 hu).1];exact hu
  .simp only[cd (by omega:es.length<=i)] at hj ⊢;obtain⟨u,hu,hr⟩:=k.read (i-es.length) j (by simp at hi;omega) hj;refine⟨u,?_,hr⟩;have e1:i*sz+j=vs.length+((i-es.length)*sz+j):=by
    rw[h.len];have:i=es.length+(i-es.length):=by omega
    conv=>lhs;rw[this]
    rw[cb];omega
   rw[e1,da (by omega),d9];exact hu
theorem gX.resize{c:Addr->Option Value}{ps:Addr->Prop}{sz sz':Nat}{es:List (List D)}{A:Option Addr}{vs:List Value}(h:gX c ps sz es A vs)(hs:sz=sz'∨es=[]):gX c ps sz' es A vs:=by
 rcases hs with rfl|rfl
 .exact h
 .have hv:vs=[]:=bf (by simpa using h.len)
  subst hv;exact⟨by simp,fun a _ q u hq=>by simp at hq,fun u hu=>by simp at hu,fun h=>absurd rfl h,fun e he=>by simp at he,fun i j hi=>by simp at hi⟩
def aH(P:Program)(T:TypeId):Option (List Value):=match (P.info? T).bind (·.zero) with
 | some z=>if z.cells.toList.all (·.oneCell') then some z.cells.toList else none
 | none=>none
theorem cL.append{c:Addr->Option Value}{ps:Addr->Prop}{sz:Nat}{es news:List (List D)}{vs us:List Value}(h:cL c ps sz es vs)(k:cL c ps sz news us):cL c ps sz (es++news) (vs++us) where
 len:=by rw[am,am,h.len,k.len,cb]
 one u hu:=by
  rcases ap.1 hu with h1|h1
  .exact h.one u h1
  .exact k.one u h1
 each e he:=by
  rcases ap.1 he with h1|h1
  .exact h.each e h1
  .exact k.each e h1
 read i j hi hj:=by
  by_cases hlt:i<es.length
  .simp only[bu hlt] at hj ⊢;obtain⟨u,hu,hr⟩:=h.read i j hlt hj;refine⟨u,?_,hr⟩;rw[bg (a8.1 hu).1];exact hu
  .simp only[cd (by omega:es.length<=i)] at hj ⊢;obtain⟨u,hu,hr⟩:=k.read (i-es.length) j (by simp at hi;omega) hj;refine⟨u,?_,hr⟩;have e1:i*sz+j=vs.length+((i-es.length)*sz+j):=by
    rw[h.len];have:i=es.length+(i-es.length):=by omega
    conv=>lhs;rw[this]
    rw[cb];omega
   rw[e1,da (by omega),d9];exact hu
theorem cL.none_(c:Addr->Option Value)(ps:Addr->Prop)(sz:Nat):cL c ps sz [] []:=⟨by simp,fun u hu=>by simp at hu,fun e he=>by simp at he,fun i j hi=>by simp at hi⟩
def aC3(P:Program)(o:Oper)(ρ:Operand->AV)(tok:Tks)(nt:Nat)(v:AV)(tok':Nat->Bool)(nt':Nat):Prop:=match o.op with
 | .call c=>match c.callee,c.args.toList,c.argTypes.toList with
  | .builtin .append,[s,x],[T,T']=>match aS P T,ρ s,(ρ x).elems? with
   | some (_,sz,by'),.osl sz0 es own,some (sz1,news) =>
    T'=T/\(sz0=sz∨es=[]/\own=.full)/\(sz1=sz∨news=[])/\(es.length+news.length)*by'<=140737488355328/\own.live tok=true /\
     v=.osl sz (es++news) (.tok nt)/\tok'=upd (own.kill tok) nt true/\nt'=nt+1
   | _,_,_=>False
  | _,_,_=>False
 | _=>False
def aJ2(P:Program)(T T':TypeId)(s x:AV)(tok:Tks)(nt:Nat):Option (Prop × AV × (Nat->Bool)):=match aS P T,s with
 | some (E,sz,by'),.stk t sz0 es=>match x.elems? with
  | some (sz1,news)=>some (T'=T/\sz0=sz/\(sz1=sz∨news=[])/\(aH P E).isSome=true/\(es.length+news.length)*by'<=140737488355328/\tok t=true,.stk nt sz (es++news),upd (upd tok t false) nt true)
  | none=>none
 | some (E,sz,by'),.que t sz0 es=>match x.elems? with
  | some (sz1,news)=>some (T'=T/\sz0=sz/\sz1=sz/\news≠[]/\(es.length+news.length)*by'<=140737488355328/\tok t=true,.que nt sz (es++news),upd (upd tok t false) nt true)
  | none=>none
 | some (_,sz,by'),.osl sz0 es own=>match x with
  | .stk t sz1 news=>some (T'=T/\(sz0=sz∨es=[]/\own=.full)/\sz1=sz/\(es.length+news.length)*by'<=140737488355328/\own.live tok=true/\tok t=true,.osl sz (es++news) (.tok nt),upd (own.kill tok) nt true)
  | _=>none
 | _,_=>none
def aJX(P:Program)(T T':TypeId)(s x:AV)(tok:Tks)(nt:Nat):Option (Prop × AV × (Nat->Bool)):=match x with
 | .d (.raw (.string str))=>match aS P T,s with
  | some (E,sz,by'),.osl _ [] .full=>some (aW P T'=true/\sz=1/\0<str.size/\str.size*by'<=140737488355328,.buf E nt (fO str),upd tok nt true)
  | some (E,sz,by'),.buf E' t es=>some (aW P T'=true/\sz=1/\E'=E/\(es.length+str.size)*by'<=140737488355328/\tok t=true,.buf E nt (es++fO str),upd (upd tok t false) nt true)
  | _,_=>none
 | x=>aJ2 P T T' s x tok nt
def aHx(P:Program)(o:Oper)(ρ:Operand->AV)(tok:Tks)(nt:Nat)(v:AV)(tok':Nat->Bool)(nt':Nat):Prop:=match o.op with
 | .call c=>match c.callee,c.args.toList,c.argTypes.toList with
  | .builtin .append,[s,x],[T,T']=>∃ φ,aJX P T T' (ρ s) (ρ x) tok nt=some (φ,v,tok')/\φ/\nt'=nt+1
  | _,_,_=>False
 | _=>False
def aL3(es:List (ByteArray × List (List D) × Own))(s:ByteArray):AV:=match es.find? fun e=>decide (e.1=s) with
 | some e=>.osl 1 e.2.1 e.2.2
 | none=>.osl 0 [] .full
def aHr(es:List (ByteArray × List (List D)))(s:ByteArray):AV:=match es.find? fun e=>decide (e.1=s) with
 | some e=>.d (.sl 1 e.2)
 | none=>.osl 0 [] .full
def aD7(P:Program)(T:TypeId):Bool:=match P.underlying T with
 | some (.map kt et)=>(match P.underlying kt with|some .string=>true|_=>false)&&(match P.info? et with|some i=>(match i.zero with|some (.slice none 0 0)=>true|_=>false)|none=>false)
 | _=>false
def fM(P:Program)(o:Oper)(ρ:Operand->AV)(tok:Tks)(nt:Nat):Option (Prop × AV × (Nat->Bool) × Nat):=match o.op with
 | .makeMap _ none=>some (True,.mp nt [],upd tok nt true,nt+1)
 | .lookup T m k false=>match ρ m,ρ k with
  | .mp t es,.d (.raw (.string s))=>some (aD7 P T=true/\tok t=true,aL3 es s,tok,nt)
  | .mpd es,.d (.raw (.string s))=>some (aD7 P T=true,aHr es s,tok,nt)
  | _,_=>none
 | _=>none
def aOb(P:Program)(o:Oper)(ρ:Operand->AV)(tok:Tks)(nt:Nat)(v:AV)(tok':Nat->Bool)(nt':Nat):Prop:=∃ φ,fM P o ρ tok nt=some (φ,v,tok',nt')/\φ
def aD2(P:Program)(o:Oper)(ρ:Operand->AV)(tok:Tks)(nt:Nat)(v:AV)(tok':Nat->Bool)(nt':Nat):Prop:=aC3 P o ρ tok nt v tok' nt'∨aHx P o ρ tok nt v tok' nt'∨aOb P o ρ tok nt v tok' nt'
structure Src (P:Program) (w:World) (T T' ty E:TypeId) (i:TypeInfo) (z:Value) (xv:Value) (n:Nat) (us:List Value):Prop where
 none_:n=0->∀(A:Option Addr) (k cap:Nat),k<=cap->(Builtin.append_ #[T,T'] ty #[.slice A k cap,xv]).run P w=.ok (.slice A k cap) w
 room:0<n->∀(g sLen sCap:Nat) (cur:Array Value) (e':TypeId),w.heap[g]?=some (.cells cur e' (0,0))->sLen+n<=sCap->sLen*i.size+us.length<=cur.size ->
  (Builtin.append_ #[T,T'] ty #[.slice (some ⟨g,0,none⟩) sLen sCap,xv]).run P w=.ok (.slice (some ⟨g,0,none⟩) (sLen+n) sCap) (w.setRow g (cur.toList.take (sLen*i.size)++us++cur.toList.drop (sLen*i.size+us.length)).toArray)
 grow:0<n->∀(b:Addr) (sLen sCap:Nat) (olds:List Value),olds.length=sLen*i.size->(∀j v,olds[j]?=some v->w.cell? (b.add j)=some v)->sCap<sLen+n->((sLen+n:Nat):Int)<=9223372036854775807 ->
  Builtin.nextslicecap (sLen+n) sCap*i.bytes<=281474976710656 ->
  (Builtin.append_ #[T,T'] ty #[.slice (some b) sLen sCap,xv]).run P w=.ok (.slice (some ⟨w.heap.size,0,none⟩) (sLen+n) (grownCap w (sLen+n) sCap E))
   (w.drew.alloc (.cells (olds.toArray++us.toArray++Builtin.zeroCells z.cells (grownCap w (sLen+n) sCap E-(sLen+n))) E))
 nil_:0<n->(n:Int)<=9223372036854775807->n*i.bytes<=281474976710656 ->
  (Builtin.append_ #[T,T'] ty #[.slice none 0 0,xv]).run P w=.ok (.slice (some ⟨w.heap.size,0,none⟩) n (grownCap w n 0 E)) (w.drew.alloc (.cells (us.toArray++Builtin.zeroCells z.cells (grownCap w n 0 E-n)) E))
theorem lE(t ty E:TypeId)(i:TypeInfo)(w:World)(ht:P.underlying t=some (.slice E))(hi:P.info? E=some i)(A B:Option Addr)(n cap c:Nat)(hn:n<=cap):
  (Builtin.append_ #[t,t] ty #[.slice A n cap,.slice B 0 c]).run P w=.ok (.slice A n cap) w:=by
 cases A<;>cases B<;>simp[Builtin.append_,bm ht,sizeOf,typeInfo,hi,Builtin.lenOf,Builtin.firstCells,loadCells,loadCellsFrom,hn,storeCells]
theorem jY(t ty e e':TypeId)(i:TypeInfo)(w:World)(ht:P.underlying t=some (.slice e))(hi:P.info? e=some i)(g sLen sCap:Nat)(cur:Array Value)(hg:w.heap[g]?=some (.cells cur e' (0,0)))(a:Addr)(m c:Nat)(news:List Value)(hl:news.length=m*i.size)(th:∀j u,news[j]?=some u->w.cell? (a.add j)=some u)(h1:∀u∈news,u.oneCell'=true)(jp:sLen+m<=sCap)(i9:sLen*i.size+news.length<=cur.size):
  (Builtin.append_ #[t,t] ty #[.slice (some ⟨g,0,none⟩) sLen sCap,.slice (some a) m c]).run P w =
   .ok (.slice (some ⟨g,0,none⟩) (sLen+m) sCap) (w.setRow g (cur.toList.take (sLen*i.size)++news++cur.toList.drop (sLen*i.size+news.length)).toArray):=by
 have hf:=run_firstCells_some (P:=P) w i.size m a m c news hl th;have jo:=run_storeCells_at P g (sLen*i.size) e' news 0 cur w hg (by simpa using i9) h1;simp only[e9] at jo;simp[Builtin.append_,bm ht,sizeOf,typeInfo,hi,Builtin.lenOf,jp,hf,Addr.add_lit,jo]
theorem dK.imp{o:Oper}{ρv:Operand->Value}{G:Gh}{w:World}{R R':Value->Gh->World->Prop}(h:dK P o ρv G w R)(k:∀u G' w',R u G' w'->R' u G' w'):dK P o ρv G w R':=by
 obtain⟨nx,u,G',w',h1,h2,h3,h4⟩:=h;exact⟨nx,u,G',w',h1,h2,h3,k _ _ _ h4⟩
theorem nK{o:Oper}{ρv:Operand->Value}{G:Gh}{m:bF}{w:World}{c:Call}{s x:Operand}{T T' E:TypeId}{i:TypeInfo}{z:Value}{sz by' sz0:Nat}{es news:List (List D)}{own:Own}{xv:Value}{us:List Value}(ho:o.op=.call c)(ik:c.callee=.builtin .append)(hargs:c.args.toList=[s,x])(kz:c.argTypes.toList=[T,T'])(hE:P.underlying T=some (.slice E))(hi:P.info? E=some i)(hz:i.zero=some z)(nw:z.cells.size=sz)(ko:i.size=sz)(mb:i.bytes=by')(lc:0<sz)(ld:0<by')(rb:sz0=sz∨es=[]/\own=.full)(hbytes:(es.length+news.length)*by'<=140737488355328)(ii:own.live m.tok=true)(hs:RV G w (.osl sz0 es own) (ρv s))(n7:ρv x=xv)(jk:cL w.cell? G.ps sz news us)(ly:Src P w T T' o.type E i z xv news.length us)(hm:aR G m w):
    dK P o ρv G w fun u G' w'=>RV G' w' (.osl sz (es++news) (.tok m.nt)) u/\aR G' { m with tok:=upd (own.kill m.tok) m.nt true,nt:=m.nt+1 } w'/\G'.bx=G.bx/\((news≠[]∨∃t g,own=.tok t/\G.tk t=some (some g))->G'.tk m.nt≠some none)/\((∀t g,own=.tok t->G.tk t=some (some g)->∃cs f,w.heap[g]?=some (.cells cs E f))->∀g',G'.tk m.nt=some (some g')->∃cs f,w'.heap[g']?=some (.cells cs E f)):=by
  generalize zx:ρv s=sv at hs
  -- the operation is one run of append
  have jv:∀u w',(Builtin.append_ #[T,T'] o.type #[sv,xv]).run P w=.ok u w'->(execOp ρv o).run P w=.ok (.value u) w':=by
    intro u w' hr;have ha:c.args = #[s,x]:=by rw[<-Array.toArray_toList (xs:=c.args),hargs]
    have hb:c.argTypes = #[T,T']:=by rw[<-Array.toArray_toList (xs:=c.argTypes),kz]
    simp only[execOp,ho,resolve,ik,ha,hb,List.map_toArray,de,dw,zx,n7,aw,ay,aj,invoke,builtin,hr]
  cases hs with
  | osl Dg hown =>
    obtain⟨A,cap,vs,rfl,iq,iu,hf⟩:=Dg.flat;have mf:gX w.cell? G.ps sz es A vs:=hf.resize (rb.imp id And.left)
    have zy:es.length+news.length<=140737488355328:=bz (Nat.le_mul_of_pos_right _ ld) hbytes
    have pa:=hm.kill own;have ku:=Le.kill (G:=G) (w:=w) own;have nm:(G.kill own).nt=G.nt:=by cases own<;>rfl
    have ti:(G.kill own).bx=G.bx:=by cases own<;>rfl
    have lp:=hm.nt
    -- what follows once the memory is laid
    by_cases zz:news=[]
    . -- nothing to append
      subst zz;have AY:us=[]:=bf (by simpa using jk.len)
      have hr:=ly.none_ rfl A es.length cap iq;have xl:∃x,(∀g,x=some g->G.kind g=.part (es.length*sz) (cap*sz)/\A=some ⟨g,0,none⟩/\∃t,own=.tok t/\G.tk t=some (some g))/\(x=none->cap=es.length)/\(∀t g,own=.tok t->G.tk t=some (some g)->x=some g):=by
        cases own with
        | full =>
          obtain⟨A',si,_⟩:=hown;injection si with _ _ h3
          exact⟨none,(fun g hg=>by cases hg),fun _=>h3,fun t g e _=>by cases e⟩
        | tok t =>
          obtain⟨_,y,hy⟩:=hm.toks t ii;have hk:=hown.2 y hy;cases y with
          | none =>
            obtain⟨A',si⟩:=hk;injection si with _ _ h3
            exact⟨none,(fun g hg=>by cases hg),fun _=>h3,fun t' g e h=>by cases e;rw[hy] at h;cases h⟩
          | some g =>
            obtain⟨cap',hv,ow⟩:=hk;injection hv with h1 _ h3
            subst h3;have:sz0=sz:=by
             rcases rb with h|⟨_,h⟩;· exact h
             . cases h
            subst this;exact⟨some g,fun g' hg'=>by cases hg';exact⟨ow,h1,t,rfl,hy⟩,(fun h=>by cases h),fun t' g' e h=>by cases e;rw[hy] at h;cases h;rfl⟩
      obtain⟨x0,zq,u3,xm⟩:=xl;have k8:=pa.newtok x0 (fun g hg=>by
        obtain⟨hk,_,t,rfl,ht⟩:=zq g hg;refine⟨fun t' k9=>?_,?_⟩
        . simp only[Gh.kill] at k9
          by_cases e:t'=t
          . subst e;simp[uS] at k9
          . rw[uO _ _ e] at k9
            exact e (hm.tinj t' t g k9 ht)
        . obtain⟨f,cur,e,h1,h2⟩:=hm.tokb t g ht
          exact⟨f,cur,e,h1,h2⟩)
      have lu:=Le.newtok (G:=G.kill own) (w:=w) x0;refine⟨.value _,_,(G.kill own).newtok x0,w,jv _ _ hr,.inl rfl,ku.trans lu,?_,k8,by simp[Gh.newtok,ti],fun hn=>?_,fun Bu g' hg'=>?_⟩
      rotate_left 1
      . rcases hn with hn|⟨t,g,rfl,ht⟩
        . exact absurd rfl hn
        . cases x0 with
          | some g0=>simp[Gh.newtok,nm,lp,uS]
          | none=>exact absurd (xm _ _ rfl ht) (by simp)
      . simp only[Gh.newtok,nm,lp,uS,ad] at hg'
        obtain⟨_,_,t,e1,e2⟩:=zq g' hg';exact Bu t g' e1 e2
      have hd:RVd w.cell? ((G.kill own).newtok x0).ps (.sl sz (es++[])) (.slice A es.length cap):=by
        simp only[c9];exact .of_flat iq iu (mf.mono (ku.trans lu).cells)
      refine .osl hd ⟨by simp only[Gh.newtok,nm];omega,fun y hy=>?_⟩;simp only[Gh.newtok,nm,lp,uS,ad] at hy;subst hy;cases x0 with
      | none=>simp only[c9];rw[u3 rfl];exact⟨A,rfl⟩
      | some g =>
        obtain⟨hk,hA,t,rfl,ht⟩:=zq g rfl;subst hA;simp only[c9];exact⟨cap,rfl,hk⟩
    . -- something to append
      have mw:0<news.length:=dg.2 zz
      have jw:us.length=news.length*i.size:=by rw[ko];exact jk.len
      have mm:vs.length=es.length*i.size:=by rw[ko];exact mf.len
      -- where a new array is made
      have grow:∀cp,(Builtin.append_ #[T,T'] o.type #[.slice A es.length cap,xv]).run P w =
          .ok (.slice (some ⟨w.heap.size,0,none⟩) (es.length+news.length) cp) (w.drew.alloc (.cells (vs.toArray++us.toArray++Builtin.zeroCells z.cells (cp-(es.length+news.length))) E)) ->
          es.length+news.length<=cp->cp<=maxLen ->
          dK P o ρv G w fun u G' w'=>RV G' w' (.osl sz (es++news) (.tok m.nt)) u/\aR G' { m with tok:=upd (own.kill m.tok) m.nt true,nt:=m.nt+1 } w'/\G'.bx=G.bx/\((news≠[]∨∃t g,own=.tok t/\G.tk t=some (some g))->G'.tk m.nt≠some none)/\((∀t g,own=.tok t->G.tk t=some (some g)->∃cs f,w.heap[g]?=some (.cells cs E f))->∀g',G'.tk m.nt=some (some g')->∃cs f,w'.heap[g']?=some (.cells cs E f)):=by
        intro cp hr hge hcm;have wk:=pa.drew
        let obj:Obj:=.cells (vs.toArray++us.toArray++Builtin.zeroCells z.cells (cp-(es.length+news.length))) E
        have hp:=wk.newpart ((es.length+news.length)*sz) (cp*sz) obj;have nz:=Le.newpart wk ((es.length+news.length)*sz) (cp*sz) obj;have lx:(vs.toArray++us.toArray++Builtin.zeroCells z.cells (cp-(es.length+news.length))).size=cp*sz:=by
          simp only[Array.size_append,fq,size_zeroCells,nw,mm,jw,ko,<-Nat.add_mul];congr 1
          omega
        have k8:=hp.newtok (some w.heap.size) (fun g hg=>by
          cases hg;refine⟨fun t ht=>?_,(es.length+news.length)*sz,vs.toArray++us.toArray++Builtin.zeroCells z.cells (cp-(es.length+news.length)),_,?_,e8 w.drew _⟩
          . have:=pa.tlt t _ (by simpa[Gh.setKind] using ht)
            omega
          . rw[lx]
            refine .inl ⟨?_,E,rfl⟩;show upd _ w.heap.size _ w.heap.size=_
            rw[uS])
        have lu:=Le.newtok (G:=(G.kill own).setKind w.heap.size (.part ((es.length+news.length)*sz) (cp*sz))) (w:=w.drew.alloc obj) (some w.heap.size);have gz:=(ku.trans Le.drew).trans (nz.trans lu);refine⟨.value _,_,_,_,jv _ _ hr,.inl rfl,gz,?_,k8,by simp[Gh.newtok,Gh.setKind,ti],fun _=>by simp[Gh.newtok,Gh.setKind,nm,lp,uS],fun _ g' hg'=>by
          simp only[Gh.newtok,Gh.setKind,nm,lp,uS,ad] at hg';subst hg';exact⟨_,_,e8 w.drew _⟩⟩
        have wl:(vs++us).length=(es.length+news.length)*sz:=by rw[am,mm,jw,ko,cb]
        have j8:gX (w.drew.alloc obj).cell? (Gh.ps (((G.kill own).setKind w.heap.size (.part ((es.length+news.length)*sz) (cp*sz))).newtok (some w.heap.size))) sz (es++news) (some ⟨w.heap.size,0,none⟩) (vs++us):=by
          refine(mf.mono gz.cells).append (jk.mono gz.cells) _ (fun q u hq=>?_);have hlt:q<(vs++us).length:=(a8.1 hq).1
          rw[bK];refine⟨?_,?_⟩
          . show (match upd (G.kill own).kind w.heap.size (BK.part ((es.length+news.length)*sz) (cp*sz)) w.heap.size with|.whole=>True|.part f _=>0+q<f|.box=>False|.ex=>False)
            rw[uS];show 0+q<_
            omega
          . rw[ee _ w.heap.size (0+q) (vs.toArray++us.toArray++Builtin.zeroCells z.cells (cp-(es.length+news.length))) E (0,0) (e8 w.drew _)]
            rw[b6,Array.getElem?_append_left (by simpa using hlt)];simpa using hq
        have:=RVd.of_flat (cap:=cp) (by simpa using hge) hcm j8
        rw[am] at this;refine .osl this ⟨by simp only[Gh.newtok,Gh.setKind,nm];omega,fun y hy=>?_⟩;simp only[Gh.newtok,Gh.setKind,nm,lp,uS,ad] at hy;subst hy;refine⟨cp,by simp,?_⟩;simp only[Gh.newtok,Gh.setKind,uS,am]
      have growA:cap<es.length+news.length->dK P o ρv G w fun u G' w'=>RV G' w' (.osl sz (es++news) (.tok m.nt)) u/\aR G' { m with tok:=upd (own.kill m.tok) m.nt true,nt:=m.nt+1 } w'/\G'.bx=G.bx/\((news≠[]∨∃t g,own=.tok t/\G.tk t=some (some g))->G'.tk m.nt≠some none)/\((∀t g,own=.tok t->G.tk t=some (some g)->∃cs f,w.heap[g]?=some (.cells cs E f))->∀g',G'.tk m.nt=some (some g')->∃cs f,w'.heap[g']?=some (.cells cs E f)):=by
        intro mj;have hge:=grownCap_ge w (es.length+news.length) cap E;have hcm:=grownCap_le_maxLen w (es.length+news.length) cap E (by unfold maxLen;omega);cases A with
        | some b =>
          exact grow _ (ly.grow mw b es.length cap vs mm (fun q u hq=>(mf.at_ b rfl q u hq).2) mj (by omega) (growslice_fits mj (by rw[mb];exact hbytes))) hge hcm
        | none =>
          have mc:es=[]:=dq fun h=>by obtain⟨b,hb⟩:=mf.some_ h;cases hb
          subst mc;have vd:vs=[]:=bf (by simpa using mm)
          subst vd;have z6:cap=0:=by
            cases own with
            | full=>obtain⟨A',si,_⟩:=hown;injection si with _ _ h3
            | tok t =>
              obtain⟨_,y,hy⟩:=hm.toks t ii;have hk:=hown.2 y hy;cases y with
              | none=>obtain⟨A',si⟩:=hk;injection si with _ _ h3
              | some g=>obtain⟨cap',hv,ow⟩:=hk;injection hv with h1;cases h1
          subst z6;have hr:=ly.nil_ mw (by omega) (by rw[mb];simp only[c8,b6] at hbytes;omega);simp only[c8,b6] at grow hge hcm ⊢;refine grow _ ?_ hge hcm;simpa using hr
      by_cases jp:es.length+news.length<=cap
      . -- there is room: only a token's block has it
        have xn:∃t g,own=.tok t/\G.tk t=some (some g)/\A=some ⟨g,0,none⟩/\G.kind g=.part (es.length*sz) (cap*sz):=by
          cases own with
          | full=>obtain⟨A',si,_⟩:=hown;injection si with _ _ h3;omega
          | tok t =>
            obtain⟨_,y,hy⟩:=hm.toks t ii;have hk:=hown.2 y hy;cases y with
            | none=>obtain⟨A',si⟩:=hk;injection si with _ _ h3;omega
            | some g =>
              obtain⟨cap',hv,ow⟩:=hk;injection hv with h1 _ h3
              subst h3;have:sz0=sz:=by
               rcases rb with h|⟨_,h⟩;· exact h
               . cases h
              subst this;exact⟨t,g,rfl,hy,h1,ow⟩
        obtain⟨t,g,rfl,ht,rfl,ow⟩:=xn;obtain⟨f,cur,o',hkg',hg⟩:=hm.tokb t g ht;rw[ow] at hkg';rcases hkg' with ⟨hkg',e',rfl⟩|hkg'
        case inr=>cases hkg'
        injection hkg' with hf1 hc1
        have i9:es.length*i.size+us.length<=cur.size:=by
          rw[jw,<-Nat.add_mul,<-hc1,ko];exact bk _ jp
        have hr:=ly.room mw g es.length cap cur e' hg jp i9;rw[ko] at hr i9;have kf:∀t',(G.kill (.tok t)).tk t'≠some (some g):=by
          intro t' k9;simp only[Gh.kill] at k9;by_cases e:t'=t
          . subst e;simp[uS] at k9
          . rw[uO _ _ e] at k9
            exact e (hm.tinj t' t g k9 ht)
        let new:Array Value:=(cur.toList.take (es.length*sz)++us++cur.toList.drop (es.length*sz+us.length)).toArray
        have e1:cur.toList.length=cur.size:=by simp
        have hlt:(List.take (es.length*sz) cur.toList).length=es.length*sz:=by rw[cf];omega
        have lz:∀q,q<es.length*sz->new[q]?=cur[q]?:=by
          intro q hq;simp only[new,dy];rw[cy,bg (by omega),eg hq];simp
        have o8:=pa.fill (g:=g) (f:=es.length*sz) (f':=(es.length+news.length)*sz) (c:=cap*sz) ow (bk _ (by omega)) kf hg lz;have tj:=Le.fill (G:=G.kill (.tok t)) (w:=w) (g:=g) (f:=es.length*sz) (f':=(es.length+news.length)*sz) (c:=cap*sz) ow (bk _ (by omega)) kf hg lz;have tq:new.size=cap*sz:=by
          simp only[new,fq,am,cf,d6,Array.length_toList];omega
        have k8:=o8.newtok (some g) (fun g' hg'=>by
          cases hg'
          refine⟨fun t' k9=>kf t' k9,(es.length+news.length)*sz,new,_,?_,setRow_heap w g cur new e' (0,0) hg⟩;rw[tq];refine .inl ⟨?_,e',rfl⟩;show upd _ g _ g=_
          rw[uS])
        have lu:=Le.newtok (G:=(G.kill (.tok t)).setKind g (.part ((es.length+news.length)*sz) (cap*sz))) (w:=w.setRow g new) (some g);have gz:=ku.trans (tj.trans lu);refine⟨.value _,_,_,_,jv _ _ hr,.inl rfl,gz,?_,k8,by simp[Gh.newtok,Gh.setKind,ti],fun _=>by simp[Gh.newtok,Gh.setKind,nm,lp,uS],fun Bu g' hg'=>by
          simp only[Gh.newtok,Gh.setKind,nm,lp,uS,ad] at hg';subst hg';obtain⟨c0,f0,h0⟩:=Bu t g rfl ht;exact nQ w g g new c0 E f0 h0⟩
        have wl:(vs++us).length=(es.length+news.length)*sz:=by rw[am,mm,jw,ko,cb]
        have j8:gX (w.setRow g new).cell? (Gh.ps (((G.kill (.tok t)).setKind g (.part ((es.length+news.length)*sz) (cap*sz))).newtok (some g))) sz (es++news) (some ⟨g,0,none⟩) (vs++us):=by
          refine(mf.mono gz.cells).append (jk.mono gz.cells) _ (fun q u hq=>?_);have Bv:q<(vs++us).length:=(a8.1 hq).1
          rw[bK];refine⟨?_,?_⟩
          . show (match upd (G.kill (.tok t)).kind g (BK.part ((es.length+news.length)*sz) (cap*sz)) g with|.whole=>True|.part f _=>0+q<f|.box=>False|.ex=>False)
            rw[uS];show 0+q<_
            omega
          . rw[cell_setRow_same w g (0+q) cur new e' (0,0) hg,b6]
            by_cases AZ:q<vs.length
            . rw[bg AZ] at hq
              rw[lz q (by rw[<-mf.len];exact AZ)];have:=(mf.at_ ⟨g,0,none⟩ rfl q u hq).2
              rw[bK,ee w g _ cur e' (0,0) hg,b6] at this;exact this
            . rw[da (by omega)] at hq
              have xo:q-vs.length<us.length:=(a8.1 hq).1
              simp only[new,dy];rw[cy,da (by rw[hlt,<-mf.len];omega),hlt,<-mf.len,bg xo];exact hq
        have:=RVd.of_flat (cap:=cap) (by simpa using jp) iu j8
        rw[am] at this;refine .osl this ⟨by simp only[Gh.newtok,Gh.setKind,nm];omega,fun y hy=>?_⟩;simp only[Gh.newtok,Gh.setKind,nm,lp,uS,ad] at hy;subst hy;refine⟨cap,by simp,?_⟩;simp only[Gh.newtok,Gh.setKind,uS,am]
      . exact growA (by omega)
theorem aHZ{E:TypeId}{i:TypeInfo}{z:Value}(h:(aH P E).isSome=true)(hi:P.info? E=some i)(hz:i.zero=some z):∀u∈z.cells.toList,u.oneCell'=true:=by
 unfold aH at h;rw[hi,ew,hz] at h;simp only at h;split at h
 .rename_i h1;exact fun u hu=>ax.1 h1 u hu
 .cases h
theorem yP{z:Array Value}{n:Nat}{u:Value}(h:u∈(Builtin.zeroCells z n).toList):u∈z.toList:=by
 simp only[Builtin.zeroCells,fl,bc] at h;obtain⟨i,hi,rfl⟩:=h;have hi:i<n*z.size:=by simpa using hi
 have hp:0<z.size:=by
  rcases Nat.eq_zero_or_pos z.size with h|h
  .rw[h] at hi;omega
  .exact h
 have hm:=Nat.mod_lt i hp;rw[getElem!_pos z _ hm];exact Array.getElem_mem_toList hm
theorem aCR{o:Oper}{ρv:Operand->Value}{G:Gh}{m:bF}{w:World}{c:Call}{s x:Operand}{T T' E:TypeId}{i:TypeInfo}{z:Value}{sz by' t:Nat}{es news:List (List D)}{xv:Value}{us:List Value}(ho:o.op=.call c)(ik:c.callee=.builtin .append)(hargs:c.args.toList=[s,x])(kz:c.argTypes.toList=[T,T'])(hE:P.underlying T=some (.slice E))(hi:P.info? E=some i)(hz:i.zero=some z)(nw:z.cells.size=sz)(ko:i.size=sz)(mb:i.bytes=by')(lc:0<sz)(ld:0<by')(Bw:∀u∈z.cells.toList,u.oneCell'=true)(hbytes:(es.length+news.length)*by'<=140737488355328)(ii:m.tok t=true)(hs:yH G w t sz es (ρv s))(n7:ρv x=xv)(jk:cL w.cell? G.ps sz news us)(ly:Src P w T T' o.type E i z xv news.length us)(hm:aR G m w):
  dK P o ρv G w fun u G' w'=>RV G' w' (.stk m.nt sz (es++news)) u/\aR G' { m with tok:=upd (upd m.tok t false) m.nt true,nt:=m.nt+1 } w'/\G'.bx=G.bx:=by
 generalize zx:ρv s=sv at hs;have jv:∀u w',(Builtin.append_ #[T,T'] o.type #[sv,xv]).run P w=.ok u w'->(execOp ρv o).run P w=.ok (.value u) w':=by
  intro u w' hr;have ha:c.args = #[s,x]:=by rw[<-Array.toArray_toList (xs:=c.args),hargs]
  have hb:c.argTypes = #[T,T']:=by rw[<-Array.toArray_toList (xs:=c.argTypes),kz]
  simp only[execOp,ho,resolve,ik,ha,hb,List.map_toArray,de,dw,zx,n7,aw,ay,aj,invoke,builtin,hr]
 obtain⟨Bx,A,cap,rfl,iq,iu,jo⟩:=hs;obtain⟨_,y,hy⟩:=hm.toks t ii;have jo:=jo y hy;have zy:es.length+news.length<=140737488355328:=bz (Nat.le_mul_of_pos_right _ ld) hbytes
 have pa:=hm.kill (.tok t);have ku:=Le.kill (G:=G) (w:=w) (.tok t);have lp:=hm.nt;have By:∀q,(G.kill (.tok t)).tk q≠none->q≠t:=fun q hq e=>by subst e;exact hq (by simp[Gh.kill,uS])
 have kf:∀g,y=some g->∀t',(G.kill (.tok t)).tk t'≠some (some g):=by
  intro g hg t' k9;have hne:=By t' (by rw[k9];simp);simp only[Gh.kill] at k9;rw[uO _ _ hne] at k9;exact hne (hm.tinj t' t g k9 (hg ▸ hy))
 obtain⟨vs,hf,lj,mg⟩:∃vs,cL w.cell? G.ps sz es vs/\(∀g,y=some g->A=some ⟨g,0,none⟩/\∃sp e,G.kind g=.ex/\w.heap[g]?=some (.cells (vs++sp).toArray e (0,0))/\(vs++sp).length=cap*sz/\∀u∈sp,u.oneCell'=true)/\(y=none->es=[]/\cap=0/\vs=[]):=by
  cases y with
  | none =>
   have mc:es=[]:=bf (by have:cap=0:=jo;omega)
   subst mc;exact⟨[],cL.none_ _ _ _,(fun g h=>by cases h),fun _=>⟨rfl,jo,rfl⟩⟩
  | some g =>
   obtain⟨hA,vs,sp,e,h1,h2,h3,h4,h5⟩:=jo;exact⟨vs,h4,fun g' h=>by cases h;exact⟨hA,sp,e,h1,h2,h3,h5⟩,fun h=>by cases h⟩
 by_cases zz:news=[]
 .subst zz;have hr:=ly.none_ rfl A es.length cap iq;have k8:=pa.newtok y (fun g hg=>⟨kf g hg,by
   subst hg;exact hm.tokb t g hy⟩)
  have lu:=Le.newtok (G:=G.kill (.tok t)) (w:=w) y;refine⟨.value _,_,(G.kill (.tok t)).newtok y,w,jv _ _ hr,.inl rfl,ku.trans lu,?_,k8,rfl⟩;rw[c9];refine .stk ⟨by simp only[Gh.newtok,Gh.kill];omega,A,cap,rfl,iq,iu,fun q hq=>?_⟩;simp only[Gh.newtok,Gh.kill,lp,uS,ad] at hq;subst hq;cases y with
  | none=>exact(mg rfl).2.1
  | some g =>
   obtain⟨hA,sp,e,h1,h2,h3,h5⟩:=lj g rfl;exact⟨hA,vs,sp,e,h1,h2,h3,hf.mono (ku.trans lu).cells,h5⟩
 .have mw:0<news.length:=dg.2 zz
  have jw:us.length=news.length*i.size:=by rw[ko];exact jk.len
  have mm:vs.length=es.length*i.size:=by rw[ko];exact hf.len
  have grow:∀cp,(Builtin.append_ #[T,T'] o.type #[.slice A es.length cap,xv]).run P w =
    .ok (.slice (some ⟨w.heap.size,0,none⟩) (es.length+news.length) cp) (w.drew.alloc (.cells (vs.toArray++us.toArray++Builtin.zeroCells z.cells (cp-(es.length+news.length))) E)) ->
    es.length+news.length<=cp->cp<=maxLen ->
    dK P o ρv G w fun u G' w'=>RV G' w' (.stk m.nt sz (es++news)) u/\aR G' { m with tok:=upd (upd m.tok t false) m.nt true,nt:=m.nt+1 } w'/\G'.bx=G.bx:=by
   intro cp hr hge hcm;have wk:=pa.drew
   let sp:=(Builtin.zeroCells z.cells (cp-(es.length+news.length))).toList
   let obj:Obj:=.cells (vs.toArray++us.toArray++Builtin.zeroCells z.cells (cp-(es.length+news.length))) E
   have hp:=wk.newkind .ex obj;have nz:=Le.newkind wk .ex obj;have pm:vs.toArray++us.toArray++Builtin.zeroCells z.cells (cp-(es.length+news.length))=((vs++us)++sp).toArray:=by
    apply Array.ext';simp[sp]
   have lx:((vs++us)++sp).length=cp*sz:=by
    have h1:sp.length=(cp-(es.length+news.length))*sz:=by simp only[sp,Array.length_toList,size_zeroCells,nw]
    rw[am,am,mm,jw,h1,ko,<-Nat.add_mul,<-Nat.add_mul];congr 1
    omega
   have j9:(w.drew.alloc obj).heap[w.heap.size]?=some (.cells ((vs++us)++sp).toArray E (0,0)):=by
    rw[<-pm];exact e8 w.drew _
   have k8:=hp.newtok (some w.heap.size) (fun g hg=>by
    cases hg;refine⟨fun t' ht=>?_,0, #[],_,?_,j9⟩
    .have:=pa.tlt t' _ (by simpa[Gh.setKind] using ht)
     omega
    .refine .inr ?_;show upd _ w.heap.size _ w.heap.size=_
     rw[uS])
   have lu:=Le.newtok (G:=(G.kill (.tok t)).setKind w.heap.size .ex) (w:=w.drew.alloc obj) (some w.heap.size);have gz:=(ku.trans Le.drew).trans (nz.trans lu);refine⟨.value _,_,_,_,jv _ _ hr,.inl rfl,gz,?_,k8,rfl⟩;refine .stk ⟨by simp only[Gh.newtok,Gh.setKind,Gh.kill];omega,_,cp,by rw[am],by rw[am];exact hge,hcm,fun q hq=>?_⟩;simp only[Gh.newtok,Gh.setKind,Gh.kill,lp,uS,ad] at hq;subst hq;refine⟨rfl,vs++us,sp,E,?_,j9,lx,(hf.mono gz.cells).append (jk.mono gz.cells),fun u hu=>Bw u (yP hu)⟩;show upd _ w.heap.size _ w.heap.size=_
   rw[uS]
  by_cases jp:es.length+news.length<=cap
  .cases y with
   | none=>have:=(mg rfl).2.1;omega
   | some g =>
    obtain⟨hA,sp,e,ow,hg,hlen,px⟩:=lj g rfl;subst hA;have i9:es.length*i.size+us.length<=(vs++sp).toArray.size:=by
     rw[jw,<-Nat.add_mul,fq,hlen,ko];exact bk _ jp
    have hr:=ly.room mw g es.length cap (vs++sp).toArray e hg jp i9;have husp:us.length<=sp.length:=by
     rw[fq,am,<-mm] at i9;omega
    have Dh:((vs++sp).toArray.toList.take (es.length*i.size)++us++(vs++sp).toArray.toList.drop (es.length*i.size+us.length)).toArray=((vs++us)++sp.drop us.length).toArray:=by
     congr 1
     simp only[<-mm];rw[c6 (nr0 _),bh,List.drop_append,List.drop_of_length_le (by omega),gg,d9]
    rw[Dh] at hr;have hkg':(G.kill (.tok t)).kind g=.ex:=ow
    have o8:=pa.fillx (new:=((vs++us)++sp.drop us.length).toArray) hkg' (kf g rfl) hg;have tj:=Le.fillx (w:=w) (new:=((vs++us)++sp.drop us.length).toArray) hkg' (kf g rfl) hg;have j9:=setRow_heap w g (vs++sp).toArray ((vs++us)++sp.drop us.length).toArray e (0,0) hg;have k8:=o8.newtok (some g) (fun g' hg'=>by
     cases hg'
     exact⟨kf g rfl,0, #[],_,.inr ow,j9⟩)
    have lu:=Le.newtok (G:=G.kill (.tok t)) (w:=w.setRow g ((vs++us)++sp.drop us.length).toArray) (some g);have gz:=ku.trans (tj.trans lu);refine⟨.value _,_,_,_,jv _ _ hr,.inl rfl,gz,?_,k8,rfl⟩;refine .stk ⟨by simp only[Gh.newtok,Gh.kill];omega,_,cap,by rw[am],by rw[am];exact jp,iu,fun q hq=>?_⟩;simp only[Gh.newtok,Gh.kill,lp,uS,ad] at hq;subst hq;refine⟨rfl,vs++us,sp.drop us.length,e,ow,j9,?_,(hf.mono gz.cells).append (jk.mono gz.cells),fun u hu=>px u (co hu)⟩;rw[am] at hlen;rw[am,am,d6];omega
  .have mj:cap<es.length+news.length:=by omega
   have hge:=grownCap_ge w (es.length+news.length) cap E;have hcm:=grownCap_le_maxLen w (es.length+news.length) cap E (by unfold maxLen;omega);cases A with
   | some b =>
    refine grow _ (ly.grow mw b es.length cap vs mm (fun q u hq=>?_) mj (by omega) (growslice_fits mj (by rw[mb];exact hbytes))) hge hcm;cases y with
    | none=>rw[(mg rfl).2.2] at hq;simp at hq
    | some g =>
     obtain⟨hA,sp,e,ow,hg,hlen,px⟩:=lj g rfl;cases hA;rw[bK,ee w g _ _ e (0,0) hg,b6];simp only[dy];rw[bg (a8.1 hq).1];exact hq
   | none =>
    cases y with
    | some g=>have:=(lj g rfl).1;cases this
    | none =>
     obtain⟨rfl,rfl,rfl⟩:=mg rfl;have hr:=ly.nil_ mw (by omega) (by rw[mb];simp only[c8,b6] at hbytes;omega);simp only[c8,b6] at grow hge hcm ⊢;refine grow _ ?_ hge hcm;simpa using hr
theorem aCr{o:Oper}{ρ:Operand->AV}{ρv:Operand->Value}{G:Gh}{m:bF}{w:World}{v:AV}{tok':Nat->Bool}{nt':Nat}(h:aC3 P o ρ m.tok m.nt v tok' nt')(hρ:∀x∈o.op.operands,RV G w (ρ x) (ρv x))(hm:aR G m w):
  dK P o ρv G w fun u G' w'=>RV G' w' v u/\aR G' { m with tok:=tok',nt:=nt' } w'/\G'.bx=G.bx:=by
 unfold aC3 at h;split at h
 .rename_i c ho;split at h
  .rename_i s x T T' ik hargs kz;have hs:=hρ s (by rw[ho];simp only[Op.operands,Call.operands,ik];rw[<-Array.mem_toList_iff];simp[hargs]);have hx:=hρ x (by rw[ho];simp only[Op.operands,Call.operands,ik];rw[<-Array.mem_toList_iff];simp[hargs]);split at h
   .rename_i E sz by' sz0 es own sz1 news hrow xq xr
    obtain⟨rfl,rb,xt,hbytes,ii,rfl,rfl,rfl⟩:=h;obtain⟨hE,i,z,hi,hz,nw,ko,mb,lc,ld⟩:=eW hrow;rw[xq] at hs;have ve:=hx.elems xr;generalize n7:ρv x=xv at ve;obtain⟨B,capx,us,rfl,pi,tr,qu⟩:=ve.flat;have jk:gX w.cell? G.ps sz news B us:=qu.resize xt
    have jw:=jk.len;rw[<-ko] at jw;refine(nK ho ik hargs kz hE hi hz nw ko mb lc ld rb hbytes ii hs n7 jk.v ?_ hm).imp fun u G' w' ⟨h1,h2,h3,_,_⟩=>⟨h1,h2,h3⟩
    refine⟨fun h0 A k cap hk=>?_,fun hp g sLen sCap cur e' hg jp i9=>?_,fun hp b sLen sCap olds h1 h2 h3 h4 h5=>?_,fun hp h1 h2=>?_⟩
    .rw[h0];exact lE (P:=P) _ o.type E i w hE hi A B k cap capx hk
    .obtain⟨a,rfl⟩:=jk.some_ (dg.1 hp);exact jY (P:=P) _ o.type E e' i w hE hi g sLen sCap cur hg a _ capx us jw (fun q u hq=>(jk.at_ a rfl q u hq).2) jk.one jp i9
    .obtain⟨a,rfl⟩:=jk.some_ (dg.1 hp);exact run_append_grow (P:=P) w _ o.type E i z hE hi hz b sLen sCap olds h1 h2 a _ capx us jw (fun q u hq=>(jk.at_ a rfl q u hq).2) h3 h4 h5
    .obtain⟨a,rfl⟩:=jk.some_ (dg.1 hp);exact run_append_nil (P:=P) w _ o.type E i z hE hi hz a _ capx us jw (fun q u hq=>(jk.at_ a rfl q u hq).2) hp h1 h2
   .exact h.elim
  .exact h.elim
 .exact h.elim
theorem aAt{w:World}{T ty E:TypeId}{i:TypeInfo}{z:Value}(hE:P.underlying T=some (.slice E))(hi:P.info? E=some i)(hz:i.zero=some z){B:Option Addr}{n capx:Nat}{us:List Value}(pi:n<=capx)(jw:us.length=n*i.size)(lj:0<n->∃a,B=some a)(jj:∀a,B=some a->∀q u,us[q]?=some u->w.cell? (a.add q)=some u)(jc:∀u∈us,u.oneCell'=true):Src P w T T ty E i z (.slice B n capx) n us:=by
 refine⟨fun h0 A k cap hk=>?_,fun hp g sLen sCap cur e' hg jp i9=>?_,fun hp b sLen sCap olds h1 h2 h3 h4 h5=>?_,fun hp h1 h2=>?_⟩
 .rw[h0];exact lE (P:=P) _ ty E i w hE hi A B k cap capx hk
 .obtain⟨a,rfl⟩:=lj hp;exact jY (P:=P) _ ty E e' i w hE hi g sLen sCap cur hg a _ capx us jw (fun q u hq=>jj a rfl q u hq) jc jp i9
 .obtain⟨a,rfl⟩:=lj hp;exact run_append_grow (P:=P) w _ ty E i z hE hi hz b sLen sCap olds h1 h2 a _ capx us jw (fun q u hq=>jj a rfl q u hq) h3 h4 h5
 .obtain⟨a,rfl⟩:=lj hp;exact run_append_nil (P:=P) w _ ty E i z hE hi hz a _ capx us jw (fun q u hq=>jj a rfl q u hq) hp h1 h2
theorem yD(t ty e e':TypeId)(i:TypeInfo)(w:World)(ht:P.underlying t=some (.slice e))(hi:P.info? e=some i)(g d sLen sCap:Nat)(cur:Array Value)(hg:w.heap[g]?=some (.cells cur e' (0,0)))(a:Addr)(m c:Nat)(news:List Value)(hl:news.length=m*i.size)(th:∀j u,news[j]?=some u->w.cell? (a.add j)=some u)(h1:∀u∈news,u.oneCell'=true)(jp:sLen+m<=sCap)(i9:d+sLen*i.size+news.length<=cur.size):
  (Builtin.append_ #[t,t] ty #[.slice (some ⟨g,d,none⟩) sLen sCap,.slice (some a) m c]).run P w =
   .ok (.slice (some ⟨g,d,none⟩) (sLen+m) sCap) (w.setRow g (cur.toList.take (d+sLen*i.size)++news++cur.toList.drop (d+sLen*i.size+news.length)).toArray):=by
 have hf:=run_firstCells_some (P:=P) w i.size m a m c news hl th;have jo:=run_storeCells_at P g (d+sLen*i.size) e' news 0 cur w hg (by simpa using i9) h1;simp only[e9] at jo;simp[Builtin.append_,bm ht,sizeOf,typeInfo,hi,Builtin.lenOf,jp,hf,bK,jo]
theorem aC6{o:Oper}{ρv:Operand->Value}{G:Gh}{m:bF}{w:World}{c:Call}{s x:Operand}{T E:TypeId}{i:TypeInfo}{z:Value}{t sz by':Nat}{es news:List (List D)}{xv:Value}(ho:o.op=.call c)(ik:c.callee=.builtin .append)(hargs:c.args.toList=[s,x])(kz:c.argTypes.toList=[T,T])(hE:P.underlying T=some (.slice E))(hi:P.info? E=some i)(hz:i.zero=some z)(nw:z.cells.size=sz)(ko:i.size=sz)(mb:i.bytes=by')(lc:0<sz)(ld:0<by')(hne:news≠[])(hbytes:(es.length+news.length)*by'<=140737488355328)(ii:m.tok t=true)(hs:RV G w (.que t sz es) (ρv s))(n7:ρv x=xv)(hx:RVd w.cell? G.ps (.sl sz news) xv)(hm:aR G m w):
  dK P o ρv G w fun u G' w'=>RV G' w' (.que m.nt sz (es++news)) u/\aR G' { m with tok:=upd (upd m.tok t false) m.nt true,nt:=m.nt+1 } w'/\G'.bx=G.bx:=by
 generalize zx:ρv s=sv at hs;have jv:∀u w',(Builtin.append_ #[T,T] o.type #[sv,xv]).run P w=.ok u w'->(execOp ρv o).run P w=.ok (.value u) w':=by
  intro u w' hr;have e1:c.args.map ρv = #[sv,xv]:=by
   have:(c.args.map ρv).toList=[sv,xv]:=by rw[fl,hargs];simp[zx,n7]
   rw[<-Array.toList_inj,this]
  have e2:c.argTypes = #[T,T]:=by rw[<-Array.toList_inj,kz]
  simp only[execOp,ho,resolve,ik,aw,ay,aj,invoke,builtin,e1,e2,hr]
 cases hs with
 | que hd hq =>
  obtain⟨z7,hq⟩:=hq;obtain⟨_,y,hy⟩:=hm.toks t ii;have hq:=hq y hy;obtain⟨A,cap,vs,rfl,iq,iu,mf⟩:=hd.flat;obtain⟨B,capx,us,rfl,pi,tr,jk⟩:=hx.flat;have pa:=hm.kill (.tok t);have ku:=Le.kill (G:=G) (w:=w) (.tok t);have lp:G.nt=m.nt:=hm.nt
  have mw:0<news.length:=dg.2 hne
  have jw:us.length=news.length*i.size:=by rw[ko];exact jk.len
  have mm:vs.length=es.length*i.size:=by rw[ko];exact mf.len
  obtain⟨b,rfl⟩:=jk.some_ hne;have AY:∀q u,us[q]?=some u->w.cell? (b.add q)=some u:=fun q u hq=>(jk.at_ b rfl q u hq).2
  have wl:(vs++us).length=(es.length+news.length)*sz:=by rw[am,mm,jw,ko,cb]
  have grow:∀cp,(Builtin.append_ #[T,T] o.type #[.slice A es.length cap,.slice (some b) news.length capx]).run P w =
    .ok (.slice (some ⟨w.heap.size,0,none⟩) (es.length+news.length) cp) (w.drew.alloc (.cells (vs.toArray++us.toArray++Builtin.zeroCells z.cells (cp-(es.length+news.length))) E)) ->
    es.length+news.length<=cp->cp<=maxLen ->
    dK P o ρv G w fun u G' w'=>RV G' w' (.que m.nt sz (es++news)) u/\aR G' { m with tok:=upd (upd m.tok t false) m.nt true,nt:=m.nt+1 } w'/\G'.bx=G.bx:=by
   intro cp hr hge hcm;have wk:=pa.drew
   let obj:Obj:=.cells (vs.toArray++us.toArray++Builtin.zeroCells z.cells (cp-(es.length+news.length))) E
   have hp:=wk.newpart ((es.length+news.length)*sz) (cp*sz) obj;have nz:=Le.newpart wk ((es.length+news.length)*sz) (cp*sz) obj;have lx:(vs.toArray++us.toArray++Builtin.zeroCells z.cells (cp-(es.length+news.length))).size=cp*sz:=by
    simp only[Array.size_append,fq,size_zeroCells,nw,mm,jw,ko,<-Nat.add_mul];congr 1
    omega
   have k8:=hp.newtok (some w.heap.size) (fun g hg=>by
    cases hg;refine⟨fun t ht=>?_,(es.length+news.length)*sz,vs.toArray++us.toArray++Builtin.zeroCells z.cells (cp-(es.length+news.length)),_,?_,e8 w.drew _⟩
    .have:=pa.tlt t _ (by simpa[Gh.setKind] using ht)
     omega
    .rw[lx];refine .inl ⟨?_,E,rfl⟩;show upd _ w.heap.size _ w.heap.size=_
     rw[uS])
   have lu:=Le.newtok (G:=(G.kill (.tok t)).setKind w.heap.size (.part ((es.length+news.length)*sz) (cp*sz))) (w:=w.drew.alloc obj) (some w.heap.size);have gz:=(ku.trans Le.drew).trans (nz.trans lu);refine⟨.value _,_,_,_,jv _ _ hr,.inl rfl,gz,?_,k8,rfl⟩;have j8:gX (w.drew.alloc obj).cell? (Gh.ps (((G.kill (.tok t)).setKind w.heap.size (.part ((es.length+news.length)*sz) (cp*sz))).newtok (some w.heap.size))) sz (es++news) (some ⟨w.heap.size,0,none⟩) (vs++us):=by
    refine(mf.mono gz.cells).append (jk.v.mono gz.cells) _ (fun q u hq=>?_);have hlt:q<(vs++us).length:=(a8.1 hq).1
    rw[bK];refine⟨?_,?_⟩
    .show (match upd (G.kill (.tok t)).kind w.heap.size (BK.part ((es.length+news.length)*sz) (cp*sz)) w.heap.size with|.whole=>True|.part f _=>0+q<f|.box=>False|.ex=>False)
     rw[uS];show 0+q<_
     omega
    .rw[ee _ w.heap.size (0+q) (vs.toArray++us.toArray++Builtin.zeroCells z.cells (cp-(es.length+news.length))) E (0,0) (e8 w.drew _)];rw[b6,Array.getElem?_append_left (by simpa using hlt)];simpa using hq
   have:=RVd.of_flat (cap:=cp) (by simpa using hge) hcm j8
   rw[am] at this;refine .que this ⟨by simp only[Gh.newtok,Gh.setKind,Gh.kill];omega,fun y hy=>?_⟩;simp only[Gh.newtok,Gh.setKind,Gh.kill,lp,uS,ad] at hy;subst hy;refine .inr ⟨w.heap.size,0,cp,rfl,by simp,?_⟩;simp only[Gh.newtok,Gh.setKind,uS,am,b6]
  have growA:cap<es.length+news.length->(A=none->cap=0)->dK P o ρv G w fun u G' w'=>RV G' w' (.que m.nt sz (es++news)) u/\aR G' { m with tok:=upd (upd m.tok t false) m.nt true,nt:=m.nt+1 } w'/\G'.bx=G.bx:=by
   intro mj Di;have hge:=grownCap_ge w (es.length+news.length) cap E;have hcm:=grownCap_le_maxLen w (es.length+news.length) cap E (by unfold maxLen;have:=Nat.mul_le_mul_left (es.length+news.length) ld;omega);cases A with
   | some a =>
    exact grow _ (run_append_grow (P:=P) w T o.type E i z hE hi hz a es.length cap vs mm (fun q u hq=>(mf.at_ a rfl q u hq).2) b _ capx us jw AY mj (by have:=Nat.mul_le_mul_left (es.length+news.length) ld;omega) (growslice_fits mj (by rw[mb];exact hbytes))) hge hcm
   | none =>
    have mc:es=[]:=dq fun h=>by obtain⟨b,hb⟩:=mf.some_ h;cases hb
    subst mc;have vd:vs=[]:=bf (by simpa using mm)
    subst vd;have z6:=Di rfl;subst z6;have hr:=run_append_nil (P:=P) w T o.type E i z hE hi hz b _ capx us jw AY mw (by have:=Nat.mul_le_mul_left ((([]:List (List D)).length+news.length)) ld;simp only[c8,b6] at this hbytes;omega) (by rw[mb];simp only[c8,b6] at hbytes;omega);simp only[c8,b6] at grow hge hcm ⊢;refine grow _ ?_ hge hcm;simpa using hr
  rcases hq with ⟨A',hA⟩|⟨g,d,cap',rfl,hA,ow⟩
  .injection hA with h1 _ h3
   subst h3;refine growA (by omega) fun hn=>?_
   subst hn;exact dh.2 (dq fun h=>by obtain⟨b,hb⟩:=mf.some_ h;cases hb)
  .injection hA with h1 _ h3
   subst h1;subst h3;by_cases jp:es.length+news.length<=cap
   .obtain⟨f,cur,o',hkg',hg⟩:=hm.tokb t g hy;rw[ow] at hkg';rcases hkg' with ⟨hkg',e',rfl⟩|hkg'
    case inr=>cases hkg'
    injection hkg' with hf1 hc1
    have hcz:cap*sz=es.length*sz+(cap-es.length)*sz:=by rw[<-Nat.add_mul];congr 1;omega
    have Bz:news.length*sz<=(cap-es.length)*sz:=bk _ (by omega)
    have i9:d+es.length*i.size+us.length<=cur.size:=by rw[jw,ko];omega
    have hr:=yD (P:=P) T o.type E e' i w hE hi g d es.length cap cur hg b _ capx us jw AY jk.one jp i9;rw[ko] at hr i9;have kf:∀t',(G.kill (.tok t)).tk t'≠some (some g):=by
     intro t' k9;simp only[Gh.kill] at k9;by_cases e:t'=t
     .subst e;simp[uS] at k9
     .rw[uO _ _ e] at k9;exact e (hm.tinj t' t g k9 hy)
    let new:Array Value:=(cur.toList.take (d+es.length*sz)++us++cur.toList.drop (d+es.length*sz+us.length)).toArray
    have e1:cur.toList.length=cur.size:=by simp
    have hlt:(List.take (d+es.length*sz) cur.toList).length=d+es.length*sz:=by rw[cf];omega
    have lz:∀q,q<d+es.length*sz->new[q]?=cur[q]?:=by
     intro q hq;simp only[new,dy];rw[cy,bg (by omega),eg hq];simp
    have C7:d+es.length*sz<=d+(es.length+news.length)*sz:=by rw[cb];omega
    have o8:=pa.fill (g:=g) (f:=d+es.length*sz) (f':=d+(es.length+news.length)*sz) (c:=d+cap*sz) ow C7 kf hg lz;have tj:=Le.fill (G:=G.kill (.tok t)) (w:=w) (g:=g) (f:=d+es.length*sz) (f':=d+(es.length+news.length)*sz) (c:=d+cap*sz) ow C7 kf hg lz;have tq:new.size=d+cap*sz:=by
     simp only[new,fq,am,cf,d6,Array.length_toList];omega
    have k8:=o8.newtok (some g) (fun g' hg'=>by
     cases hg'
     refine⟨fun t' k9=>kf t' k9,d+(es.length+news.length)*sz,new,_,?_,setRow_heap w g cur new e' (0,0) hg⟩;rw[tq];refine .inl ⟨?_,e',rfl⟩;show upd _ g _ g=_
     rw[uS])
    have lu:=Le.newtok (G:=(G.kill (.tok t)).setKind g (.part (d+(es.length+news.length)*sz) (d+cap*sz))) (w:=w.setRow g new) (some g);have gz:=ku.trans (tj.trans lu);refine⟨.value _,_,_,_,jv _ _ hr,.inl rfl,gz,?_,k8,rfl⟩;have j8:gX (w.setRow g new).cell? (Gh.ps (((G.kill (.tok t)).setKind g (.part (d+(es.length+news.length)*sz) (d+cap*sz))).newtok (some g))) sz (es++news) (some ⟨g,d,none⟩) (vs++us):=by
     refine(mf.mono gz.cells).append (jk.v.mono gz.cells) _ (fun q u hq=>?_);have Bv:q<(vs++us).length:=(a8.1 hq).1
     rw[bK];refine⟨?_,?_⟩
     .show (match upd (G.kill (.tok t)).kind g (BK.part (d+(es.length+news.length)*sz) (d+cap*sz)) g with|.whole=>True|.part f _=>d+q<f|.box=>False|.ex=>False)
      rw[uS];show d+q<_
      omega
     .rw[cell_setRow_same w g (d+q) cur new e' (0,0) hg];by_cases AZ:q<vs.length
      .rw[bg AZ] at hq;rw[lz (d+q) (by have:=mf.len;omega)];have:=(mf.at_ ⟨g,d,none⟩ rfl q u hq).2
       rw[bK,ee w g _ cur e' (0,0) hg] at this;exact this
      .rw[da (by omega)] at hq;have xo:q-vs.length<us.length:=(a8.1 hq).1
       have py:=mf.len;simp only[new,dy];rw[cy,da (by rw[hlt];omega),hlt,show d+q-(d+es.length*sz)=q-vs.length by omega,bg xo];exact hq
    have:=RVd.of_flat (cap:=cap) (by simpa using jp) iu j8
    rw[am] at this;refine .que this ⟨by simp only[Gh.newtok,Gh.setKind,Gh.kill];omega,fun y hy=>?_⟩;simp only[Gh.newtok,Gh.setKind,Gh.kill,lp,uS,ad] at hy;subst hy;refine .inr ⟨g,d,cap,rfl,by simp,?_⟩;simp only[Gh.newtok,Gh.setKind,uS,am]
   .exact growA (by omega) fun h=>by cases h
theorem aDM{o:Oper}{ρv:Operand->Value}{G:Gh}{m:bF}{w:World}{c:Call}{s x:Operand}{T T':TypeId}{sa xa v:AV}{tok':Nat->Bool}{φ:Prop}(ho:o.op=.call c)(ik:c.callee=.builtin .append)(hargs:c.args.toList=[s,x])(kz:c.argTypes.toList=[T,T'])(h:aJ2 P T T' sa xa m.tok m.nt=some (φ,v,tok'))(hφ:φ)(hs:RV G w sa (ρv s))(hx:RV G w xa (ρv x))(hm:aR G m w):
  dK P o ρv G w fun u G' w'=>RV G' w' v u/\aR G' { m with tok:=tok',nt:=m.nt+1 } w'/\G'.bx=G.bx:=by
 unfold aJ2 at h;split at h
 .rename_i E sz by' t sz0 es hrow
  split at h
  .rename_i sz1 news xr;simp only[ad,aq] at h;obtain⟨rfl,rfl,rfl⟩:=h;obtain⟨rfl,rfl,xt,Bw,hbytes,ii⟩:=hφ;obtain⟨hE,i,z,hi,hz,nw,ko,mb,lc,ld⟩:=eW hrow;have ve:=hx.elems xr;generalize n7:ρv x=xv at ve;obtain⟨B,capx,us,rfl,pi,tr,qu⟩:=ve.flat;have jk:gX w.cell? G.ps sz0 news B us:=qu.resize xt
   have jw:=jk.len;rw[<-ko] at jw;have jo:yH G w t sz0 es (ρv s):=by
    generalize ρv s=sv at hs;cases hs with|stk h=>exact h
   exact aCR ho ik hargs kz hE hi hz nw ko mb lc ld (aHZ Bw hi hz) hbytes ii jo n7 jk.v (aAt hE hi hz pi jw (fun hp=>jk.some_ (dg.1 hp)) (fun a ha q u hq=>(jk.at_ a ha q u hq).2) jk.one) hm
  .cases h
 .rename_i E sz by' t sz0 es hrow
  split at h
  .rename_i sz1 news xr;simp only[ad,aq] at h;obtain⟨rfl,rfl,rfl⟩:=h;obtain⟨rfl,rfl,rfl,hne,hbytes,ii⟩:=hφ;obtain⟨hE,i,z,hi,hz,nw,ko,mb,lc,ld⟩:=eW hrow;exact aC6 ho ik hargs kz hE hi hz nw ko mb lc ld hne hbytes ii hs rfl (hx.elems xr) hm
  .cases h
 .rename_i E sz by' sz0 es own hrow
  split at h
  .rename_i t sz1 news;simp only[ad,aq] at h;obtain⟨rfl,rfl,rfl⟩:=h;obtain⟨rfl,rb,rfl,hbytes,ii,hlt⟩:=hφ;obtain⟨hE,i,z,hi,hz,nw,ko,mb,lc,ld⟩:=eW hrow;have jo:yH G w t sz1 news (ρv x):=by
    generalize ρv x=sv at hx;cases hx with|stk h=>exact h
   obtain⟨Bx,B,capx,n7,pi,tr,jo⟩:=jo;obtain⟨_,y,hy⟩:=hm.toks t hlt;have jo:=jo y hy;obtain⟨us,hf,jj⟩:∃us,cL w.cell? G.ps sz1 news us/\(0<news.length->∃a,B=some a)/\(∀a,B=some a->∀q u,us[q]?=some u->w.cell? (a.add q)=some u):=by
    cases y with
    | none =>
     have mc:news=[]:=bf (by have:capx=0:=jo;omega)
     subst mc;exact⟨[],cL.none_ _ _ _,(fun h=>by simp at h),fun a _ q u hq=>by simp at hq⟩
    | some g =>
     obtain⟨hA,vs,sp,e,h1,h2,h3,h4,h5⟩:=jo;refine⟨vs,h4,fun _=>⟨_,hA⟩,fun a ha q u hq=>?_⟩;rw[hA] at ha;cases ha;rw[bK,ee w g _ _ e (0,0) h2,b6];simp only[dy];rw[bg (a8.1 hq).1];exact hq
   have jw:=hf.len;rw[<-ko] at jw;exact(nK ho ik hargs kz hE hi hz nw ko mb lc ld rb hbytes ii hs n7 hf (aAt hE hi hz pi jw jj.1 jj.2 hf.one) hm).imp fun u G' w' ⟨h1,h2,h3,_,_⟩=>⟨h1,h2,h3⟩
  .cases h
 .cases h
theorem vI{w:World}{T T' ty E:TypeId}{i:TypeInfo}{z:Value}(str:ByteArray)(hE:P.underlying T=some (.slice E))(hT:aW P T'=true)(hi:P.info? E=some i)(hz:i.zero=some z)(h1:i.size=1):
  Src P w T T' ty E i z (.string str) str.size (Lib.strCells str):=by
 have Ba:P.underlying T'=some .string:=by
  unfold aW at hT;split at hT
  .assumption
  .cases hT
 have mj:(Lib.strCells str).length=str.size:=Lib.strCells_length str
 refine⟨fun h0 A k cap hk=>?_,fun hp g sLen sCap cur e' hg jp i9=>?_,fun hp b sLen sCap olds h1 h2 h3 h4 h5=>Lib.run_append_grow_string (P:=P) w T T' ty E i z hE Ba hi hz b sLen sCap olds h1 h2 str h3 h4 h5,fun hp h1 h2=>?_⟩
 .have hn:Lib.strCells str=[]:=bf (by rw[mj];exact h0)
  have hf:=Lib.run_firstCells_string (P:=P) w i.size str;rw[h0,hn] at hf;rw[h1] at hf;cases A<;>simp[Builtin.append_,bm hE,bm Ba,sizeOf,typeInfo,hi,h1,Builtin.lenOf,h0,hf,hk,storeCells]
 .rw[mj,h1,gq] at i9;have hf:=Lib.run_firstCells_string (P:=P) w 1 str;have jo:=run_storeCells_at P g sLen e' (Lib.strCells str) 0 cur w hg (by simpa[Lib.strCells_length] using i9) (Lib.strCells_oneCell str);simp only[e9,Lib.strCells_length] at jo;rw[h1,gq,mj];simp[Builtin.append_,bm hE,bm Ba,sizeOf,typeInfo,hi,h1,Builtin.lenOf,jp,hf,Addr.add_lit,jo]
 .have hr:=run_append_nil_string (P:=P) w T T' ty E i z hE Ba hi hz str hp h1 h2;have e1:(str.data.map fun b=>Value.int .u8 b.toNat)=(Lib.strCells str).toArray:=by
   apply Array.ext';simp[Lib.strCells]
  rw[e1] at hr;exact hr
theorem aD8{o:Oper}{ρ:Operand->AV}{ρv:Operand->Value}{G:Gh}{m:bF}{w:World}{v:AV}{tok':Nat->Bool}{nt':Nat}(h:aHx P o ρ m.tok m.nt v tok' nt')(hρ:∀x∈o.op.operands,RV G w (ρ x) (ρv x))(hm:aR G m w):
  dK P o ρv G w fun u G' w'=>RV G' w' v u/\aR G' { m with tok:=tok',nt:=nt' } w'/\G'.bx=G.bx:=by
 unfold aHx at h;split at h
 .rename_i c ho;split at h
  .rename_i s x T T' ik hargs kz;have hs:=hρ s (by rw[ho];simp only[Op.operands,Call.operands,ik];rw[<-Array.mem_toList_iff];simp[hargs]);have hx:=hρ x (by rw[ho];simp only[Op.operands,Call.operands,ik];rw[<-Array.mem_toList_iff];simp[hargs]);obtain⟨φ,h,hφ,rfl⟩:=h;unfold aJX at h;split at h
   .rename_i str rc;rw[rc] at hx;have n7:ρv x=.string str:=by
     generalize ρv x=xw at hx;cases hx with
     | d h1=>cases h1;rfl
    have qd:(fO str).length=str.size:=aEo str
    have out:∀{es:List (List D)} {own:Own} {u:Value} {G':Gh} {w':World},∀{E:TypeId},RV G' w' (.osl 1 (es++fO str) (.tok m.nt)) u->G'.tk m.nt≠some none->(∀g',G'.tk m.nt=some (some g')->∃cs f,w'.heap[g']?=some (.cells cs E f))->RV G' w' (.buf E m.nt (es++fO str)) u:=fun {es own u G' w' E} h1 h2 h5=>by
     cases h1 with
     | osl h3 h4=>exact .buf h3 h4 h2 h5
    split at h
    .rename_i E sz by' sz0 hrow xq
     simp only[ad,aq] at h;obtain⟨rfl,rfl,rfl⟩:=h;obtain⟨hT,rfl,h0,hb⟩:=hφ;obtain⟨hE,i,z,hi,hz,nw,ko,mb,lc,ld⟩:=eW hrow;rw[xq] at hs;have ly:=vI (P:=P) (w:=w) (ty:=o.type) str hE hT hi hz ko;rw[<-qd] at ly;refine(nK (news:=fO str) ho ik hargs kz hE hi hz nw ko mb lc ld (.inr ⟨rfl,rfl⟩) (by simpa[qd] using hb) rfl hs n7 (cL.bytes _ _ str) ly hm).imp fun u G' w' ⟨h1,h2,h3,h4,h5⟩=>⟨?_,h2,h3⟩
     exact out (es:=[]) (own:=.full) h1 (h4 (.inl fun e=>by rw[e] at qd;simp at qd;omega)) (h5 fun t g e=>by cases e)
    .rename_i E sz by' E' t es hrow xq
     simp only[ad,aq] at h;obtain⟨rfl,rfl,rfl⟩:=h;obtain⟨hT,rfl,rfl,hb,ht⟩:=hφ;obtain⟨hE,i,z,hi,hz,nw,ko,mb,lc,ld⟩:=eW hrow;rw[xq] at hs;have ly:=vI (P:=P) (w:=w) (ty:=o.type) str hE hT hi hz ko;rw[<-qd] at ly;obtain⟨_,y,hy⟩:=hm.toks t ht;have o9:RV G w (.osl 1 es (.tok t)) (ρv s)/\G.tk t≠some none/\∀g,G.tk t=some (some g)->∃cs f,w.heap[g]?=some (.cells cs E' f):=by
      generalize ρv s=sv at hs;cases hs with
      | buf h1 h2 h3 h6=>exact⟨.osl h1 h2,h3,h6⟩
     have Dj:∃g,G.tk t=some (some g):=by
      cases y with
      | none=>exact absurd hy o9.2.1
      | some g=>exact⟨g,hy⟩
     obtain⟨g,hg⟩:=Dj;refine(nK (news:=fO str) (own:=.tok t) ho ik hargs kz hE hi hz nw ko mb lc ld (.inl rfl) (by simpa[qd] using hb) ht o9.1 n7 (cL.bytes _ _ str) ly hm).imp fun u G' w' ⟨h1,h2,h3,h4,h5⟩=>⟨?_,h2,h3⟩
     exact out (es:=es) (own:=.full) h1 (h4 (.inr ⟨t,g,rfl,hg⟩)) (h5 fun t' g' e h=>by cases e;exact o9.2.2 g' h)
    .cases h
   .exact aDM ho ik hargs kz h hφ hs hx hm
  .exact h.elim
 .exact h.elim
theorem zT{T:TypeId}(h:aD7 P T=true):∃kt et,P.underlying T=some (.map kt et)/\P.underlying kt=some .string/\∀w,(zeroValue et).run P w=.ok (.slice none 0 0) w:=by
 unfold aD7 at h;split at h
 .rename_i kt et hT;simp only[bd] at h;obtain⟨h1,h2⟩:=h;refine⟨kt,et,hT,?_,fun w=>?_⟩
  .split at h1
   .assumption
   .cases h1
  .split at h2
   .rename_i i hi;split at h2
    .rename_i hz;simp[zeroValue,typeInfo,hi,hz]
    .cases h2
   .cases h2
 .cases h
theorem aHQ(a b:ByteArray):(a==b)=decide (a=b):=by
 cases a with|mk a=>cases b with|mk b =>
 show (a==b)=_
 rw[dl,gr,au];simp
theorem mX(s:ByteArray):∀(l:List MapEntry) (ks:List ByteArray) (k:Nat),l.map (·.key)=ks.map Value.string->Instr.findNow .string (.string s) l k=some ((ks.findIdx? fun x=>decide (x=s)).bind fun i=>(l[i]?).map fun e=>(k+i,e.val))
 | [],[],k,_=>rfl
 | [],_::_,k,h=>by simp at h
 | _::_,[],k,h=>by simp at h
 | e::l,b::ks,k,h=>by
  simp only[de,List.cons.injEq] at h;unfold Instr.findNow;rw[h.1];simp only[Instr.sameNow,aHQ];by_cases hb:s=b
  .subst hb;simp[List.findIdx?_cons]
  .have h2:¬b=s:=fun e=>hb e.symm
   rw[List.findIdx?_cons];simp only[hb,h2,decide_false,mX s l ks (k+1) h.2,bt,↓reduceIte];cases ks.findIdx? fun x=>decide (x=s) with
   | none=>rfl
   | some i =>
    simp only[dd,ew,List.getElem?_cons_succ];cases l[i]? with
    | none=>rfl
    | some e=>simp;omega
theorem EnR.keys{c:Addr->Option Value}{ps:Addr->Prop}{es:List (ByteArray × List (List D))}{en:Array MapEntry}(h:EnR c ps es en):en.toList.map (·.key)=(es.map (·.1)).map Value.string:=by
 refine f9 (by simp[h.1]) fun i h1 h2=>?_
 simp at h1 h2;simp[(h.2 i h2 h1).1]
theorem lX{w:World}{T:TypeId}{r:Nat}{en:Array MapEntry}{k:Nat}{c:Addr->Option Value}{ps:Addr->Prop}{es:List (ByteArray × List (List D))}(hT:aD7 P T=true)(hb:w.heap[r]?=some (.map en k))(he:EnR c ps es en)(s:ByteArray):
  (Instr.lookup T (.map (some r)) (.string s) false).run P w=.ok (match ((es.map (·.1)).findIdx? fun x=>decide (x=s)) with|some i=>(en[i]?.map (·.val)).getD (.slice none 0 0)|none=>.slice none 0 0) w:=by
 obtain⟨kt,et,h1,h2,h3⟩:=zT hT;have hf:=mX s en.toList (es.map (·.1)) 0 he.keys;have hc:(Instr.checkKey en.isEmpty 10000 kt (.string s)).run P w=.ok () w:=MapKept.run_checkKey (k:=.string s) h2 (by simp[MapKept.IsKey]) _ 9999
 have hk:=MapKept.run_findKey (w:=w) h2 hf;cases hi:((es.map (·.1)).findIdx? fun x=>decide (x=s)) with
 | none =>
  rw[hi] at hk;simp only[Option.bind_none] at hk;simp[Instr.lookup,bm h1,MapKept.run_getObj_map hb,hc,hk,h3,Result.andThen]
 | some i =>
  have hlt:i<en.size:=by
   have:=(d4.1 hi).1
   rw[br,he.1] at this;exact this
  rw[hi] at hk;have hg:en.toList[i]?=some en[i]:=by simp[hlt]
  simp only[ew,hg,dd] at hk;simp[Instr.lookup,bm h1,MapKept.run_getObj_map hb,hc,hk,hlt,Result.andThen]
theorem uZ{α:Type}(p:α->Bool):∀l:List α,l.find? p=(l.findIdx? p).bind fun i=>l[i]?
 | []=>rfl
 | x::l=>by
  rw[List.find?_cons,List.findIdx?_cons];cases p x with
  | true=>simp
  | false =>
   rw[uZ p l];cases l.findIdx? p<;>simp
theorem vQ{α:Type}(f:α->ByteArray)(s:ByteArray)(l:List α):((l.map f).findIdx? fun x=>decide (x=s))=l.findIdx? fun e=>decide (f e=s):=by
 rw[List.findIdx?_map];rfl
theorem RV.nil0{G:Gh}{w:World}:RV G w (.osl 0 [] .full) (.slice none 0 0) :=
 .osl (.sl (fun _ _=>default) (ai _) (by decide) (by simp) (by simp) (by simp) (by simp)) ⟨none,rfl,fun _=>rfl⟩
theorem aEq{o:Oper}{ρ:Operand->AV}{ρv:Operand->Value}{G:Gh}{m:bF}{w:World}{v:AV}{tok':Nat->Bool}{nt':Nat}(h:aOb P o ρ m.tok m.nt v tok' nt')(hρ:∀x∈o.op.operands,RV G w (ρ x) (ρv x))(hm:aR G m w):
  dK P o ρv G w fun u G' w'=>RV G' w' v u/\aR G' { m with tok:=tok',nt:=nt' } w'/\G'.bx=G.bx:=by
 obtain⟨φ,h,hφ⟩:=h;unfold fM at h;split at h
 .rename_i T ho;simp only[ad,aq] at h;obtain⟨rfl,rfl,rfl,rfl⟩:=h;have hp:=hm.newkind .ex (.map #[] 0);have nz:=Le.newkind hm .ex (.map #[] 0);have j9:(w.alloc (.map #[] 0)).heap[w.heap.size]?=some (.map #[] 0):=e8 w _
  have k8:=hp.newtok (some w.heap.size) (fun g hg=>by
   cases hg;refine⟨fun t ht=>?_,0, #[],_,.inr ?_,j9⟩
   .have:=hm.tlt t _ (by simpa[Gh.setKind] using ht)
    omega
   .show upd _ w.heap.size _ w.heap.size=_
    rw[uS])
  have lu:=Le.newtok (G:=G.setKind w.heap.size .ex) (w:=w.alloc (.map #[] 0)) (some w.heap.size);refine⟨.value (.map (some w.heap.size)),_,_,_,?_,.inl rfl,nz.trans lu,?_,k8,rfl⟩
  .simp[execOp,ho,Instr.makeMap]
  .have lp:=hm.nt;refine .mp ⟨by simp only[Gh.newtok,Gh.setKind];omega,by simp,_,rfl,fun x hx=>?_⟩;simp only[Gh.newtok,Gh.setKind,lp,uS,ad] at hx;subst hx;refine⟨rfl,?_, #[],0,j9,⟨rfl,fun i h1 _=>by simp[mpE] at h1⟩,fun i h1 _=>by simp at h1⟩;show upd _ w.heap.size _ w.heap.size=_
   rw[uS]
 .rename_i T x y ho;have hx:=hρ x (by rw[ho];simp[Op.operands]);have hy:=hρ y (by rw[ho];simp[Op.operands]);split at h
  .rename_i t es s h1 h2;simp only[ad,aq] at h;obtain⟨rfl,rfl,rfl,rfl⟩:=h;obtain⟨hT,ht⟩:=hφ;rw[h1] at hx;rw[h2] at hy;have zt:ρv y=.string s:=by
    generalize ρv y=u at hy;cases hy with|d h=>cases h;rfl
   generalize n7:ρv x=xv at hx;cases hx with
   | mp hx =>
    obtain⟨_,_,r,rfl,hx⟩:=hx;obtain⟨_,z,hz⟩:=hm.toks t ht;obtain⟨rfl,hk,en,k,hh,he,Bb⟩:=hx z hz;have jd:=lX hT hh he s;refine⟨.value _,_,G,w,by simp only[execOp,ho,n7,zt,aw,jd,aj,ay];rfl,.inl rfl,Le.refl G w,?_,hm,rfl⟩;unfold aL3;rw[uZ,mpE,List.map_map,show ((fun x:ByteArray × List (List D)=>x.1) ∘ fun e:ByteArray × List (List D) × Own=>(e.1,e.2.1))=fun e=>e.1 from rfl,vQ];cases hi:es.findIdx? fun e=>decide (e.1=s) with
    | none=>exact RV.nil0
    | some i =>
     have hlt:=(d4.1 hi).1;have ja:i<en.size:=by have:=he.1;simp[mpE] at this;omega
     have hr:=(he.2 i (by simpa[mpE] using hlt) ja).2;simp only[mpE,bj] at hr;simp only[ew,ab hlt,fk ja,dd,du];exact .osl hr (Bb i hlt ja)
  .rename_i es s h1 h2;simp only[ad,aq] at h;obtain⟨rfl,rfl,rfl,rfl⟩:=h;have hT:=hφ;rw[h1] at hx;rw[h2] at hy;have zt:ρv y=.string s:=by
    generalize ρv y=u at hy;cases hy with|d h=>cases h;rfl
   generalize n7:ρv x=xv at hx;cases hx with
   | mpd hx =>
    obtain⟨r,rfl,hk,en,k,hh,he⟩:=hx;have jd:=lX hT hh he s;refine⟨.value _,_,G,w,by simp only[execOp,ho,n7,zt,aw,jd,aj,ay];rfl,.inl rfl,Le.refl G w,?_,hm,rfl⟩;unfold aHr;rw[uZ,vQ];cases hi:es.findIdx? fun e=>decide (e.1=s) with
    | none=>exact RV.nil0
    | some i =>
     have hlt:=(d4.1 hi).1;have ja:i<en.size:=by rw[<-he.1];exact hlt
     simp only[ew,ab hlt,fk ja,dd,du];exact .d (he.2 i hlt ja).2
  .cases h
 .cases h
theorem aD9{o:Oper}{ρ:Operand->AV}{ρv:Operand->Value}{G:Gh}{m:bF}{w:World}{v:AV}{tok':Nat->Bool}{nt':Nat}(h:aD2 P o ρ m.tok m.nt v tok' nt')(hρ:∀x∈o.op.operands,RV G w (ρ x) (ρv x))(hm:aR G m w):
  dK P o ρv G w fun u G' w'=>RV G' w' v u/\aR G' { m with tok:=tok',nt:=nt' } w'/\G'.bx=G.bx:=by
 rcases h with h|h|h
 .exact aCr h hρ hm
 .exact aD8 h hρ hm
 .exact aEq h hρ hm
variable {P:Program}
def aM(P:Program)(T:TypeId):Option (List (Nat × Nat)):=match P.underlying T with
 | some (.struct fs)=>if fs.toList.all (fun f=>(P.info? f.type).isSome) then some (fs.toList.map fun f=>(f.offset,((P.info? f.type).map (·.size)).getD 0)) else none
 | _=>none
def uX(P:Program)(T:TypeId):Option (List (Nat × Nat)):=match aM P T with
 | some pl=>some pl
 | none=>match pE P T with
  | some (n,e)=>match aP P e with
   | some s=>some ((List.range n).map fun i=>(i*s,s))
   | none=>none
  | none=>none
def rB(pl:List (Nat × Nat))(cells:List AV):List (Nat × AV)->Option (List AV)
 | []=>some cells
 | (i,x)::r=>match pl[i]?,x.cells? with
  | some (off,n),some cs=>if cs.length=n/\off+n<=cells.length then rB pl (setCells cells off cs) r else none
  | _,_=>none
def eD(P:Program)(op:BinOp)(T:TypeId)(a b r:Value):Prop:=r.oneCell'=true/\∀x y w,Sem.run P (do eqGuard op T x y a b;binOp op T a b) w=.ok r w
def aJt(P:Program)(op:UnOp)(a r:Value):Prop:=r.oneCell'=true/\∀w,Sem.run P (Op.unary op a) w=.ok r w
def aDP(P:Program)(s t:TypeId)(a r:Value):Prop:=r.oneCell'=true/\∀w,Sem.run P (convert s t a) w=.ok r w
def nM(P:Program)(b:Builtin)(ts:Array TypeId)(t:TypeId)(vs:List Value)(r:Value):Prop:=r.oneCell'=true/\∀cs w,Sem.run P (builtin b ts t cs vs.toArray) w=.ok (.value r) w
def dE(ρ:Operand->AV)(o:Option Operand)(dflt n:Nat):Prop:=match o with
 | none=>n=dflt
 | some x=>match ρ x with
  | .d (.raw (.int _ k))=>k=(n:Int)
  | _=>False
def mL:List AV->Option (List (List D))
 | []=>some []
 | x::r=>match x.cells?,mL r with
  | some cs,some rs=>match yM cs with
   | some ds=>some (ds::rs)
   | none=>none
  | _,_=>none
def lenOf(P:Program)(T:TypeId)(x:AV)(v:AV):Prop:=match x with
 | .msl _ _ n _=>(aF P T).isSome=true/\v=.d (.raw (.int .i64 n))
 | .d (.raw (.string s))=>aW P T=true/\v=.d (.raw (.int .i64 s.size))
 | .d (.sl _ es)=>(aF P T).isSome=true/\v=.d (.raw (.int .i64 es.length))
 | .osl _ es _=>(aF P T).isSome=true/\v=.d (.raw (.int .i64 es.length))
 | .stk _ _ es=>(aF P T).isSome=true/\v=.d (.raw (.int .i64 es.length))
 | .que _ _ es=>(aF P T).isSome=true/\v=.d (.raw (.int .i64 es.length))
 | _=>False
def idxOf(P:Program)(T:TypeId)(x:AV)(n:Int)(v:AV):Prop:=match aS P T,x with
 | some (_,sz,_),.msl k off len sz'=>0<=n/\n<len/\sz'=sz/\v=.ptr k (off+n.toNat) 0
 | some (_,sz,_),.d (.sl _ es)=>0<=n/\∃e,es[n.toNat]?=some e/\e.length=sz/\v=.cptr e 0
 | some (_,sz,_),.osl _ es _=>0<=n/\∃e,es[n.toNat]?=some e/\e.length=sz/\v=.cptr e 0
 | some (_,sz,_),.que _ _ es=>0<=n/\∃e,es[n.toNat]?=some e/\e.length=sz/\v=.cptr e 0
 | none,.cptr cs off=>match pE P T with
  | some (len,E)=>match aP P E with
   | some sz=>0<=n/\n<len/\v=.cptr cs (off+n.toNat*sz)
   | none=>False
  | none=>False
 | none,.ptr k i off=>match pE P T with
  | some (len,E)=>match aP P E with
   | some sz=>0<=n/\n<len/\v=.ptr k i (off+n.toNat*sz)
   | none=>False
  | none=>False
 | _,_=>False
def dB(P:Program)(T:TypeId)(ρ:Operand->AV)(x:AV)(lo hi mx:Option Operand)(v:AV):Prop:=match x with
 | .msl k off n sz=>match aS P T with
  | some (_,sz',_)=>sz'=sz/\mx=none/\∃l h,dE ρ lo 0 l/\dE ρ hi n h/\l<=h/\h<=n/\(l<n∨l=0)/\v=.msl k (off+l) (h-l) sz
  | none=>False
 | .stk t sz es=>match aS P T with
  | some (_,sz',_)=>sz'=sz/\lo=none/\∃h,dE ρ hi es.length h/\h<=es.length /\
    (match mx with
     | none=>v=.stk t sz (es.take h)
     | some _=>h=0/\hi.isSome=true/\dE ρ mx 0 0/\v=.osl sz [] .full)
  | none=>False
 | .que t sz es=>match aS P T with
  | some (_,sz',_)=>sz'=sz/\hi=none/\mx=none/\∃l,dE ρ lo 0 l/\l<=es.length/\v=.que t sz (es.drop l)
  | none=>False
 | .d (.raw (.string s))=>aW P T=true/\mx=none/\∃l h,dE ρ lo 0 l/\dE ρ hi s.size h/\l<=h/\h<=s.size/\v=.d (.raw (.string (s.extract l h)))
 | x=>match aS P T,x.elems? with
  | some (_,sz,_),some (sz',es)=>∃l h,(sz'=sz∨es=[])/\dE ρ lo 0 l/\dE ρ hi es.length h/\l<=h/\h<=es.length /\
    (match mx with
     | none=>v=.d (.sl sz ((es.take h).drop l))
     | some _=>hi.isSome=true/\dE ρ mx 0 h/\v=.osl sz ((es.take h).drop l) .full)
  | _,_=>False
def aBD(P:Program)(base:Nat)(o:Oper)(ρ:Operand->AV)(v:AV):Prop:=match o.op with
 | .move x=>v=ρ x
 | .assign x=>v=ρ x
 | .pick c a b=>match ρ c with
  | .d (.raw (.bool t))=>v=(match t with|true=>ρ a|false=>ρ b)
  | _=>False
 | .alloc _=>match o.dst with
  | some s=>v=.ptr (base+s) 0 0
  | none=>False
 | .build T parts=>match uX P T,aH P T with
  | some pl,some zs=>match rB pl (zs.map cD) (parts.toList.map fun p=>(p.1,ρ p.2)) with
   | some cs=>v=.agg cs
   | none=>False
  | _,_=>False
 | .buildSlice T len parts=>match aS P T,mL (parts.toList.map fun p=>ρ p.2) with
  | some (_,sz,_),some rows=>parts.toList.map (·.1)=List.range len/\(∀r∈rows,r.length=sz)/\len*sz<=16777216/\v=.osl sz rows .full
  | _,_=>False
 | .nilCheck x=>match ρ x with
  | .ptr k i off=>v=.ptr k i off
  | .cptr cs off=>v=.cptr cs off
  | .fn (.func f) caps=>v=.fn (.func f) caps
  | _=>False
 | .binOp op T x y _=>match gI (ρ x),gI (ρ y) with
  | some a,some b=>∃r,eD P op T a b r/\v=.d (.raw r)
  | _,_=>False
 | .unOp op _ x=>match gI (ρ x) with
  | some a=>∃r,aJt P op a r/\v=.d (.raw r)
  | none=>False
 | .convert s t x=>match gI (ρ x) with
  | some a=>∃r,aDP P s t a r/\v=.d (.raw r)
  | none=>False
 | .makeFunc fn first caps=>first.toList=[]/\v=.fn fn (caps.toList.map ρ)
 | .fieldAddr T x f=>match aM P T with
  | some pl=>match pl[f]?,ρ x with
   | some (off,n),.cptr cs o'=>n≠0/\v=.cptr cs (o'+off)
   | some (off,n),.ptr k i o'=>n≠0/\v=.ptr k i (o'+off)
   | _,_=>False
  | none=>False
 | .field T x f=>match aB P T f,ρ x with
  | some (ft,off),.agg cs=>match aU P ft,aP P ft with
   | some ag,some n=>pT ag n cs off=some v
   | _,_=>False
  | _,_=>False
 | .indexAddr T x i=>match ρ i with
  | .d (.raw (.int _ n))=>idxOf P T (ρ x) n v
  | _=>False
 | .index T x i=>match ρ x,ρ i with
  | .d (.raw (.string s)),.d (.raw (.int _ n))=>aW P T=true/\0<=n/\∃b,s[n.toNat]?=some b/\v=.d (.raw (.int .u8 b.toNat))
  | _,_=>False
 | .extract t i=>match ρ t with
  | .tup vs=>vs[i]?=some v
  | _=>False
 | .slice T x lo hi mx=>dB P T ρ (ρ x) lo hi mx v
 | .call c=>match c.callee,c.args.toList.map ρ,c.argTypes.toList with
  | .builtin .len,[x],[T]=>lenOf P T x v
  | .builtin .append,_,_=>False
  | .builtin b,_,_=>match gD (c.args.toList.map ρ) with
   | some vs=>∃r,nM P b c.argTypes o.type vs r/\v=.d (.raw r)
   | none=>False
  | _,_,_=>False
 | _=>False
theorem jB(k:IntKind)(n:Int)(w:World):(asIntOf (.int k n)).run P w=.ok (k,n) w:=rfl
theorem nT{T E sz by':Nat}(h:aS P T=some (E,sz,by')):P.underlying T=some (.slice E)/\aP P E=some sz/\0<sz:=by
 obtain⟨h1,i,z,hi,_,_,hs,_,h2,_⟩:=eW h;exact⟨h1,by simp[aP,hi,hs],h2⟩
theorem iO{T E:Nat}(h:aF P T=some E):P.underlying T=some (.slice E):=by
 unfold aF at h;split at h
 .simp_all
 .cases h
theorem rH{T:Nat}(h:aW P T=true):P.underlying T=some .string:=by
 unfold aW at h;split at h
 .assumption
 .cases h
theorem aCF{T ty:Nat}{x v:AV}{xv:Value}{G:Gh}{w:World}(h:lenOf P T x v)(hx:RV G w x xv):∃u,(Builtin.len_ #[T] ty #[xv]).run P w=.ok u w/\RV G w v u:=by
 unfold lenOf at h;split at h
 .rename_i k off n sz;obtain⟨h1,rfl⟩:=h;obtain⟨E,hE⟩:=c7.1 h1;have hU:=iO hE;cases hx with
  | msl h1 h2 h3=>exact⟨.int .i64 n,by simp[Builtin.len_,bm hU,goInt],.raw rfl⟩
 .rename_i s;obtain⟨h1,rfl⟩:=h;have hU:=rH h1;cases hx with
  | d h=>cases h;exact⟨.int .i64 s.size,by simp[Builtin.len_,bm hU,goInt],.raw rfl⟩
 .rename_i sz es;obtain⟨h1,rfl⟩:=h;obtain⟨E,hE⟩:=c7.1 h1;have hU:=iO hE;cases hx with
  | d h=>cases h;exact⟨.int .i64 es.length,by simp[Builtin.len_,bm hU,goInt],.raw rfl⟩
 .rename_i sz es o;obtain⟨h1,rfl⟩:=h;obtain⟨E,hE⟩:=c7.1 h1;have hU:=iO hE;cases hx with
  | osl h _=>cases h;exact⟨.int .i64 es.length,by simp[Builtin.len_,bm hU,goInt],.raw rfl⟩
 .rename_i t sz es;obtain⟨h1,rfl⟩:=h;obtain⟨E,hE⟩:=c7.1 h1;have hU:=iO hE;cases hx with
  | stk h =>
   obtain⟨_,A,cap,rfl,_⟩:=h;exact⟨.int .i64 es.length,by simp[Builtin.len_,bm hU,goInt],.raw rfl⟩
 .rename_i t sz es;obtain⟨h1,rfl⟩:=h;obtain⟨E,hE⟩:=c7.1 h1;have hU:=iO hE;cases hx with
  | que h _=>cases h;exact⟨.int .i64 es.length,by simp[Builtin.len_,bm hU,goInt],.raw rfl⟩
 .exact h.elim
theorem iK{T E sz:Nat}(hE:P.underlying T=some (.slice E))(hs:aP P E=some sz)(a:Addr)(len cap:Nat)(k:IntKind)(n:Int)(h0:0<=n)(h1:n<len)(w:World):
  (Instr.indexAt T (.slice (some a) len cap) (.int k n)).run P w=.ok (.pointer (some (a.add (n.toNat*sz)))) w:=by
 have B2:0<=n/\n<(len:Int):=⟨h0,h1⟩
 simp only[Instr.indexAt,aw,jB,aj,bm hE,ay,B2,and_self,↓reduceIte,bP hs]
theorem iV{T E sz L:Nat}(hE:P.underlying T=some (.array L E))(hs:aP P E=some sz)(a:Addr)(k:IntKind)(n:Int)(h0:0<=n)(h1:n<L)(w:World):
  (Instr.indexAt T (.pointer (some a)) (.int k n)).run P w=.ok (.pointer (some (a.add (n.toNat*sz)))) w:=by
 have B2:0<=n/\n<(L:Int):=⟨h0,h1⟩
 simp only[Instr.indexAt,aw,jB,aj,bm hE,ay,B2,and_self,↓reduceIte,bP hs,Instr.sureAddr]
theorem aEd{T E sz by' sz0:Nat}(hrow:aS P T=some (E,sz,by')){es:List (List D)}{e:List D}{k:IntKind}{n:Int}{xv:Value}{G:Gh}{w:World}(hx:RVd w.cell? G.ps (.sl sz0 es) xv)(h0:0<=n)(he:es[n.toNat]?=some e)(hl:e.length=sz):
  ∃u,(Instr.indexAt T xv (.int k n)).run P w=.ok u w/\RV G w (.cptr e 0) u:=by
 obtain⟨hE,hs,hp⟩:=nT hrow;obtain⟨hlt,rfl⟩:=a8.1 he;cases hx with
 | sl u iq iu hsz hA hc hr =>
  rename_i A cap;have B4:sz0=sz:=(hsz _ (aa hlt)).symm.trans hl
  subst B4;obtain⟨a,rfl⟩:=hA (by intro h;subst h;simp at hlt);refine⟨_,iK hE hs a _ cap k n h0 (by omega) w,?_⟩;have:(a.add (n.toNat*sz0))=(a.add (n.toNat*sz0)).add 0:=by simp[Addr.add]
  rw[this];refine .cptr _ (fun j=>u n.toNat j) (fun j hj=>?_) (fun j hj=>hr n.toNat j hlt hj);rw[add_add];exact hc a rfl n.toNat j hlt (by rw[<-hl];exact hj)
theorem aCw{T:Nat}{x v:AV}{k:IntKind}{n:Int}{xv:Value}{G:Gh}{w:World}(h:idxOf P T x n v)(hx:RV G w x xv):∃u,(Instr.indexAt T xv (.int k n)).run P w=.ok u w/\RV G w v u:=by
 unfold idxOf at h;split at h
 .rename_i E sz by' key off len sz' hrow
  obtain⟨h0,h1,rfl,rfl⟩:=h;obtain⟨hE,hs,hp⟩:=nT hrow;cases hx with
  | msl hb hn hc =>
   rename_i b cap;refine⟨_,iK hE hs _ _ cap k n h0 h1 w,?_⟩;rw[bK];have:off*sz'+n.toNat*sz'=(off+n.toNat)*sz'+0:=by rw[cb];omega
   rw[this];exact .ptr hb
 .rename_i E sz by' sz0 es hrow
  obtain⟨h0,e,he,hl,rfl⟩:=h;cases hx with
  | d hx=>exact aEd hrow hx h0 he hl
 .rename_i E sz by' sz0 es o hrow
  obtain⟨h0,e,he,hl,rfl⟩:=h;cases hx with
  | osl hx _=>exact aEd hrow hx h0 he hl
 .rename_i E sz by' t sz0 es hrow
  obtain⟨h0,e,he,hl,rfl⟩:=h;cases hx with
  | que hx _=>exact aEd hrow hx h0 he hl
 .split at h
  .rename_i cs off hrow L E rd;split at h
   .rename_i sz hs;obtain⟨h0,h1,rfl⟩:=h;have hE:P.underlying T=some (.array L E):=by
     unfold pE at rd;split at rd
     .simp_all
     .cases rd
    cases hx with
    | cptr a u hc hr =>
     refine⟨_,iV hE hs _ k n h0 h1 w,?_⟩;rw[add_add];exact .cptr a u hc hr
   .exact h.elim
  .exact h.elim
 .split at h
  .rename_i key i off hrow xx L E rd;split at h
   .rename_i sz hs;obtain⟨h0,h1,rfl⟩:=h;have hE:P.underlying T=some (.array L E):=by
     unfold pE at rd;split at rd
     .simp_all
     .cases rd
    cases hx with
    | ptr hb =>
     rename_i b bsz;refine⟨_,iV hE hs _ k n h0 h1 w,?_⟩;have e:(⟨b,i*bsz+off,none⟩:Addr).add (n.toNat*sz)=⟨b,i*bsz+(off+n.toNat*sz),none⟩:=by rw[bK,gm]
     rw[e];exact .ptr hb
   .exact h.elim
  .exact h.elim
 .exact h.elim
theorem aCy{ρ:Operand->AV}{ρv:Operand->Value}{G:Gh}{w:World}{o:Option Operand}{d n:Nat}(h:dE ρ o d n)(hρ:∀x,o=some x->RV G w (ρ x) (ρv x)):
  (o=none/\n=d)∨∃x k,o=some x/\ρv x=.int k (n:Int):=by
 unfold dE at h;split at h
 .exact .inl ⟨rfl,h⟩
 .rename_i x;split at h
  .rename_i k m hx;have hr:=hρ x rfl;rw[hx] at hr;generalize hv:ρv x=v at hr;cases hr with
   | d hd=>cases hd;subst h;exact .inr ⟨x,k,rfl,hv⟩
  .exact h.elim
variable {P:Program}
theorem lV(k:IntKind)(n y:Nat)(code:BoundsCode)(h:n<=y)(w:World):(Instr.sliceBound (.int k (n:Int)) y code).run P w=.ok n w:=by
 have h1:(0:Int)<=n/\(n:Int)<=y:=by omega
 simp only[Instr.sliceBound,aw,jB,aj,h1,and_self,↓reduceIte,ay,bv]
theorem cI{b:Bool}{len cap l h m:Nat}{low high mx:Option Value}(hm:(mx=none/\m=cap)∨∃k,mx=some (.int k (m:Int)))(C8:m<=cap)(hh:(high=none/\mx=none/\h=len)∨∃k,high=some (.int k (h:Int)))(C9:h<=m)(hl:(low=none/\l=0)∨∃k,low=some (.int k (l:Int)))(vf:l<=h)(w:World):
  (Instr.sliceBounds b len cap low high mx).run P w=.ok (l,h,m) w:=by
 rcases hm with ⟨rfl,rfl⟩|⟨km,rfl⟩
 .rcases hh with ⟨rfl,_,rfl⟩|⟨kh,rfl⟩<;>rcases hl with ⟨rfl,rfl⟩|⟨kl,rfl⟩ <;>
   simp[Instr.sliceBounds,lV,C8,C9,vf]
 .rcases hh with ⟨rfl,h1,rfl⟩|⟨kh,rfl⟩
  .cases h1
  .rcases hl with ⟨rfl,rfl⟩|⟨kl,rfl⟩ <;>
    simp[Instr.sliceBounds,lV,C8,C9,vf]
theorem eC{ρ:Operand->AV}{ρv:Operand->Value}{G:Gh}{w:World}{o:Option Operand}{d n:Nat}(h:dE ρ o d n)(hρ:∀x,o=some x->RV G w (ρ x) (ρv x)):
  (o.map ρv=none/\o=none/\n=d)∨∃k,o.map ρv=some (.int k (n:Int)):=by
 rcases aCy h hρ with ⟨rfl,h1⟩|⟨x,k,rfl,h1⟩
 .exact .inl ⟨rfl,rfl,h1⟩
 .exact .inr ⟨k,by simp[h1]⟩
theorem mY{T:Nat}{ρ:Operand->AV}{ρv:Operand->Value}{x v:AV}{xv:Value}{lo hi mx:Option Operand}{G:Gh}{w:World}(h:dB P T ρ x lo hi mx v)(z8:∀t sz es,x=.que t sz es->False)(hx:RV G w x xv)(pz:∀y,lo=some y->RV G w (ρ y) (ρv y))(wm:∀y,hi=some y->RV G w (ρ y) (ρv y))(rf:∀y,mx=some y->RV G w (ρ y) (ρv y)):
    ∃u,(Instr.sliceAt T xv (lo.map ρv) (hi.map ρv) (mx.map ρv)).run P w=.ok u w/\RV G w v u:=by
  unfold dB at h;split at h
  . rename_i k off n sz
    split at h
    . rename_i E sz' by' hrow
      obtain⟨rfl,rfl,l,h',ol,oh,vf,tu,hl0,rfl⟩:=h;obtain⟨hE,hs,hp⟩:=nT hrow;cases hx with
      | msl hb hn hc =>
        rename_i b cap;have hb':=cI (P:=P) (b:=true) (len:=n) (cap:=cap) (l:=l) (h:=h') (m:=cap) (low:=lo.map ρv) (high:=hi.map ρv) (mx:=none) (.inl ⟨rfl,rfl⟩) (nr0 _)
          ((eC oh wm).imp (fun h=>⟨h.1,rfl,h.2.2⟩) id) (by omega) ((eC ol pz).imp (fun h=>⟨h.1,h.2.2⟩) id) vf w
        refine⟨.slice (if cap=l then some ⟨b,off*sz',none⟩ else (some (⟨b,off*sz',none⟩:Addr)).map (·.add (l*sz'))) (h'-l) (cap-l),?_,?_⟩
        . simp only[Instr.sliceAt,aw,bm hE,aj,Instr.slice,fj,ep,bt,↓reduceIte,ay,hb',bP hs]
        . have e:(if cap=l then some (⟨b,off*sz',none⟩:Addr) else (some (⟨b,off*sz',none⟩:Addr)).map (·.add (l*sz')))=some ⟨b,(off+l)*sz',none⟩:=by
            split
            . have:l=0:=by omega
              subst this;simp
            . rw[dd,bK,cb]
          rw[e];exact .msl hb (by omega) (by omega)
    . exact h.elim
  . rename_i t sz es
    split at h
    . rename_i E sz' by' hrow
      obtain⟨rfl,rfl,h',oh,tu,hv⟩:=h;obtain⟨hE,hs,hp⟩:=nT hrow;cases hx with
      | stk jo =>
        obtain⟨h1,A,cap,rfl,iq,iu,jo⟩:=jo;split at hv
        . subst hv
          have hb':=cI (P:=P) (b:=true) (len:=es.length) (cap:=cap) (l:=0) (h:=h') (m:=cap) (low:=none) (high:=hi.map ρv) (mx:=none) (.inl ⟨rfl,rfl⟩) (nr0 _)
            ((eC oh wm).imp (fun h=>⟨h.1,rfl,h.2.2⟩) id) (by omega) (.inl ⟨rfl,rfl⟩) (ai _) w
          refine⟨.slice (if cap=0 then A else A.map (·.add (0*sz'))) (h'-0) (cap-0),?_,?_⟩
          . simp only[Instr.sliceAt,aw,bm hE,aj,Instr.slice,fj,ep,bt,↓reduceIte,ay,hb',bP hs]
          . have e:(if cap=0 then A else A.map (·.add (0*sz')))=A:=by
              split
              . rfl
              . cases A<;>simp[Addr.add]
            rw[e];have hl:(es.take h').length=h':=by simp[tu]
            refine .stk ⟨h1,A,cap,by rw[hl];rfl,by omega,iu,fun x hx=>?_⟩;have h0:=jo x hx;cases x with
            | none=>exact h0
            | some g =>
              obtain⟨hA,vs,sp,e,k1,k2,k3,k4,k5⟩:=h0;have py:=k4.len;have g9:h'*sz'<=es.length*sz':=bk _ tu
              refine⟨hA,vs.take (h'*sz'),vs.drop (h'*sz')++sp,e,k1,by rw[<-List.append_assoc,cc];exact k2,by rw[<-List.append_assoc,cc];exact k3,?_,fun u hu=>?_⟩
              . refine⟨by rw[cf,hl,py];omega,fun u hu=>k4.one u (bq hu),fun q hq=>k4.each q (bq hq),fun i j hi hj=>?_⟩
                rw[hl] at hi;simp only[ez] at hj ⊢;obtain⟨u,hu,hr⟩:=k4.read i j (by omega) hj;refine⟨u,?_,hr⟩;have qe:j<sz':=by rw[<-k4.each _ (aa (by omega:i<es.length))];exact hj
                have:(i+1)*sz'<=h'*sz':=bk _ (by omega)
                rw[cb] at this;rw[eg (by omega)];exact hu
              . rcases ap.1 hu with hu|hu
                . exact k4.one u (co hu)
                . exact k5 u hu
        . rename_i mxo
          obtain⟨rfl,lj,om,rfl⟩:=hv;obtain⟨ho,rfl⟩:=c7.1 lj;have hb':=cI (P:=P) (b:=true) (len:=es.length) (cap:=cap) (l:=0) (h:=0) (m:=0) (low:=none) (high:=some (ρv ho)) (mx:=some (ρv mxo))
            (by rcases eC om rf with h|⟨k,h⟩;· exact absurd h.1 (by simp)
                . exact .inr ⟨k,h⟩) (ai _)
            (by rcases eC oh wm with h|⟨k,h⟩;· exact absurd h.1 (by simp)
                . exact .inr ⟨k,h⟩) (nr0 _) (.inl ⟨rfl,rfl⟩) (nr0 _) w
          refine⟨.slice (if 0=0 then A else A.map (·.add (0*sz'))) (0-0) (0-0),?_,?_⟩
          . simp only[Instr.sliceAt,aw,bm hE,aj,Instr.slice,fj,dd,ep,bt,↓reduceIte,ay,hb',bP hs]
          . exact .osl (.sl (es:=[]) (fun _ _=>default) (ai _) (ai _) (by simp) (by simp) (fun a _ i j hi _=>by simp at hi) (fun i j hi _=>by simp at hi)) ⟨_,rfl,fun e=>absurd e (by omega)⟩
    . exact h.elim
  . exact(z8 _ _ _ rfl).elim
  . rename_i s
    obtain⟨hT,rfl,l,h',ol,oh,vf,tu,rfl⟩:=h;have hU:=rH hT;have rc:xv=.string s:=by cases hx with|d h=>cases h;rfl
    subst rc;have hb:=cI (P:=P) (b:=false) (len:=s.size) (cap:=s.size) (l:=l) (h:=h') (m:=s.size) (low:=lo.map ρv) (high:=hi.map ρv) (mx:=none) (.inl ⟨rfl,rfl⟩) (nr0 _)
      ((eC oh wm).imp (fun h=>⟨h.1,rfl,h.2.2⟩) id) tu ((eC ol pz).imp (fun h=>⟨h.1,h.2.2⟩) id) vf w
    refine⟨.string (s.extract l h'),?_,.raw rfl⟩;simp only[Instr.sliceAt,aw,bm hU,aj,Instr.slice,fj,ep,bt,↓reduceIte,ay,hb]
  . split at h
    . rename_i E sz by' sz' es hrow mc
      obtain⟨l,h',hsz,ol,oh,vf,tu,hv⟩:=h;obtain⟨hE,hs,hp⟩:=nT hrow;obtain⟨A,cap,vs,rfl,iq,iu,hf⟩:=(hx.elems mc).flat;have mf:gX w.cell? G.ps sz es A vs:=hf.resize hsz
      have fin:∀m,h'<=m->m<=cap->gX w.cell? G.ps sz ((es.take h').drop l) (if m=l then A else A.map (·.add (l*sz))) ((vs.take (h'*sz)).drop (l*sz)):=by
        intro m sj B5;have py:=mf.len;constructor
        . simp only[d6,cf,py,Nat.min_eq_left tu,Nat.min_eq_left (bk sz tu),Nat.sub_mul]
        . intro a ha q u hq
          simp only[gc,List.getElem?_take] at hq;split at hq
          . rename_i hlt
            have ph:m≠l:=by
              intro e;have:h'=l:=by omega
              subst this;omega
            rw[ac ph] at ha;obtain⟨a0,hA,rfl⟩:=cr.1 ha;rw[add_add];exact mf.at_ a0 hA _ u hq
          . cases hq
        . intro u hu
          exact mf.one u (bq (co hu))
        . intro hne
          have hlt:l<h':=by
            rcases fo l h' with h|h
            . exact h
            . exact absurd (List.drop_of_length_le (by simp;omega)) hne
          obtain⟨a,rfl⟩:=mf.some_ (by intro e;subst e;simp at tu;omega);rw[ac (by omega)];exact⟨_,rfl⟩
        . intro e he
          exact mf.each e (bq (co he))
        . intro i j nk hj
          simp only[d6,cf,Nat.min_eq_left tu] at nk;simp only[List.getElem_drop,ez] at hj ⊢;obtain⟨u,hu,hr⟩:=mf.read (l+i) j (by omega) hj;refine⟨u,?_,hr⟩;have qe:j<sz:=by rw[<-mf.each _ (aa (by omega:l+i<es.length))];exact hj
          have e1:l*sz+(i*sz+j)=(l+i)*sz+j:=by rw[cb];omega
          rw[gc,List.getElem?_take,af,e1]
          . exact hu
          . have:(l+i+1)*sz<=h'*sz:=bk _ (by omega)
            rw[cb,cb] at this;omega
      have hlen:((es.take h').drop l).length=h'-l:=by simp only[d6,cf,Nat.min_eq_left tu]
      cases mx with
      | none =>
        simp only at hv;subst hv;have hb:=cI (P:=P) (b:=true) (len:=es.length) (cap:=cap) (l:=l) (h:=h') (m:=cap) (low:=lo.map ρv) (high:=hi.map ρv) (mx:=none) (.inl ⟨rfl,rfl⟩) (nr0 _)
          ((eC oh wm).imp (fun h=>⟨h.1,rfl,h.2.2⟩) id) (by omega) ((eC ol pz).imp (fun h=>⟨h.1,h.2.2⟩) id) vf w
        refine⟨.slice (if cap=l then A else A.map (·.add (l*sz))) (h'-l) (cap-l),?_,.d ?_⟩
        . simp only[Instr.sliceAt,aw,bm hE,aj,Instr.slice,fj,ep,bt,↓reduceIte,ay,hb,bP hs]
        . have:=RVd.of_flat (cap:=cap-l) (by rw[hlen];omega) (by omega) (fin cap (by omega) (nr0 _))
          rw[hlen] at this;exact this
      | some y =>
        simp only at hv;obtain⟨lj,om,rfl⟩:=hv;have ohm:=eC om rf;have ll:∃k,(some y).map ρv=some (.int k (h':Int)):=by
          rcases ohm with ⟨h,_⟩|h
          . simp at h
          . exact h
        have Dk:∃k,hi.map ρv=some (.int k (h':Int)):=by
          rcases eC oh wm with ⟨_,h,_⟩|h
          . subst h;simp at lj
          . exact h
        have hb:=cI (P:=P) (b:=true) (len:=es.length) (cap:=cap) (l:=l) (h:=h') (m:=h') (low:=lo.map ρv) (high:=hi.map ρv) (mx:=(some y).map ρv) (.inr ll) (by omega)
          (.inr Dk) (nr0 _) ((eC ol pz).imp (fun h=>⟨h.1,h.2.2⟩) id) vf w
        refine⟨.slice (if h'=l then A else A.map (·.add (l*sz))) (h'-l) (h'-l),?_,.osl ?_ ?_⟩
        . simp only[Instr.sliceAt,aw,bm hE,aj,Instr.slice,fj,ep,bt,↓reduceIte,ay,hb,bP hs]
        . have:=RVd.of_flat (cap:=h'-l) (by rw[hlen];omega) (by omega) (fin h' (nr0 _) (by omega))
          rw[hlen] at this;exact this
        . rw[hlen];exact⟨_,rfl,fun e=>absurd e (by omega)⟩
    . exact h.elim
theorem yE{T:Nat}{ρ:Operand->AV}{ρv:Operand->Value}{x v:AV}{xv:Value}{lo hi mx:Option Operand}{G:Gh}{w:World}(h:dB P T ρ x lo hi mx v)(hx:RV G w x xv)(pz:∀y,lo=some y->RV G w (ρ y) (ρv y))(wm:∀y,hi=some y->RV G w (ρ y) (ρv y))(rf:∀y,mx=some y->RV G w (ρ y) (ρv y)):
  ∃u,(Instr.sliceAt T xv (lo.map ρv) (hi.map ρv) (mx.map ρv)).run P w=.ok u w/\RV G w v u:=by
 by_cases hq:∃t sz es,x=.que t sz es
 .obtain⟨t,sz,es,rfl⟩:=hq;unfold dB at h;simp only at h;split at h
  .rename_i E sz' by' hrow
   obtain⟨rfl,rfl,rfl,l,ol,hl,rfl⟩:=h;obtain⟨hE,hs,hp⟩:=nT hrow;cases hx with
   | que hd hq =>
    have h0:dB P T ρ (.d (.sl sz' es)) lo none none (.d (.sl sz' ((es.take es.length).drop l))):=by
     unfold dB;simp only[hrow,AV.elems?];exact⟨l,es.length,by simp,ol,rfl,hl,nr0 _,by simp⟩
    obtain⟨u,hr,hu⟩:=mY (w:=w) h0 (fun _ _ _ h=>by cases h) (.d hd) pz (fun y h=>by cases h) (fun y h=>by cases h);obtain⟨A,cap,vs,rfl,iq,iu,hf⟩:=hd.flat;have hb:=cI (P:=P) (b:=true) (len:=es.length) (cap:=cap) (l:=l) (h:=es.length) (m:=cap) (low:=lo.map ρv) (high:=none) (mx:=none) (.inl ⟨rfl,rfl⟩) (nr0 _)
     (.inl ⟨rfl,rfl,rfl⟩) (by omega) ((eC ol pz).imp (fun h=>⟨h.1,h.2.2⟩) id) hl w
    have jd:(Instr.sliceAt T (.slice A es.length cap) (lo.map ρv) ((none:Option Operand).map ρv) ((none:Option Operand).map ρv)).run P w=.ok (.slice (if cap=l then A else A.map (·.add (l*sz'))) (es.length-l) (cap-l)) w:=by
     simp only[Instr.sliceAt,aw,bm hE,aj,Instr.slice,fj,ep,bt,↓reduceIte,ay,hb,bP hs]
    rw[jd] at hr;injection hr with hr _
    subst hr;refine⟨_,jd,.que ?_ ⟨hq.1,fun x hx=>?_⟩⟩
    .cases hu with|d hu=>rw[bh] at hu;exact hu
    .rw[d6];rcases hq.2 x hx with ⟨A',hA⟩|⟨g,d,cap',rfl,hA,hk⟩
     .injection hA with _ _ h3
      subst h3;exact .inl ⟨_,rfl⟩
     .injection hA with h1 _ h3
      subst h1;subst h3;by_cases hc:cap=l
      .have:es.length-l=0:=by omega
       have h2:cap-l=0:=by omega
       rw[this,h2];exact .inl ⟨_,rfl⟩
      .refine .inr ⟨g,d+l*sz',cap-l,rfl,?_,?_⟩
       .rw[ac hc,dd,bK]
       .rw[hk,Nat.sub_mul,Nat.sub_mul];have e1:l*sz'<=es.length*sz':=bk _ hl
        have e2:l*sz'<=cap*sz':=bk _ (by omega)
        congr 1<;>omega
  .exact h.elim
 .exact mY h (fun t sz es e=>hq ⟨t,sz,es,e⟩) hx pz wm rf
theorem wV:∀(l:List Field) (w:World),(l.all fun f=>(P.info? f.type).isSome)=true ->
  (l.mapM (m:=Sem) fun f=>do pure (f.offset,<-sizeOf f.type)).run P w=.ok (l.map fun f=>(f.offset,((P.info? f.type).map (·.size)).getD 0)) w
 | [],w,_=>by simp
 | f::l,w,h=>by
  simp only[List.all_cons,bd] at h;obtain⟨i,hi⟩:=c7.1 h.1;have ih:=wV l w h.2;have hs:(sizeOf f.type).run P w=.ok i.size w:=bP (by simp[aP,hi]) w
  simp only[List.mapM_cons,aw,hs,aj,ay,ih,de,hi,dd,du]
theorem yU:∀(vs:List Value) (k off:Nat) (cells:Array Value),
  ((vs.zipIdx k).foldl (fun cs (x:Value × Nat)=>cs.setIfInBounds (off+x.2) x.1) cells).toList=setCells cells.toList (off+k) vs
 | [],k,off,cells=>by simp[setCells]
 | v::vs,k,off,cells=>by
  simp only[List.zipIdx_cons,List.foldl_cons];rw[yU vs (k+1) off,setCells];simp[Array.toList_setIfInBounds,gm]
theorem wU(v:Value)(off:Nat)(cells:Array Value):
  (v.cells.zipIdx.foldl (fun cs (x:Value × Nat)=>cs.setIfInBounds (off+x.2) x.1) cells).toList=setCells cells.toList off v.cells.toList:=by
 have:=yU v.cells.toList 0 off cells
 rw[e9] at this;rw[<-this,<-Array.foldl_toList];congr 2
 simp
theorem pL{G:Gh}{w:World}(pl:List (Nat × Nat))(place:Nat->Option (Nat × Nat))(l5:∀i x,pl[i]?=some x->place i=some x):∀(parts:List (Nat × AV)) (pv:List (Nat × Value)) (cells:List AV) (cv:Array Value) (out:List AV),
  pv.length=parts.length->(∀j (h1:j<parts.length) (h2:j<pv.length),parts[j].1=pv[j].1/\RV G w parts[j].2 pv[j].2)->RVs G w cells cv.toList->(∀u∈cv.toList,u.oneCell'=true) ->
  rB pl cells parts=some out->∃ov:Array Value,Instr.fill place cv pv=some ov/\RVs G w out ov.toList/\(∀u∈ov.toList,u.oneCell'=true)
 | [],pv,cells,cv,out,hl,hp,hR,h1,h=>by
  have:pv=[]:=bf (by simpa using hl)
  subst this;simp only[rB,ad] at h;subst h;exact⟨cv,rfl,hR,h1⟩
 | (i,x)::parts,pv,cells,cv,out,hl,hp,hR,h1,h=>by
  cases pv with
  | nil=>simp at hl
  | cons q pv =>
   obtain⟨i',xv⟩:=q;have h0:=hp 0 (by simp) (by simp);simp only[cg] at h0;obtain⟨rfl,hx⟩:=h0;simp only[rB] at h;split at h
   .rename_i off n cs hi lx;split at h
    .rename_i hc;obtain⟨mj,g9⟩:=hc;obtain⟨xj,hc1⟩:=hx.cells lx;have hlen:xv.cells.size=n:=by have:=xj.1;simp at this;omega
     have zd:cv.size=cells.length:=by have:=hR.1;simpa using this.symm
     have e:=wU xv off cv;obtain⟨ov,ho,Dl,Bc⟩:=pL pl place l5 parts pv (setCells cells off cs) (xv.cells.zipIdx.foldl (fun cs (x:Value × Nat)=>cs.setIfInBounds (off+x.2) x.1) cv) out
      (by simpa using hl) (fun j g1 g2=>hp (j+1) (by simpa using g1) (by simpa using g2)) (by rw[e];exact hR.setCells xj)
      (by rw[e];exact kX (p:=fun u=>Value.oneCell' u=true) _ _ _ h1 hc1) h
     refine⟨ov,?_,Dl,Bc⟩;simp only[Instr.fill,l5 _ _ hi];rw[ac]
     .exact ho
     .simp[hlen];omega
    .cases h
   .cases h
theorem aAO{T:Nat}{parts:Array (Nat × Operand)}{ρ:Operand->AV}{ρv:Operand->Value}{G:Gh}{w:World}{pl:List (Nat × Nat)}{zs:List Value}{cs:List AV}(l5:aM P T=some pl)(hz:aH P T=some zs)(h:rB pl (zs.map cD) (parts.toList.map fun p=>(p.1,ρ p.2))=some cs)(hρ:∀p∈parts.toList,RV G w (ρ p.2) (ρv p.2)):
  ∃u,(Instr.build T (parts.map fun (i,x)=>(i,ρv x))).run P w=.ok u w/\RV G w (.agg cs) u:=by
 unfold aM at l5;split at l5
 .rename_i fs ry;split at l5
  .rename_i gz;simp only[ad] at l5;subst l5;unfold aH at hz;split at hz
   .rename_i z Aa;split at hz
    .rename_i jc;simp only[ad] at hz;subst hz;obtain⟨i,hi,Ab⟩:=dp.1 Aa;have u9:(zeroValue T).run P w=.ok z w:=by simp[zeroValue,typeInfo,hi,Ab]
     have Ac:(fs.mapM (m:=Sem) fun f=>do pure (f.offset,<-sizeOf f.type)).run P w=.ok (fs.toList.map fun f=>(f.offset,((P.info? f.type).map (·.size)).getD 0)).toArray w:=by
      rw[Array.mapM_eq_mapM_toList];have:=wV (P:=P) fs.toList w (by simpa using gz)
      simp only[map_eq_pure_bind,aw,this,aj,ay]
     obtain⟨ov,h1,h2,h3⟩:=pL (G:=G) (w:=w) (fs.toList.map fun f=>(f.offset,((P.info? f.type).map (·.size)).getD 0)) ((fs.toList.map fun f=>(f.offset,((P.info? f.type).map (·.size)).getD 0)).toArray[·]?) (by intro i x h;simpa using h)
      (parts.toList.map fun p=>(p.1,ρ p.2)) ((parts.map fun (i,x)=>(i,ρv x)).toList) (z.cells.toList.map cD) z.cells cs (by simp)
      (by
       intro j g1 g2;simp at g1 g2;simp only[bj,fl];exact⟨trivial,hρ _ (aa _)⟩)
      ⟨by simp,fun j g1 g2=>by simp only[bj];exact RV.of_ofVal1 _⟩ (fun u hu=>ax.1 jc u hu) h
     refine⟨.agg ov,?_,?_⟩
     .simp only[Instr.build,aw,u9,aj,bm ry,Ac,h1,ay]
     .have:=RV.agg (G:=G) (w:=w) h2.1 h2.2 h3
      simpa using this
    .cases hz
   .cases hz
  .cases l5
 .cases l5
theorem aCn{T:Nat}{parts:Array (Nat × Operand)}{ρ:Operand->AV}{ρv:Operand->Value}{G:Gh}{w:World}{pl:List (Nat × Nat)}{zs:List Value}{cs:List AV}(l5:uX P T=some pl)(hz:aH P T=some zs)(h:rB pl (zs.map cD) (parts.toList.map fun p=>(p.1,ρ p.2))=some cs)(hρ:∀p∈parts.toList,RV G w (ρ p.2) (ρv p.2)):
  ∃u,(Instr.build T (parts.map fun (i,x)=>(i,ρv x))).run P w=.ok u w/\RV G w (.agg cs) u:=by
 unfold uX at l5;split at l5
 .rename_i pl' hs;cases l5;exact aAO hs hz h hρ
 .split at l5
  .rename_i n e ha;split at l5
   .rename_i s hsz;cases l5;have hu:P.underlying T=some (.array n e):=by
     unfold pE at ha;split at ha
     .cases ha;assumption
     .cases ha
    unfold aH at hz;split at hz
    .rename_i z Aa;split at hz
     .rename_i jc;simp only[ad] at hz;subst hz;obtain⟨i,hi,Ab⟩:=dp.1 Aa;have u9:(zeroValue T).run P w=.ok z w:=by simp[zeroValue,typeInfo,hi,Ab]
      obtain⟨ov,h1,h2,h3⟩:=pL (G:=G) (w:=w) ((List.range n).map fun i=>(i*s,s)) (fun i=>some (i*s,s)) (by
        intro i x h;rw[gh] at h;cases hr:(List.range n)[i]? with
        | none=>rw[hr] at h;cases h
        | some k =>
         rw[hr] at h;obtain⟨hl,hk⟩:=a8.1 hr;rw[gb] at hk;subst hk;exact h)
       (parts.toList.map fun p=>(p.1,ρ p.2)) ((parts.map fun (i,x)=>(i,ρv x)).toList) (z.cells.toList.map cD) z.cells cs (by simp)
       (by
        intro j g1 g2;simp at g1 g2;simp only[bj,fl];exact⟨trivial,hρ _ (aa _)⟩)
       ⟨by simp,fun j g1 g2=>by simp only[bj];exact RV.of_ofVal1 _⟩ (fun u hu=>ax.1 jc u hu) h
      refine⟨.agg ov,?_,?_⟩
      .simp only[Instr.build,aw,u9,aj,bm hu,bP hsz,h1,ay]
      .have:=RV.agg (G:=G) (w:=w) h2.1 h2.2 h3
       simpa using this
     .cases hz
    .cases hz
   .cases l5
  .cases l5
theorem tH{G:Gh}{w:World}:∀{xs:List AV} {vs:List Value} {rows:List (List D)},RVs G w xs vs->mL xs=some rows ->
  rows.length=vs.length/\∀i (h1:i<rows.length) (h2:i<vs.length),(∀u∈vs[i].cells.toList,u.oneCell'=true)/\rows[i].length=vs[i].cells.toList.length /\
   ∀j (g1:j<rows[i].length) (g2:j<vs[i].cells.toList.length),RVd w.cell? G.ps rows[i][j] vs[i].cells.toList[j]
 | [],vs,rows,r,h=>by
  simp[mL] at h;subst h;exact⟨r.1,fun i h1=>by simp at h1⟩
 | x::xs,vs,rows,r,h=>by
  obtain⟨v,us,rfl,h1,h2⟩:=r.uncons;simp only[mL] at h;split at h
  .rename_i cs rs lx p7;split at h
   .rename_i ds wo;simp only[ad] at h;subst h;obtain⟨k1,k2⟩:=tH h2 p7;obtain⟨c1,c2⟩:=h1.cells lx;obtain⟨d1,d2⟩:=nD c1 wo;refine⟨by simp[k1],fun i g1 g2=>?_⟩;cases i with
    | zero=>exact⟨c2,d1,d2⟩
    | succ i=>exact k2 i (by simpa using g1) (by simpa using g2)
   .cases h
  .cases h
theorem aBP{sz:Nat}:∀(vs:List Value) (k:Nat) (cells:Array Value),(∀v∈vs,v.cells.size=sz)->cells.size=(k+vs.length)*sz ->
  ∃ov:Array Value,Instr.fill (fun i=>some (i*sz,sz)) cells ((List.range' k vs.length).zip vs)=some ov/\ov.toList=cells.toList.take (k*sz)++(vs.map fun v=>v.cells.toList).flatten
 | [],k,cells,hv,hs=>by
  refine⟨cells,rfl,?_⟩;simp only[c8,e9] at hs;rw[<-hs];have:cells.toList.length=cells.size:=by simp
  rw[<-this,bh];simp
 | v::vs,k,cells,hv,hs=>by
  have vd:=hv v (by simp);have e:=wU v (k*sz) cells;have o9:(v.cells.zipIdx.foldl (fun cs (x:Value × Nat)=>cs.setIfInBounds (k*sz+x.2) x.1) cells).size=cells.size:=by
   have:=fp List.length e
   rw[eP] at this;simpa using this
  have g9:k*sz+v.cells.toList.length<=cells.toList.length:=by
   have h1:v.cells.toList.length=sz:=by simp[vd]
   have h2:cells.toList.length=cells.size:=by simp
   rw[h1,h2,hs,ce,cb,cb];omega
  obtain⟨ov,h1,h2⟩:=aBP vs (k+1) (v.cells.zipIdx.foldl (fun cs (x:Value × Nat)=>cs.setIfInBounds (k*sz+x.2) x.1) cells) (fun u hu=>hv u (by simp[hu])) (by rw[o9,hs];simp only[ce];congr 1;omega);refine⟨ov,?_,?_⟩
  .simp only[ce,List.range'_succ,List.zip_cons_cons,Instr.fill];rw[ac]
   .exact h1
   .simp[vd];rw[hs,ce,cb,cb];omega
  .rw[h2,e,gK _ _ _ g9];have h3:v.cells.toList.length=sz:=by simp[vd]
   have h4:(k+1)*sz=k*sz+sz:=by rw[cb];omega
   have h5:(List.take (k*sz) cells.toList).length=k*sz:=by rw[cf];omega
   rw[h4,cy,List.take_append,h5,d9,ak (by rw[h5];omega),c6 (by omega),ak (l:=v.cells.toList) (by omega)];simp
theorem rT{T E sz by' len:Nat}{parts:Array (Nat × Operand)}{ρ:Operand->AV}{ρv:Operand->Value}{G:Gh}{m:bF}{w:World}{rows:List (List D)}(hrow:aS P T=some (E,sz,by'))(hr:mL (parts.toList.map fun p=>ρ p.2)=some rows)(hp:parts.toList.map (·.1)=List.range len)(hs:∀r∈rows,r.length=sz)(h24:len*sz<=16777216)(hρ:∀p∈parts.toList,RV G w (ρ p.2) (ρv p.2))(hm:aR G m w):
  ∃u o,(Instr.buildSlice T len (parts.map fun (i,x)=>(i,ρv x))).run P w=.ok u (w.alloc o)/\RV G (w.alloc o) (.osl sz rows .full) u:=by
 obtain⟨hE,i,z,hi,hz,nw,ko,mb,lc,_⟩:=eW hrow;have hsz:(sizeOf E).run P w=.ok sz w:=bP (by simp[aP,hi,ko]) w
 have u9:(zeroValue E).run P w=.ok z w:=by simp[zeroValue,typeInfo,hi,hz]
 let vs:List Value:=parts.toList.map fun p=>ρv p.2
 have hlen:len=vs.length:=by
  have:=fp List.length hp
  simpa[vs] using this.symm
 have Bp:RVs G w (parts.toList.map fun p=>ρ p.2) vs:=⟨by simp[vs],fun j g1 g2=>by
  simp only[bj,vs];exact hρ _ (aa _)⟩
 obtain⟨k1,k2⟩:=tH Bp hr;have Ad:∀v∈vs,v.cells.size=sz:=by
  intro v hv;obtain⟨j,hj,rfl⟩:=bi hv;have:=(k2 j (by omega) hj).2.1
  rw[hs _ (aa _)] at this;simpa using this.symm
 have tw:(parts.map fun (i,x)=>(i,ρv x)).toList=(List.range' 0 vs.length).zip vs:=by
  rw[<-hlen];have e1:(List.range' 0 len)=parts.toList.map (·.1):=by rw[hp,List.range_eq_range']
  rw[e1,fl];show _=(parts.toList.map (·.1)).zip (parts.toList.map fun p=>ρv p.2)
  rw[List.zip_map']
 let zc:Array Value:=if len*sz=0 then #[] else z.cells
 obtain⟨ov,h1,h2⟩:=aBP (sz:=sz) vs 0 ((Array.range (len*sz)).map (zc[· % zc.size]!)) Ad (by simp[hlen]);simp only[Nat.zero_mul,List.take_zero,gg] at h2;have Ae:¬(len*sz>2 ^ 24):=by omega
 refine⟨.slice (some ⟨w.heap.size,0,none⟩) len len,.cells ov E,?_,?_⟩
 .by_cases h0:len*sz=0
  .have B6:zc = #[]:=by simp only[zc,h0,↓reduceIte]
   rw[B6] at h1;have Dm:¬((0:Nat)>2 ^ 24):=by omega
   simp only[Instr.buildSlice,aw,bm hE,aj,hsz,Ae,Dm,↓reduceIte,h0,ay] at h1 ⊢;simp only[tw,h1,aw,newRow,ay,aj];rfl
  .have B6:zc=z.cells:=by simp only[zc,h0,↓reduceIte]
   rw[B6] at h1;simp only[Instr.buildSlice,aw,bm hE,aj,hsz,Ae,↓reduceIte,h0,u9,ay] at h1 ⊢;simp only[tw,h1,aw,newRow,ay,aj];rfl
 .have Dn:=Le.alloc (w:=w) hm.fresh (.cells ov E);have wq:∀v∈vs.map (fun v=>v.cells.toList),v.length=sz:=by
   intro l hl;simp only[bc] at hl;obtain⟨v,hv,rfl⟩:=hl;simpa using Ad v hv
  have j8:gX (w.alloc (.cells ov E)).cell? G.ps sz rows (some ⟨w.heap.size,0,none⟩) ov.toList:=by
   constructor
   .rw[h2,dG wq,br,<-k1]
   .intro a ha q u hq;cases ha;rw[bK];refine⟨?_,?_⟩
    .unfold Gh.ps;rw[hm.fresh w.heap.size (nr0 _)];trivial
    .rw[ee _ w.heap.size _ ov E (0,0) (e8 w _),b6];simpa using hq
   .intro u hu;rw[h2] at hu;simp only[f8,bc] at hu;obtain⟨l,⟨v,hv,rfl⟩,Do⟩:=hu;obtain⟨j,hj,rfl⟩:=bi hv;exact(k2 j (by omega) hj).1 u Do
   .exact fun _=>⟨_,rfl⟩
   .exact hs
   .intro a b ha hb;have CA:a<vs.length:=by omega
    have Af:b<sz:=by rw[<-hs _ (aa ha)];exact hb
    obtain⟨_,g2,g3⟩:=k2 a ha CA;have n6:(vs.map fun v=>v.cells.toList)[a]?=some vs[a].cells.toList:=by simp[CA]
    refine⟨vs[a].cells.toList[b]'(by omega),?_,(g3 b hb (by omega)).mono Dn.cells⟩;rw[h2,gM wq n6 Af];exact ab _
  have mz:rows.length=len:=by omega
  have:=RVd.of_flat (cap:=len) (by omega) (by unfold maxLen;have:=Nat.le_mul_of_pos_right len lc;omega) j8
  rw[mz] at this;exact .osl this (by rw[mz];exact⟨_,rfl,fun e=>absurd e (by omega)⟩)
variable {P:Program}
theorem dK.pure{o:Oper}{ρv:Operand->Value}{G:Gh}{w:World}{R:Value->Gh->World->Prop}{u:Value}(h:(execOp ρv o).run P w=.ok (.value u) w)(hr:R u G w):dK P o ρv G w R :=
 ⟨.value u,u,G,w,h,.inl rfl,Le.refl G w,hr⟩
theorem aAx{T f off n:Nat}{pl:List (Nat × Nat)}(h:aM P T=some pl)(hf:pl[f]?=some (off,n)):∃fs x,P.underlying T=some (.struct fs)/\fs[f]?=some x/\x.offset=off/\aP P x.type=some n:=by
 unfold aM at h;split at h
 .rename_i fs ry;split at h
  .rename_i gz;simp only[ad] at h;subst h;simp only[gh] at hf;obtain⟨x,hx,xm⟩:=cr.1 hf;have qf:fs[f]?=some x:=by simpa using hx
   have i5:x∈fs.toList:=eq hx
   obtain⟨i,hi⟩:=c7.1 (ax.1 gz x i5);simp only[aq,hi,dd,du] at xm;exact⟨fs,x,ry,qf,xm.1,by simp[aP,hi,xm.2]⟩
  .cases h
 .cases h
theorem tK{T f off n:Nat}{pl:List (Nat × Nat)}(h:aM P T=some pl)(hf:pl[f]?=some (off,n))(hn:n≠0)(a:Addr)(w:World):(Instr.fieldAt T (.pointer (some a)) f).run P w=.ok (.pointer (some (a.add off))) w:=by
 obtain⟨fs,x,h1,h2,h3,h4⟩:=aAx h hf;simp only[Instr.fieldAt,aw,bm h1,aj,h2,Instr.sureAddr,ay,fieldPlace,bP h4,hn,↓reduceIte,h3]
theorem aGK{G:Gh}{w:World}{cs:List AV}{vs:List Value}(h:RVs G w cs vs){ag:Bool}{n off:Nat}{v:AV}(hl:pT ag n cs off=some v)(h1:∀u∈vs,u.oneCell'=true):
  ∃u,(if ag then (some (.agg (vs.toArray.extract off (off+n))):Option Value) else vs[off]?)=some u/\RV G w v u:=by
 unfold pT at hl;cases ag with
 | false =>
  simp only[bt,↓reduceIte] at hl ⊢;obtain⟨u,hu,hr⟩:=h.get hl;exact⟨u,hu,hr⟩
 | true =>
  simp only[↓reduceIte] at hl ⊢;split at hl
  .simp only[ad] at hl;subst hl;refine⟨_,rfl,?_⟩;have hs:=(h.drop off).take n;have e:vs.toArray.extract off (off+n)=((vs.drop off).take n).toArray:=by
    simp only[List.extract_toArray,List.extract_eq_take_drop,d9]
   rw[e];exact .agg hs.1 hs.2 (fun u hu=>h1 u (co (bq hu)))
  .cases hl
theorem aIP{T off n:Nat}{ag:Bool}{cs:Array Value}{u:Value}(qs:aU P T=some ag)(hn:aP P T=some n)(h:(if ag then (some (.agg (cs.extract off (off+n))):Option Value) else cs[off]?)=some u)(w:World):
  (part T cs off).run P w=.ok u w:=by
 cases ag with
 | false =>
  simp only[bt,↓reduceIte] at h;simp only[part,aw,iB qs,aj,bt,↓reduceIte,h,ay]
 | true =>
  simp only[↓reduceIte,ad] at h;simp only[part,aw,iB qs,aj,↓reduceIte,bP hn,ay,h]
def tP(k:Nat)(T:TypeId)(zs:List Value):List AV:=match zs with
 | [.pointer none,.slice none 0 0]=>[.here k T,cD (.slice none 0 0)]
 | zs=>zs.map cD
theorem aKS{G:Gh}{w:World}{k b sz:Nat}{T:TypeId}{cs:Array Value}{f:Nat × Nat}(zs:List Value)(h:G.bx k=some (b,sz))(ht:w.heap[b]?=some (.cells cs T f)):RVs G w (tP k T zs) zs:=by
 unfold tP;split
 .exact RVs.cons (.here h ht) (RVs.cons (RV.of_ofVal1 _) RVs.nil)
 .exact⟨by simp,fun j g1 g2=>by simp only[bj];exact RV.of_ofVal1 _⟩
def pM(P:Program)(base:Nat)(o:Oper)(G:Gh)(box:Bxs):Prop:=match o.op,o.dst with
 | .alloc T,some s=>∃zs,aH P T=some zs/\box (base+s)=some [tP (base+s) T zs]/\G.bx (base+s)=none
 | _,_=>True
theorem dR{α:Type}(f:Nat->α)(k:Nat)(v:α)(h:f k=v):upd f k v=f:=by
 funext j
 unfold upd;split
 .rename_i e;rw[e,h]
 .rfl
theorem aDF{ρ:Operand->AV}{ρv:Operand->Value}{G:Gh}{w:World}:∀{xs:List Operand} {vs:List Value},gD (xs.map ρ)=some vs->(∀x∈xs,RV G w (ρ x) (ρv x))->xs.map ρv=vs:=by
 intro xs vs h hρ;exact lZ (G:=G) (w:=w) h ⟨by simp,fun i h1 h2=>by simp only[bj];exact hρ _ (aa _)⟩
set_option maxHeartbeats 1000000 in
theorem aEw{base:Nat}{o:Oper}{ρ:Operand->AV}{ρv:Operand->Value}{G:Gh}{m:bF}{w:World}{v:AV}(h:aBD P base o ρ v)(hρ:∀x∈o.op.operands,RV G w (ρ x) (ρv x))(hm:aR G m w)(hd:∀s,o.dst=some s->base+s<m.nb)(hp:pM P base o G m.box):
  dK P o ρv G w fun u G' w'=>RV G' w' v u/\aR G' m w'/\∀k,some k≠o.dst.map (base + ·)->G.bx k=none->G'.bx k=none:=by
 have keep:∀u,(execOp ρv o).run P w=.ok (.value u) w->RV G w v u->dK P o ρv G w fun u G' w'=>RV G' w' v u/\aR G' m w'/\∀k,some k≠o.dst.map (base + ·)->G.bx k=none->G'.bx k=none :=
  fun u h1 h2=>.pure h1 ⟨h2,hm,fun _ _ h=>h⟩
 unfold aBD at h;split at h
 .rename_i x ho;subst h;exact keep (ρv x) (by simp only[execOp,ho,ay]) (hρ x (by rw[ho];simp[Op.operands]))
 .rename_i x ho;subst h;exact keep (ρv x) (by simp only[execOp,ho,ay]) (hρ x (by rw[ho];simp[Op.operands]))
 .rename_i c a b ho;split at h
  .rename_i t hc;have h1:=hρ c (by rw[ho];simp[Op.operands]);rw[hc] at h1;have h2:ρv c=.bool t:=cY rfl h1
   subst h;cases t with
   | true=>exact keep (ρv a) (by simp[execOp,ho,h2,asBool]) (hρ a (by rw[ho];simp[Op.operands]))
   | false=>exact keep (ρv b) (by simp[execOp,ho,h2,asBool]) (hρ b (by rw[ho];simp[Op.operands]))
  .exact h.elim
 .rename_i T ho;split at h
  .rename_i s hs;subst h;unfold pM at hp;rw[ho,hs] at hp;obtain⟨zs,hz,Hb,mu⟩:=hp;unfold aH at hz;split at hz
   .rename_i z Aa;split at hz
    .rename_i jc;simp only[ad] at hz;subst hz;obtain⟨i,hi,Ab⟩:=dp.1 Aa;have u9:(zeroValue T).run P w=.ok z w:=by simp[zeroValue,typeInfo,hi,Ab]
     have hrel:=hm.mkbox' (k:=base+s) mu (hd s hs) (sz:=(tP (base+s) T z.cells.toList).length) (rows:=[tP (base+s) T z.cells.toList]) (by simp) (cs:=z.cells) T
      (by simp only[ck,List.flatten_nil,c9];exact aKS _ (by simp only[Gh.mkbox];exact uS _ _ _) (e8 w _)) (fun u hu=>ax.1 jc u hu)
     have iw:({ m with box:=upd m.box (base+s) (some [tP (base+s) T z.cells.toList]) }:bF)=m:=by
      cases m;simp only[bF.mk.injEq,and_true];exact dR _ _ _ Hb
     rw[iw] at hrel;refine⟨.value (.pointer (some ⟨w.heap.size,0,none⟩)),_,_,w.alloc (.cells z.cells T),?_,.inl rfl,Le.mkbox hm.fresh hm.tlt mu _ _,?_,hrel,?_⟩
     .simp only[execOp,ho,Instr.alloc,newVar,newRow,aw,u9,ay,aj];rfl
     .have:(⟨w.heap.size,0,none⟩:Addr)=⟨w.heap.size,0*(tP (base+s) T z.cells.toList).length+0,none⟩:=by simp
      rw[this];exact .ptr (by simp[Gh.mkbox,uS])
     .intro k hk hg;have hne:k≠base+s:=fun e=>hk (by rw[hs,e];rfl)
      simp only[Gh.mkbox];rw[uO _ _ hne];exact hg
    .cases hz
   .cases hz
  .exact h.elim
 .rename_i T parts ho;split at h
  .rename_i pl zs l5 hz;split at h
   .rename_i cs lx;subst h;obtain⟨u,h1,h2⟩:=aCn (ρv:=ρv) l5 hz lx (fun p hp=>hρ p.2 (by rw[ho];simp only[Op.operands];rw[<-Array.mem_toList_iff];simpa using ⟨p.1,by simpa using hp⟩));exact keep u (by simp only[execOp,ho,aw,h1,aj,ay]) h2
   .exact h.elim
  .exact h.elim
 .rename_i T len parts ho;split at h
  .rename_i E sz by' rows hrow hr
   obtain⟨h1,h2,h3,rfl⟩:=h;obtain⟨u,ob,h4,h5⟩:=rT (ρv:=ρv) hrow hr h1 h2 h3 (fun p hp=>hρ p.2 (by rw[ho];simp only[Op.operands];rw[<-Array.mem_toList_iff];simpa using ⟨p.1,by simpa using hp⟩)) hm;exact⟨.value u,u,G,w.alloc ob,by simp only[execOp,ho,aw,h4,aj,ay],.inl rfl,Le.alloc hm.fresh ob,h5,hm.alloc ob,fun _ _ h=>h⟩
  .exact h.elim
 .rename_i x ho;have h1:=hρ x (by rw[ho];simp[Op.operands]);split at h
  .rename_i k i off hx;subst h;rw[hx] at h1;generalize hv:ρv x=xv at h1;have tx:=h1
   cases tx with
   | ptr hb=>exact keep _ (by simp only[execOp,ho,hv,ay]) h1
  .rename_i cs off hx;subst h;rw[hx] at h1;generalize hv:ρv x=xv at h1;have tx:=h1
   cases tx with
   | cptr a u hc hr=>exact keep _ (by simp only[execOp,ho,hv,ay]) h1
  .rename_i f caps hx;subst h;rw[hx] at h1;generalize hv:ρv x=xv at h1;have tx:=h1
   cases tx with
   | fn hl hh=>exact keep _ (by simp only[execOp,ho,hv,ay]) h1
  .exact h.elim
 .rename_i op T x y T2 ho;split at h
  .rename_i a b ha hb;obtain⟨r,hr,rfl⟩:=h;have h1:=cY ha (hρ x (by rw[ho];simp[Op.operands]));have h2:=cY hb (hρ y (by rw[ho];simp[Op.operands]));refine keep r ?_ (.raw hr.1);have:=hr.2 x y w
   simp only[execOp,ho,h1,h2,aw,ay] at this ⊢;rw[this];rfl
  .exact h.elim
 .rename_i op T x ho;split at h
  .rename_i a ha;obtain⟨r,hr,rfl⟩:=h;have h1:=cY ha (hρ x (by rw[ho];simp[Op.operands]));exact keep r (by simp only[execOp,ho,h1,aw,hr.2 w,aj,ay]) (.raw hr.1)
  .exact h.elim
 .rename_i s t x ho;split at h
  .rename_i a ha;obtain⟨r,hr,rfl⟩:=h;have h1:=cY ha (hρ x (by rw[ho];simp[Op.operands]));exact keep r (by simp only[execOp,ho,h1,aw,hr.2 w,aj,ay]) (.raw hr.1)
  .exact h.elim
 .rename_i fn first caps ho;obtain⟨h0,rfl⟩:=h;have hf:first = #[]:=by rw[<-Array.toArray_toList (xs:=first),h0]
  subst hf;refine keep (.func fn #[] (caps.map ρv)) (by simp[execOp,ho,Instr.makeFunc]) ?_;have:=RV.fn (G:=G) (w:=w) (f:=fn) (caps:=caps.toList.map ρ) (vs:=caps.toList.map ρv) (by simp) (fun i h1 h2=>by
   simp only[bj];exact hρ _ (by rw[ho];simp only[Op.operands];rw[<-Array.mem_toList_iff];simp))
  have e:caps.map ρv=(caps.toList.map ρv).toArray:=by rw[<-Array.toList_map,Array.toArray_toList]
  rw[e];exact this
 .rename_i T x f ho;have h1:=hρ x (by rw[ho];simp[Op.operands]);split at h
  .rename_i pl l5;split at h
   .rename_i off n cs o' hf hx;obtain⟨hn,rfl⟩:=h;rw[hx] at h1;generalize hv:ρv x=xv at h1;cases h1 with
    | cptr a u hc hr =>
     refine keep _ (by simp only[execOp,ho,hv,aw,tK l5 hf hn,aj,ay];rfl) ?_;rw[add_add];exact .cptr a u hc hr
   .rename_i off n k i o' hf hx;obtain⟨hn,rfl⟩:=h;rw[hx] at h1;generalize hv:ρv x=xv at h1;cases h1 with
    | ptr hb =>
     refine keep _ (by simp only[execOp,ho,hv,aw,tK l5 hf hn,aj,ay];rfl) ?_;rw[bK,gm];exact .ptr hb
   .exact h.elim
  .exact h.elim
 .rename_i T x f ho;have h1:=hρ x (by rw[ho];simp[Op.operands]);split at h
  .rename_i ft off cs hf hx;split at h
   .rename_i ag n qs hn;rw[hx] at h1;generalize hv:ρv x=xv at h1;cases h1 with
    | agg hl hh jc =>
     rename_i vs;obtain⟨u,h2,h3⟩:=aGK ⟨hl,hh⟩ h jc;unfold aB at hf;split at hf
     .rename_i fs ry;obtain⟨fd,Dp,CB⟩:=cr.1 hf;simp only[aq] at CB;obtain⟨rfl,rfl⟩:=CB;refine keep u ?_ h3;have Ac:(part fd.type vs.toArray fd.offset).run P w=.ok u w:=aIP qs hn (by simpa using h2) w
      simp only[execOp,ho,hv,Instr.field,aw,bm ry,aj,Dp,asAgg,ay,Ac]
     .cases hf
   .exact h.elim
  .exact h.elim
 .rename_i T x i ho;split at h
  .rename_i k n hi;have h1:=hρ x (by rw[ho];simp[Op.operands]);have h2:=hρ i (by rw[ho];simp[Op.operands]);rw[hi] at h2;have h3:ρv i=.int k n:=cY rfl h2
   obtain⟨u,h4,h5⟩:=aCw (k:=k) h h1;exact keep u (by simp only[execOp,ho,h3,aw,h4,aj,ay]) h5
  .exact h.elim
 .rename_i T x i ho;split at h
  .rename_i s k n hx hi;obtain⟨hT,h0,b,hb,rfl⟩:=h;have h1:=hρ x (by rw[ho];simp[Op.operands]);have h2:=hρ i (by rw[ho];simp[Op.operands]);rw[hx] at h1;rw[hi] at h2;have h3:ρv x=.string s:=cY rfl h1
   have h4:ρv i=.int k n:=cY rfl h2
   refine keep (.int .u8 b.toNat) ?_ (.raw rfl);simp only[execOp,ho,h3,h4,Instr.index,aw,jB,aj,bm (rH hT),h0,↓reduceIte,hb,ay]
  .exact h.elim
 .rename_i t i ho;split at h
  .rename_i vs ht;have h1:=hρ t (by rw[ho];simp[Op.operands]);rw[ht] at h1;generalize hv:ρv t=tv at h1;cases h1 with
   | tup hl hh =>
    rename_i us;obtain⟨u,hu,hr⟩:=RVs.get ⟨hl,hh⟩ h;refine keep u ?_ hr;have vg:us.toArray[i]?=some u:=by simpa using hu
    simp only[execOp,ho,hv,Instr.extract,vg,aw,ay,aj]
  .exact h.elim
 .rename_i T x lo hi mx ho;have h1:=hρ x (by rw[ho];simp[Op.operands]);obtain⟨u,h2,h3⟩:=yE (ρv:=ρv) h h1 (fun y hy=>hρ y (by rw[ho];simp[Op.operands,hy])) (fun y hy=>hρ y (by rw[ho];simp[Op.operands,hy])) (fun y hy=>hρ y (by rw[ho];simp[Op.operands,hy]));exact keep u (by simp only[execOp,ho,aw,h2,aj,ay]) h3
 .rename_i c ho;split at h
  .rename_i xa T ik hargs kz;obtain⟨x,xu,rfl⟩:=List.map_eq_singleton_iff.1 hargs;have ha:c.args = #[x]:=by rw[<-Array.toArray_toList (xs:=c.args),xu]
   have hb:c.argTypes = #[T]:=by rw[<-Array.toArray_toList (xs:=c.argTypes),kz]
   have h1:=hρ x (by rw[ho];simp[Op.operands,Call.operands,ik,ha]);obtain⟨u,h2,h3⟩:=aCF (ty:=o.type) h h1;refine keep u ?_ h3;simp only[execOp,ho,resolve,ik,ha,hb,List.map_toArray,de,dw,aw,ay,aj,invoke,builtin,h2]
  .exact h.elim
  .rename_i args tys b wt ik wu;split at h
   .rename_i vs vd;obtain⟨r,hr,rfl⟩:=h;have B7:(c.args.map ρv)=vs.toArray:=by
     have:=aDF (ρv:=ρv) (G:=G) (w:=w) vd (fun x hx=>hρ x (by rw[ho];simp only[Op.operands,Call.operands,ik];rw[<-Array.mem_toList_iff];simpa using hx))
     rw[<-this,<-Array.toList_map,Array.toArray_toList]
    refine keep r ?_ (.raw hr.1);simp only[execOp,ho,resolve,ik,aw,ay,aj,invoke,B7,hr.2]
   .exact h.elim
  .exact h.elim
 .exact h.elim
variable {P:Program} {wr:Bool}
structure AS where
 tmps:Nat->AV
 box:Bxs
 tok:Nat->Bool
 nt:Nat
def AS.ev(S:AS):Operand->AV
 | .tmp t=>S.tmps t
 | .const v=>aEL v
 | .global g=>aIC g
 | .func f=>.fn (.func f) []
def bU(f:Nat->AV)(dst:Option Tmp)(v:AV):Nat->AV:=match dst with
 | some d=>upd f d v
 | none=>f
structure cS (n nb:Nat) (G:Gh) (S:AS) (a:Act) (w:World):Prop where
 defers:a.defers=[]
 size:a.tmps.size=n
 tmps:∀t,RV G w (S.tmps t) (a.tmps.getD t undef)
 mem:aR G ⟨S.box,nb,S.tok,S.nt⟩ w
theorem cS.ev{n nb:Nat}{G:Gh}{S:AS}{a:Act}{w:World}(h:cS n nb G S a w)(x:Operand):RV G w (S.ev x) (a.eval x):=by
 cases x with
 | tmp t=>exact h.tmps t
 | const v=>exact RV.of_ofVal v
 | global g=>exact h.mem.glob.rv g
 | func f=>exact .fn (vs:=[]) rfl (fun i h=>by simp at h)
def gO(P:Program)(f:FuncId):Prop:=∀args w,(callFunc f args).run P w=.ok (.enter f args) w
theorem gO.mk{f:FuncId}{fn:Func}(h:P.funcs[f]?=some fn)(hb:fn.body.isSome=true)(hn:(fn.name == "runtime.NumGoroutine")=false):gO P f:=by
 intro args w;obtain⟨c,hc⟩:=c7.1 hb;have tz:¬fn.name = "runtime.NumGoroutine" := by simpa using hn
 simp[callFunc,program,Sem.run,h,tz,hc]
def aC(P:Program)(f:FuncId)(args:List AV)(m:bF)(Q:AV->bF->Prop):Prop :=
 gO P f/\∀G w vals,aR G m w->RVs G w args vals->Calls P f vals.toArray w fun e w'=>∃v av m' G',e=.returned v/\Q av m'/\m'.nb=m.nb /\
  aR G' m' w'/\RV G' w' av v/\Le G w G' w'/\∀k,G.bx k=none->G'.bx k=none/\m'.box k=m.box k
theorem aC.mono{f:FuncId}{args:List AV}{m:bF}{Q Q':AV->bF->Prop}(h:aC P f args m Q)(hq:∀v m',Q v m'->Q' v m'):aC P f args m Q' :=
 ⟨h.1,fun G w vals hm hr=>(h.2 G w vals hm hr).mono fun e w' ⟨v,av,m',G',h1,h2,h3⟩=>⟨v,av,m',G',h1,hq _ _ h2,h3⟩⟩
def cZ(P:Program)(f:FuncId)(args:List AV)(tok:Tks)(nt:Nat)(v:AV)(tok':Nat->Bool)(nt':Nat):Prop :=
 ∀box nb,aC P f args ⟨box,nb,tok,nt⟩ fun v' m'=>v'=v/\m'=⟨box,nb,tok',nt'⟩
def Ext(box box':Bxs):Prop:=∀k r,box k=some r->box' k=some r
theorem Ext.refl(box:Bxs):Ext box box:=fun _ _ h=>h
theorem Ext.trans{a b c:Bxs}(h:Ext a b)(k:Ext b c):Ext a c:=fun i r hi=>k i r (h i r hi)
def dH(P:Program)(f:FuncId)(args:List AV)(box:Bxs)(tok:Tks)(nt:Nat)(v:AV)(tok':Nat->Bool)(nt':Nat):Prop :=
 ∀box' nb,Ext box box'->aC P f args ⟨box',nb,tok,nt⟩ fun v' m'=>v'=v/\m'=⟨box',nb,tok',nt'⟩
theorem cZ.r{f:FuncId}{args:List AV}{tok:Nat->Bool}{nt:Nat}{v:AV}{tok':Nat->Bool}{nt':Nat}(h:cZ P f args tok nt v tok' nt')(box:Bxs):dH P f args box tok nt v tok' nt' :=
 fun box' nb _=>h box' nb
theorem dH.ext{f:FuncId}{args:List AV}{box box1:Bxs}{tok:Nat->Bool}{nt:Nat}{v:AV}{tok':Nat->Bool}{nt':Nat}(h:dH P f args box tok nt v tok' nt')(he:Ext box box1):dH P f args box1 tok nt v tok' nt' :=
 fun box' nb h'=>h box' nb (he.trans h')
def rW(P:Program)(o:Oper)(ρ:Operand->AV)(box:Bxs)(tok:Tks)(nt:Nat)(v:AV)(tok':Nat->Bool)(nt':Nat):Prop:=match o.op with
 | .call c=>match c.callee with
  | .value f=>match ρ f with
   | .fn (.func fid) caps=>dH P fid (c.args.toList.map ρ++caps) box tok nt v tok' nt'
   | _=>False
  | _=>False
 | _=>False
def aLK(P:Program)(f:FuncId)(args:List AV)(k:Nat)(box:Bxs)(tok:Tks)(nt:Nat)(v:AV)(rows:List (List AV))(tok':Nat->Bool)(nt':Nat):Prop :=
 ∀box' nb,box' k=box k->aC P f args ⟨box',nb,tok,nt⟩ fun v' m'=>v'=v/\m'=⟨upd box' k (some rows),nb,tok',nt'⟩
def aAT:Op->Option Operand
 | .call { callee:=.value _,args,.. }=>args.toList.head?
 | _=>none
def aB5(P:Program)(o:Oper)(ρ:Operand->AV)(box:Bxs)(tok:Tks)(nt:Nat)(v:AV)(box':Bxs)(tok':Nat->Bool)(nt':Nat):Prop:=match o.op with
 | .call c=>match c.callee with
  | .value f=>match ρ f with
   | .fn (.func fid) caps=>∃x k i off rows,aAT o.op=some x/\ρ x=.ptr k i off/\box k≠none/\box'=upd box k (some rows)/\aLK P fid (c.args.toList.map ρ++caps) k box tok nt v rows tok' nt'
   | _=>False
  | _=>False
 | _=>False
inductive Cls where
 | n|r|w|t
 deriving DecidableEq
def cls:Op->Cls
 | .load .. => .r
 | .store .. => .w
 | .box .. => .w
 | .makeSlice .. => .w
 | .call { callee:=.builtin .append,.. }=>.t
 | .call { callee:=.builtin .copy,.. }=>.w
 | .call { callee:=.builtin .clear,.. }=>.w
 | .call { callee:=.value _,.. }=>.t
 | .makeMap .. => .t
 | .lookup .. => .t
 | _=>.n
def Eff(P:Program)(wr:Bool)(base:Nat)(o:Oper)(ρ:Operand->AV)(box:Bxs)(tok:Tks)(nt:Nat)(v:AV)(box':Bxs)(tok':Nat->Bool)(nt':Nat):Prop :=
 match cls o.op with
 | .n=>aBD P base o ρ v/\box'=box/\tok'=tok/\nt'=nt
 | .r=>oU P o ρ box v/\box'=box/\tok'=tok/\nt'=nt
 | .w=>pH P base o ρ box v box'/\tok'=tok/\nt'=nt
 | .t=>((aD2 P o ρ tok nt v tok' nt'∨rW P o ρ box tok nt v tok' nt')/\box'=box)∨wr=true/\aB5 P o ρ box tok nt v box' tok' nt'
def yI(P:Program)(wr:Bool)(base:Nat)(o:Oper)(S S':AS):Prop :=
 ∃v box' tok' nt',Eff P wr base o S.ev S.box S.tok S.nt v box' tok' nt'/\S'=⟨bU S.tmps o.dst v,box',tok',nt'⟩
def dN(ops:Array Oper)(S:AS)(j:Nat):Option (Option Bool):=match (ops[j]?).bind (·.dst) with
 | some d=>match S.tmps d with
  | .d (.raw (.bool b))=>some (some b)
  | .tup []=>some none
  | _=>none
 | none=>none
def cH(P:Program)(wr:Bool)(base:Nat)(ops:Array Oper)(o:Oper)(S S':AS):Prop:=match o.guard with
 | none=>yI P wr base o S S'
 | some (j,want)=>match dN ops S j with
  | some b=>if b=some want then yI P wr base o S S' else S'={ S with tmps:=bU S.tmps o.dst (.tup []) }
  | none=>False
theorem RV.undef{G:Gh}{w:World}:RV G w (.tup []) Go.undef:=.tup (vs:=[]) rfl fun i h=>by simp at h
theorem cS.put{n nb:Nat}{G G':Gh}{S:AS}{a:Act}{w w':World}(h:cS n nb G S a w)(g9:Le G w G' w'){dst:Option Tmp}(hd:∀d,dst=some d->d<n){v:AV}{u:Value}(hv:RV G' w' v u){box:Bxs}{tok:Nat->Bool}{nt:Nat}(hm:aR G' ⟨box,nb,tok,nt⟩ w'):cS n nb G' ⟨bU S.tmps dst v,box,tok,nt⟩ (a.put dst u) w':=by
 cases dst with
 | none=>exact⟨h.defers,h.size,fun t=>(h.tmps t).mono g9,hm⟩
 | some d =>
  refine⟨h.defers,by simp[Act.put,h.size],fun t=>?_,hm⟩;have rz:=hd d rfl
  simp only[bU,Act.put];by_cases e:t=d
  .subst e;rw[uS];have:t<a.tmps.size:=by rw[h.size];exact rz
   simpa[Array.getD,this] using hv
  .rw[uO _ _ e];have h1:(a.tmps.setIfInBounds d u).getD t undef=a.tmps.getD t undef:=by
    simp only[Array.getD_eq_getD_getElem?];rw[Array.getElem?_setIfInBounds_ne (by omega)]
   rw[h1];exact(h.tmps t).mono g9
theorem dK.wp{n nb:Nat}{o:Oper}{G:Gh}{S:AS}{a:Act}{w:World}{R:Value->Gh->World->Prop}{K:Act->World->Prop}{Q:Exit->Act->World->Prop}(h:dK P o a.eval G w R)(hk:∀u G' w',Le G w G' w'->R u G' w'->K (a.put o.dst u) w'):o.wp P a w K Q:=by
 obtain⟨nx,u,G',w',h1,h2,h3,h4⟩:=h;unfold Oper.wp;rw[h1];rcases h2 with rfl|⟨rfl,rfl⟩
 .exact hk u G' w' h3 h4
 .exact hk undef G' w' h3 h4
def aGO(base:Nat)(o:Oper)(G G':Gh)(box box':Bxs):Prop:=∀k,some k≠o.dst.map (base + ·)->G.bx k=none->G'.bx k=none/\box' k=box k
theorem oW{n nb base:Nat}{o:Oper}{S S':AS}{G:Gh}{a:Act}{w:World}{Q:Exit->Act->World->Prop}(h:yI P wr base o S S')(hr:cS n nb G S a w)(hd:∀d,o.dst=some d->d<n)(j5:base+n<=nb)(hp:pM P base o G S.box):
  o.wp P a w (fun a' w'=>∃G',cS n nb G' S' a' w'/\Le G w G' w'/\aGO base o G G' S.box S'.box) Q:=by
 obtain⟨v,box',tok',nt',he,rfl⟩:=h;have hρ:∀x∈o.op.operands,RV G w (S.ev x) (a.eval x):=fun x _=>hr.ev x
 have CC:∀s,o.dst=some s->base+s<nb:=fun s hs=>cn (Nat.add_lt_add_left (hd s hs) base) j5
 unfold Eff at he;split at he
 .obtain⟨he,rfl,rfl,rfl⟩:=he;exact(aEw he hρ hr.mem CC hp).wp (n:=n) (nb:=nb) (S:=S) fun u G' w' g9 ⟨h1,h2,h3⟩=>⟨G',hr.put g9 hd h1 h2,g9,fun k hk hg=>⟨h3 k hk hg,rfl⟩⟩
 .obtain⟨he,rfl,rfl,rfl⟩:=he;obtain⟨u,g1,g2⟩:=xA he hρ hr.mem;exact(dK.pure (R:=fun u G' w'=>RV G' w' v u/\G'=G/\w'=w) g1 ⟨g2,rfl,rfl⟩).wp (n:=n) (nb:=nb) (S:=S) fun u G' w' g9 ⟨k1,k2,k3⟩=>by
   subst k2;subst k3;exact⟨_,hr.put g9 hd k1 hr.mem,g9,fun k hk hg=>⟨hg,rfl⟩⟩
 .obtain⟨he,rfl,rfl⟩:=he;exact(aEA he hρ hr.mem CC).wp (n:=n) (nb:=nb) (S:=S) fun u G' w' g9 ⟨h1,h2,h3⟩=>⟨G',hr.put g9 hd h1 h2,g9,h3⟩
 .rcases he with ⟨he|he,rfl⟩|⟨_,qv⟩
  .exact(aD9 he hρ hr.mem).wp (n:=n) (nb:=nb) (S:=S) fun u G' w' g9 ⟨h1,h2,h3⟩=>⟨G',hr.put g9 hd h1 h2,g9,fun k hk hg=>⟨by rw[h3];exact hg,rfl⟩⟩
  .unfold rW at he;split at he
   .rename_i c ho;split at he
    .rename_i f ik;split at he
     .rename_i fid caps hf;obtain⟨qg,hc⟩:=he S.box nb (Ext.refl _);have qw:=hr.ev f;rw[hf] at qw;generalize hv:a.eval f=fv at qw;cases qw with
      | fn hl hh =>
       rename_i cvs;have hargs:RVs G w (c.args.toList.map S.ev++caps) ((c.args.map a.eval).toList++cvs):=by
        refine RVs.append ⟨by simp,fun i h1 h2=>?_⟩ ⟨hl,hh⟩;simp only[bj,fl];exact hr.ev _
       have n8:=hc G w _ hr.mem hargs;unfold Oper.wp;have jv:(execOp a.eval o).run P w=.ok (.enter fid ((c.args.map a.eval).toList++cvs).toArray) w:=by
        have e:((c.args.map a.eval).toList++cvs).toArray = #[]++c.args.map a.eval++cvs.toArray:=by simp
        simp only[execOp,ho,resolve,ik,hv,Deferred.ofValue,aw,ay,aj,invoke,e];exact qg _ w
       rw[jv];refine Calls.mono n8 fun e w' ⟨u,av,m',G',h1,h2,h3,h4,h5,h6,h7⟩=>?_
       subst h1;obtain⟨rfl,rfl⟩:=h2;exact⟨G',hr.put h6 hd h5 h4,h6,fun k hk hg=>⟨(h7 k hg).1,rfl⟩⟩
     .exact he.elim
    .exact he.elim
   .exact he.elim
  .unfold aB5 at qv;split at qv
   .rename_i c ho;split at qv
    .rename_i f ik;split at qv
     .rename_i fid caps hf;obtain⟨x,kb,i0,off,rows,hcp,hx,n5,mu,Dq⟩:=qv;obtain⟨qg,hc⟩:=Dq S.box nb rfl;have qw:=hr.ev f;rw[hf] at qw;generalize hv:a.eval f=fv at qw;cases qw with
      | fn hl hh =>
       rename_i cvs;have hargs:RVs G w (c.args.toList.map S.ev++caps) ((c.args.map a.eval).toList++cvs):=by
        refine RVs.append ⟨by simp,fun i h1 h2=>?_⟩ ⟨hl,hh⟩;simp only[bj,fl];exact hr.ev _
       have n8:=hc G w _ hr.mem hargs;unfold Oper.wp;have jv:(execOp a.eval o).run P w=.ok (.enter fid ((c.args.map a.eval).toList++cvs).toArray) w:=by
        have e:((c.args.map a.eval).toList++cvs).toArray = #[]++c.args.map a.eval++cvs.toArray:=by simp
        simp only[execOp,ho,resolve,ik,hv,Deferred.ofValue,aw,ay,aj,invoke,e];exact qg _ w
       rw[jv];refine Calls.mono n8 fun e w' ⟨u,av,m',G',h1,h2,h3,h4,h5,h6,h7⟩=>?_
       subst h1;obtain⟨rfl,rfl⟩:=h2;subst mu;exact⟨G',hr.put h6 hd h5 h4,h6,fun k hk hg=>h7 k hg⟩
     .exact qv.elim
    .exact qv.elim
   .exact qv.elim
theorem tI{n nb:Nat}{ops:Array Oper}{G:Gh}{S:AS}{a:Act}{w:World}{j:Nat}{b:Option Bool}(hr:cS n nb G S a w)(h:dN ops S j=some b)(hd:∀o d,ops[j]?=some o->o.dst=some d->d<n):
  yielded ops a.tmps j=b:=by
 unfold dN at h;split at h
 .rename_i d lh;split at h
  .rename_i b' hv;simp only[ad] at h;subst h;have h1:=hr.tmps d;rw[hv] at h1;have h2:a.tmps.getD d undef=.bool b':=cY rfl h1
   obtain⟨o,ho,qh⟩:=dp.1 lh;have hlt:d<a.tmps.size:=by rw[hr.size];exact hd o d ho qh
   have h3:a.tmps[d]?=some (.bool b'):=by
    rw[<-h2];simp[Array.getD,hlt]
   simp[yielded,lh,h3]
  .rename_i hv;simp only[ad] at h;subst h;have h1:=hr.tmps d;rw[hv] at h1;have h2:a.tmps.getD d undef=.tuple #[]:=by
    generalize a.tmps.getD d undef=x at h1;cases h1 with
    | tup hl hh =>
     rename_i vs;have:vs=[]:=bf (by simpa using hl.symm)
     subst this;rfl
   have h3:∀x,a.tmps[d]?=some x->x=.tuple #[]:=by
    intro x hx;rw[<-h2];simp[Array.getD_eq_getD_getElem?,hx]
   simp only[yielded,lh,ew];cases hx:a.tmps[d]? with
   | none=>rfl
   | some x=>rw[h3 x hx]
  .cases h
 .cases h
theorem aCm{n nb base:Nat}{ops:Array Oper}{i:Nat}{o:Oper}{S S':AS}{G:Gh}{a:Act}{w:World}{Q:Exit->Act->World->Prop}{K:Act->World->Prop}(hi:ops[i]?=some o)(h:cH P wr base ops o S S')(hr:cS n nb G S a w)(hd:∀(o:Oper) d,o∈ops->o.dst=some d->d<n)(j5:base+n<=nb)(hp:pM P base o G S.box)(hk:∀a' w' G',cS n nb G' S' a' w'->Le G w G' w'->aGO base o G G' S.box S'.box->K a' w'):wpOp P ops Q i K a w:=by
 unfold wpOp;rw[hi];simp only[];have rz:∀d,o.dst=some d->d<n:=fun d Ds=>hd o d (ef hi) Ds
 unfold cH at h;split at h
 .rename_i hg;have hw:Region.wanted o (yielded ops a.tmps)=true:=by simp[Region.wanted,hg]
  rw[af hw];exact .inl (Oper.wp_mono (fun _ _ ⟨G',h1,h2,h3⟩=>hk _ _ G' h1 h2 h3) (oW h hr rz j5 hp))
 .rename_i j want hg;split at h
  .rename_i b hy;have vh:=tI hr hy (fun o d h1 h2=>hd o d (ef h1) h2)
   split at h
   .rename_i e;subst e;have hw:Region.wanted o (yielded ops a.tmps)=true:=by simp[Region.wanted,hg,vh]
    rw[af hw];exact .inl (Oper.wp_mono (fun _ _ ⟨G',h1,h2,h3⟩=>hk _ _ G' h1 h2 h3) (oW h hr rz j5 hp))
   .rename_i e;have hw:¬Region.wanted o (yielded ops a.tmps)=true:=by simp[Region.wanted,hg,vh,e]
    rw[ac hw];subst h;exact hk _ _ G (hr.put (Le.refl G w) rz RV.undef hr.mem) (Le.refl G w) fun k _ qy=>⟨qy,rfl⟩
  .exact h.elim
end Go.AM
