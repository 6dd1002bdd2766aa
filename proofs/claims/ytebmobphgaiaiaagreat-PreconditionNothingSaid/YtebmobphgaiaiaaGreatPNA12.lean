/-
 Parts of the proof, as merged from many texts: a machine over data, what the functions compute, plain laws.
-/
import Derived.Test.YtebmobphgaiaiaaGreatPNA11
import Derived.Shelf.Small.Strs
import Derived.Shelf.Strconv.Itoa0
import Derived.Shelf.Strconv.Itoa1
import Derived.Shelf.Strconv.Itoa2
import Derived.Shelf.Strconv.Itoa3
import Derived.Shelf.LaysM
import Derived.Ground.Names2Prog
import Derived.Test.YtebmobphgaiaiaaGreatProg
set_option linter.unusedSimpArgs false
set_option linter.unusedVariables false
namespace Go.AM
open Go
open Go.Proofs.Tryz
variable {P:Program}
inductive CellD (tok:Tks):AV->D->Prop
 | d {x}:CellD tok (.d x) x
 | osl {sz es o}:CellD tok (.osl sz es o) (.sl sz es)
 | stk {t sz es} (h:tok t=true):CellD tok (.stk t sz es) (.sl sz es)
def CellDs(tok:Tks):List AV->List D->Prop
 | [],[]=>True
 | x::a,y::b=>CellD tok x y/\CellDs tok a b
 | _,_=>False
theorem CellDs.at{tok:Nat->Bool}:∀{a:List AV} {b:List D},CellDs tok a b->a.length=b.length/\∀i (h1:i<a.length) (h2:i<b.length),CellD tok a[i] b[i]
 | [],[],_=>⟨rfl,fun i h=>by simp at h⟩
 | x::a,y::b,h=>by
  obtain⟨h1,h2⟩:=CellDs.at h.2;refine⟨by simp[h1],fun i g1 g2=>?_⟩;cases i with
  | zero=>exact h.1
  | succ i=>exact h2 i (by simpa using g1) (by simpa using g2)
 | [],_::_,h=>h.elim
 | _::_,[],h=>h.elim
inductive Lent (box:Bxs) (tok:Tks):AV->AV->Prop
 | same {x} (h:OkIn (fun _=>False) (fun _=>True) x):Lent box tok x x
 | stk {t sz es} (h:tok t=true):Lent box tok (.stk t sz es) (.d (.sl sz es))
 | ptr {k row ds} (hk:box k=some [row]) (h:CellDs tok row ds):Lent box tok (.ptr k 0 0) (.cptr ds 0)
 | fn {f} {caps caps':List AV} (hl:caps.length=caps'.length) (h:∀i (h1:i<caps.length) (h2:i<caps'.length),Lent box tok caps[i] caps'[i]):Lent box tok (.fn f caps) (.fn f caps')
def LentL(box:Bxs)(tok:Tks):List AV->List AV->Prop
 | [],[]=>True
 | x::a,y::b=>Lent box tok x y/\LentL box tok a b
 | _,_=>False
theorem Lent.ext{box box':Bxs}{tok:Nat->Bool}(he:Ext box box'){x y:AV}(h:Lent box tok x y):Lent box' tok x y:=by
 induction h with
 | same h=>exact .same h
 | stk h=>exact .stk h
 | ptr hk h=>exact .ptr (he _ _ hk) h
 | fn hl _ ih=>exact .fn hl ih
theorem Lent.fn1{box:Bxs}{tok:Nat->Bool}{f:Fn}{x y:AV}(h:Lent box tok x y):Lent box tok (.fn f [x]) (.fn f [y]):=.fn rfl fun i h1 h2=>by
 have:i=0:=by simp at h1;omega
 subst this;exact h
theorem LentL.ext{box box':Bxs}{tok:Nat->Bool}(he:Ext box box'):∀{a b:List AV},LentL box tok a b->LentL box' tok a b
 | [],[],_=>trivial
 | x::a,y::b,h=>⟨h.1.ext he,LentL.ext he h.2⟩
 | [],_::_,h=>h.elim
 | _::_,[],h=>h.elim
def Gh.lb(G:Gh)(b:Nat):Prop:=(∃k sz,G.bx k=some (b,sz))∨∃t,G.tk t=some (some b)/\G.kind b=.ex
def Gh.lt(G:Gh)(t:Nat):Prop:=∃g,G.tk t=some (some g)/\G.kind g=.ex
open Classical in
noncomputable def Gh.lent(G:Gh):Gh:={ bx:=fun _=>none,kind:=fun b=>if G.lb b then .whole else G.kind b,tk:=fun t=>if G.lt t then none else G.tk t,nt:=G.nt }
open Classical in
noncomputable def Gh.back(G G1:Gh):Gh:={ bx:=G.bx,kind:=fun b=>if G.lb b then G.kind b else G1.kind b,tk:=fun t=>if G.lt t then G.tk t else G1.tk t,nt:=G1.nt }
theorem lent_ps{G:Gh}{a:Addr}(h:G.ps a):G.lent.ps a:=by
 unfold Gh.ps at h ⊢;simp only[Gh.lent];by_cases e:G.lb a.block
 .simp[e]
 .simp only[e,↓reduceIte];exact h
theorem lent_tk{G:Gh}{t:Nat}{x:Option Nat}(h:G.lent.tk t=some x):G.tk t=some x/\¬G.lt t:=by
 simp only[Gh.lent] at h;split at h
 .cases h
 .rename_i hn;exact⟨h,hn⟩
theorem lent_cell{G:Gh}{m:AMem}{w:World}(hm:RelM G m w){x:AV}{y:D}{v:Value}(hc:CellD m.tok x y)(h:RV G w x v):RVd w.cell? G.lent.ps y v:=by
 have hcm:∀(a:Addr) (u:Value),G.ps a->w.cell? a=some u->G.lent.ps a/\w.cell? a=some u:=fun a u h1 h2=>⟨lent_ps h1,h2⟩
 cases hc with
 | d=>cases h with|d h1=>exact h1.mono hcm
 | osl=>cases h with|osl h1 _=>exact h1.mono hcm
 | @stk t sz es ht =>
  cases h with
  | stk hs =>
   obtain⟨_,A,cap,rfl,hcap,hmax,hst⟩:=hs;obtain⟨_,y,hy⟩:=hm.toks t ht;have hst:=hst y hy;cases y with
   | none =>
    have hes:es=[]:=List.eq_nil_of_length_eq_zero (by have:cap=0:=hst;omega)
    subst hes;exact .sl (es:=[]) (fun _ _=>default) (Nat.zero_le _) hmax (by simp) (by simp) (fun a _ i j hi _=>by simp at hi) (fun i j hi _=>by simp at hi)
   | some g =>
    obtain⟨hA,vs,sp,e,h1,h2,h3,h4,h5⟩:=hst;refine RVd.of_flat hcap hmax ⟨h4.len,fun a ha q u hq=>?_,h4.one,fun _=>⟨_,hA⟩,h4.each,fun i j hi hj=>?_⟩
    .rw[hA] at ha;cases ha;rw[add_none];refine⟨?_,?_⟩
     .have hl:G.lb g:=.inr ⟨t,hy,h1⟩
      simp[Gh.ps,Gh.lent,hl]
     .rw[cell_of_row w g _ _ e (0,0) h2,Nat.zero_add];simp only[List.getElem?_toArray];rw[List.getElem?_append_left (List.getElem?_eq_some_iff.1 hq).1];exact hq
    .obtain⟨u,hu,hr⟩:=h4.read i j hi hj;exact⟨u,hu,hr.mono hcm⟩
theorem lb_kind{G:Gh}{m:AMem}{w:World}(hm:RelM G m w){b:Nat}(h:G.lb b):b<w.heap.size/\(G.kind b=.box∨G.kind b=.ex):=by
 rcases h with ⟨k,sz,h⟩|⟨t,h1,h2⟩
 .have:=hm.blt h
  exact⟨this.1,.inl this.2⟩
 .obtain⟨f,cur,e,_,h3⟩:=hm.tokb t b h1;exact⟨heap_lt h3,.inr h2⟩
theorem RV.lent{G:Gh}{m:AMem}{w:World}(hm:RelM G m w){x:AV}{v:Value}(h:RV G w x v)(ho:OkIn (fun _=>False) (fun _=>True) x):RV G.lent w x v:=by
 have hc:∀(a:Addr) (u:Value),G.ps a->w.cell? a=some u->G.lent.ps a/\w.cell? a=some u:=fun a u h1 h2=>⟨lent_ps h1,h2⟩
 have hk:∀g f c,G.kind g=.part f c->G.lent.kind g=G.kind g:=fun g f c hg=>by
  simp only[Gh.lent];rw[if_neg fun e=>by rcases (lb_kind hm e).2 with h|h<;>rw[hg] at h<;>cases h]
 have hown:∀{sz n:Nat} {o:Own} {v:Value},OwnR G sz n o v->OwnR G.lent sz n o v:=by
  intro sz n o v h2;cases o with
  | full=>exact h2
  | tok t =>
   refine⟨h2.1,fun y hy=>?_⟩;have:=h2.2 y (lent_tk hy).1
   cases y with
   | none=>exact this
   | some g =>
    obtain⟨cap,hv,hg⟩:=this;exact⟨cap,hv,(hk g _ _ hg).trans hg⟩
 induction h with
 | bot=>exact .bot
 | d h1=>exact .d (h1.mono hc)
 | osl h1 h2=>exact .osl (h1.mono hc) (hown h2)
 | ptr h1=>cases ho with|ptr h=>exact h.elim
 | here h1 h2=>cases ho with|here h=>exact h.elim
 | buf h1 h2 h3 h4=>exact .buf (h1.mono hc) (hown h2) (fun e=>h3 (lent_tk e).1) (fun g hg=>h4 g (lent_tk hg).1)
 | cptr a u h1 h2=>exact .cptr a u (fun j hj=>hc _ _ (h1 j hj).1 (h1 j hj).2) fun j hj=>(h2 j hj).mono hc
 | msl h1=>cases ho with|msl h=>exact h.elim
 | fn hl _ ih=>cases ho with|fn h=>exact .fn hl fun i h1 h2=>ih i h1 h2 (h _ (List.getElem_mem h1))
 | agg hl _ hone ih=>cases ho with|agg h=>exact .agg hl (fun i h1 h2=>ih i h1 h2 (h _ (List.getElem_mem h1))) hone
 | tup hl _ ih=>cases ho with|tup h=>exact .tup hl fun i h1 h2=>ih i h1 h2 (h _ (List.getElem_mem h1))
 | ex h1 =>
  obtain⟨r1,r0,r2⟩:=h1;refine .ex ⟨r1,r0,fun y hy=>?_⟩;obtain⟨hy1,hn⟩:=lent_tk hy;obtain⟨g,cap,cs,e,rfl,h2,h3,h4,h5,_⟩:=r2 y hy1;exact absurd ⟨g,hy1,h5⟩ hn
 | stk h1 =>
  obtain⟨r1,A,cap,hv,hc1,hmx,r2⟩:=h1;refine .stk ⟨r1,A,cap,hv,hc1,hmx,fun y hy=>?_⟩;obtain⟨hy1,hn⟩:=lent_tk hy;have h0:=r2 y hy1;cases y with
  | none=>exact h0
  | some g =>
   obtain⟨hA,vs,sp,e,h5,_⟩:=h0;exact absurd ⟨g,hy1,h5⟩ hn
 | que h1 h2=>exact .que (h1.mono hc) (h2.imp h2.1 fun x hx=>⟨(lent_tk hx).1,fun g _ f c he=>(hk g f c he).trans he⟩)
 | mp h1 =>
  obtain⟨r1,r0,r,hv,r2⟩:=h1;refine .mp ⟨r1,r0,r,hv,fun y hy=>?_⟩;obtain⟨hy1,hn⟩:=lent_tk hy;obtain⟨rfl,h5,_⟩:=r2 y hy1;exact absurd ⟨r,hy1,h5⟩ hn
 | mpd h1=>exact .mpd (h1.imp hc fun r _ hk1=>⟨by simp only[Gh.lent];split;rfl;exact hk1,rfl⟩)
theorem Lent.rv{G:Gh}{m:AMem}{w:World}(hm:RelM G m w){x y:AV}{v:Value}(hb:Lent m.box m.tok x y)(h:RV G w x v):RV G.lent w y v:=by
 induction hb generalizing v with
 | fn hl _ ih =>
  cases h with
  | fn hl' hh=>exact .fn (hl.symm.trans hl') fun i h1 h2=>ih i (by omega) h1 (hh i (by omega) h2)
 | same ho=>exact h.lent hm ho
 | stk ht=>exact .d (lent_cell hm (.stk ht) h)
 | @ptr k row ds hk hd =>
  generalize hx:AV.ptr k 0 0=x at h;cases h with
  | @ptr k' i off b sz hbx =>
   cases hx;obtain⟨hkind,cs,e,hheap,hrows,hR,hone⟩:=hm.box k [row] b sz hk hbx;have hR:RVs G w row cs.toList:=by simpa using hR
   obtain⟨hl,hat⟩:=hd.at;have hlb:G.lb b:=.inl ⟨k,sz,hbx⟩
   have:=RV.cptr (G:=G.lent) (w:=w) (cs:=ds) (off:=0) ⟨b,0,none⟩ (fun j=>cs.getD j default) (fun j hj=>?_) (fun j hj=>?_)
   .rw[add_none] at this;simpa using this
   .rw[add_none];refine⟨by simp[Gh.ps,Gh.lent,hlb],?_⟩;rw[cell_of_row w b _ _ e (0,0) hheap,Nat.zero_add];have hjl:j<cs.size:=by have:=hR.1;simp at this;omega
    simp[hjl]
   .have hjl:j<cs.size:=by have:=hR.1;simp at this;omega
    have h1:=lent_cell hm (hat j (by omega) hj) (hR.2 j (by omega) (by simpa using hjl));simpa[hjl] using h1
  | _=>cases hx
theorem LentL.rvs{G:Gh}{m:AMem}{w:World}(hm:RelM G m w):∀{xs ys:List AV} {vs:List Value},LentL m.box m.tok xs ys->RVs G w xs vs->RVs G.lent w ys vs
 | [],[],vs,_,h=>⟨by have:=h.1;simpa using this,fun i h=>by simp at h⟩
 | x::a,y::b,vs,hb,h=>by
  obtain⟨v,us,rfl,h1,h2⟩:=h.uncons;exact RVs.cons (hb.1.rv hm h1) (LentL.rvs hm hb.2 h2)
 | [],_::_,_,h,_=>h.elim
 | _::_,[],_,h,_=>h.elim
theorem RCall.lends{f:FuncId}{args args':List AV}{box:Bxs}{tok:Nat->Bool}{nt:Nat}{u:Value}(hu:u.oneCell'=true)(h:∀tok,DCall P f args' tok nt (.d (.raw u)) tok nt)(hb:LentL box tok args args'):RCall P f args box tok nt (.d (.raw u)) tok nt:=by
 classical
 intro box' nb hext;have hb':=hb.ext hext
 refine⟨(h tok (fun _=>none) nb).1,fun G w vals hm hr=>?_⟩;obtain⟨_,hc⟩:=h (fun t=>tok t&&decide (¬G.lt t)) (fun _=>none) nb;have hlbk:=fun {b} (hb:G.lb b)=>lb_kind hm hb
 have hnl:∀t g,G.tk t=some (some g)->¬G.lt t->¬G.lb g:=fun t g ht hn hl=>by
  rcases hl with ⟨k,sz,hk⟩|⟨t2,h1,h2⟩
  .obtain⟨f',cur,e,h1,_⟩:=hm.tokb t g ht;rw[(hm.blt hk).2] at h1;rcases h1 with ⟨h1,_⟩|h1<;>cases h1
  .exact hn ⟨g,ht,h2⟩
 have hm1:RelM G.lent ⟨fun _=>none,nb,fun t=>tok t&&decide (¬G.lt t),nt⟩ w:=by
  constructor
  case box=>intro k rows b sz h1;cases h1
  case nobox=>intro k _;rfl
  case inj=>intro k k' b sz sz' h1;cases h1
  case nb=>intro k _;rfl
  case nt=>exact hm.nt
  case toks =>
   intro t ht;simp only[Bool.and_eq_true,decide_eq_true_eq] at ht;obtain⟨h1,x,h2⟩:=hm.toks t ht.1;exact⟨h1,x,by simp only[Gh.lent];rw[if_neg ht.2];exact h2⟩
  case tokb =>
   intro t g ht;obtain⟨h1,h2⟩:=lent_tk ht;obtain⟨f',cur,e,h3,h4⟩:=hm.tokb t g h1;refine⟨f',cur,e,?_,h4⟩;simp only[Gh.lent];rw[if_neg (hnl t g h1 h2)];exact h3
  case tinj=>exact fun t t' g h1 h2=>hm.tinj t t' g (lent_tk h1).1 (lent_tk h2).1
  case tnt=>exact fun t x h1=>hm.tnt t x (lent_tk h1).1
  case glob=>exact hm.glob.mono fun a u h1 h2=>⟨lent_ps h1,h2⟩
  case fresh =>
   intro b hb1;simp only[Gh.lent];split
   .rfl
   .exact hm.fresh b hb1
 refine Calls.mono (hc G.lent w vals hm1 (hb'.rvs hm hr)) ?_;rintro e w' ⟨v,av,m',G1,rfl,⟨rfl,rfl⟩,h3,h4,h5,h6,h7⟩;have hv:v=u:=by cases h5 with|d h=>cases h;rfl
 subst hv;have hkeep:∀b,G.lb b->G1.kind b=.whole/\w'.heap[b]?=w.heap[b]?:=fun b hb1=>h6.whole b (hlbk hb1).1 (by simp[Gh.lent,hb1])
 have hltb:∀t,G.lt t->∃g,G.tk t=some (some g)/\G.kind g=.ex/\G.lb g:=fun t ⟨g,h1,h2⟩=>⟨g,h1,h2,.inr ⟨t,h1,h2⟩⟩
 have hle:Le G w (G.back G1) w':=by
  refine⟨h6.os,h6.tape,h6.output,h6.size,fun b hb1 hk=>?_,fun b f' c hk=>?_,fun _ _ h=>h,h6.nt,fun t ht=>?_,?_⟩
  .have hn:¬G.lb b:=fun e=>by rcases (hlbk e).2 with h|h<;>rw[hk] at h<;>cases h
   obtain⟨a1,a2⟩:=h6.whole b hb1 (by simp only[Gh.lent];rw[if_neg hn];exact hk);exact⟨by simp only[Gh.back];rw[if_neg hn];exact a1,a2⟩
  .have hn:¬G.lb b:=fun e=>by rcases (hlbk e).2 with h|h<;>rw[hk] at h<;>cases h
   obtain⟨⟨f2,a1,a2⟩,a3⟩:=h6.part b f' c (by simp only[Gh.lent];rw[if_neg hn];exact hk);exact⟨⟨f2,a1,by simp only[Gh.back];rw[if_neg hn];exact a2⟩,a3⟩
  .by_cases hl:G.lt t
   .refine .inr ⟨by simp only[Gh.back];rw[if_pos hl],fun g hg=>?_⟩;obtain⟨g',h1,h2,h3⟩:=hltb t hl;rw[hg] at h1;cases h1;exact⟨by simp only[Gh.back];rw[if_pos h3],fun _=>(hkeep g h3).2⟩
   .have e1:(G.back G1).tk t=G1.tk t:=by simp only[Gh.back];rw[if_neg hl]
    have e2:G.lent.tk t=G.tk t:=by simp only[Gh.lent];rw[if_neg hl]
    rcases h6.tk t ht with a1|⟨a1,a2⟩
    .exact .inl (e1.trans a1)
    .refine .inr ⟨(e1.trans a1).trans e2,fun g hg=>?_⟩;have hn:=hnl t g hg hl;obtain⟨b1,b2⟩:=a2 g (e2.trans hg);simp only[Gh.lent] at b1 b2;rw[if_neg hn] at b1 b2;exact⟨by simp only[Gh.back];rw[if_neg hn];exact b1,b2⟩
  .exact h6.ty
 refine⟨v,_,_,G.back G1,rfl,⟨rfl,rfl⟩,rfl,?_,.d (.raw hu),hle,fun k hk=>⟨hk,rfl⟩⟩;have hG1:∀t g,¬G.lt t->(G.back G1).tk t=some (some g)->G1.tk t=some (some g)/\¬G.lb g:=fun t g hl ht=>by
  have e1:G1.tk t=some (some g):=by simp only[Gh.back] at ht;rw[if_neg hl] at ht;exact ht
  refine⟨e1,fun hpg=>?_⟩;obtain⟨f',cur,e,g1,_⟩:=h4.tokb t g e1;rw[(hkeep g hpg).1] at g1;rcases g1 with ⟨g1,_⟩|g1<;>cases g1
 have hG0:∀t,G.lt t->(G.back G1).tk t=G.tk t:=fun t hl=>by simp only[Gh.back];rw[if_pos hl]
 constructor
 case box =>
  intro k rows b sz hk hb1;obtain⟨g1,cs,e,g2,g3,g4,g5⟩:=hm.box k rows b sz hk hb1;have hpk:G.lb b:=.inl ⟨k,sz,hb1⟩
  exact⟨by simp only[Gh.back];rw[if_pos hpk];exact g1,cs,e,(hkeep b hpk).2.trans g2,g3,g4.mono hle,g5⟩
 case nobox=>exact hm.nobox
 case inj=>exact hm.inj
 case nb=>exact hm.nb
 case nt=>exact h4.nt
 case toks =>
  intro t ht;obtain⟨h1,x,h2⟩:=hm.toks t ht;refine⟨h1,?_⟩;by_cases hl:G.lt t
  .exact⟨x,(hG0 t hl).trans h2⟩
  .obtain⟨_,y,h3⟩:=h4.toks t (by simp only[Bool.and_eq_true,decide_eq_true_eq];exact⟨ht,hl⟩);exact⟨y,by simp only[Gh.back];rw[if_neg hl];exact h3⟩
 case tokb =>
  intro t g ht;by_cases hl:G.lt t
  .rw[hG0 t hl] at ht;obtain⟨g',h1,h2,h3⟩:=hltb t hl;rw[ht] at h1;cases h1;obtain⟨f',cur,e,g1,g2⟩:=hm.tokb t g ht;exact⟨f',cur,e,by simp only[Gh.back];rw[if_pos h3];exact g1,(hkeep g h3).2.trans g2⟩
  .obtain⟨h1,hn⟩:=hG1 t g hl ht;obtain⟨f',cur,e,g1,g2⟩:=h4.tokb t g h1;exact⟨f',cur,e,by simp only[Gh.back];rw[if_neg hn];exact g1,g2⟩
 case tinj =>
  intro t t' g ht ht';by_cases hl:G.lt t<;>by_cases hl':G.lt t'
  .rw[hG0 t hl] at ht;rw[hG0 t' hl'] at ht';exact hm.tinj t t' g ht ht'
  .rw[hG0 t hl] at ht;obtain⟨g',h1,_,h3⟩:=hltb t hl;rw[ht] at h1;cases h1;exact absurd h3 (hG1 t' g hl' ht').2
  .rw[hG0 t' hl'] at ht';obtain⟨g',h1,_,h3⟩:=hltb t' hl';rw[ht'] at h1;cases h1;exact absurd h3 (hG1 t g hl ht).2
  .exact h4.tinj t t' g (hG1 t g hl ht).1 (hG1 t' g hl' ht').1
 case tnt =>
  intro t x ht;by_cases hl:G.lt t
  .rw[hG0 t hl] at ht;have:=hm.tnt t x ht
   have e1:=hm.nt;have e2:=h4.nt;simp only[Gh.back];simp only at e1 e2;omega
  .simp only[Gh.back] at ht;rw[if_neg hl] at ht;exact h4.tnt t x ht
 case glob=>exact hm.glob.mono hle.cells
 case fresh =>
  intro b hb1;have:=h6.size
  have hn:¬G.lb b:=fun hpb1=>by have:=(hlbk hpb1).1;omega
  simp only[Gh.back];rw[if_neg hn];exact h4.fresh b hb1
variable {P:Program}
theorem Le.reKind{G:Gh}{w:World}{g:Nat}(k:BK)(hk:G.kind g=.ex)(ht:∀t,G.tk t≠some (some g)):Le G w (G.setKind g k) w where
 os:=rfl
 tape:=rfl
 output:=rfl
 size:=nr _
 whole b _ h:=⟨by simp only[Gh.setKind];rw[uO _ _ (fun e=>by subst e;rw[hk] at h;cases h)];exact h,rfl⟩
 part b f c h:=⟨⟨f,nr _,by simp only[Gh.setKind];rw[uO _ _ (fun e=>by subst e;rw[hk] at h;cases h)];exact h⟩,fun _ _ _=>rfl⟩
 bx _ _ h:=h
 nt:=nr _
 tk t _:=.inr ⟨rfl,fun j hj=>⟨by simp only[Gh.setKind];exact uO _ _ (fun e=>by subst e;exact ht t hj),fun _=>rfl⟩⟩
 ty _ cs T f h:=⟨cs,f,h⟩
theorem RelM.reKind{G:Gh}{m:AMem}{w:World}(h:RelM G m w){g:Nat}(k:BK)(hk:G.kind g=.ex)(ht:∀t,G.tk t≠some (some g))(hg:g<w.heap.size):RelM (G.setKind g k) m w:=by
 have hle:=Le.reKind (w:=w) k hk ht;constructor
 case box =>
  intro q rows b sz hq hb;obtain⟨h1,cs,e,h2,h3,h4,h5⟩:=h.box q rows b sz hq hb;refine⟨?_,cs,e,h2,h3,h4.mono hle,h5⟩;simp only[Gh.setKind];rw[uO _ _ (fun e=>by subst e;rw[hk] at h1;cases h1)];exact h1
 case nobox=>exact h.nobox
 case inj=>exact h.inj
 case nb=>exact h.nb
 case nt=>exact h.nt
 case toks=>exact h.toks
 case tokb =>
  intro t j hj;obtain⟨f0,cur0,e0,h1,h2⟩:=h.tokb t j hj;refine⟨f0,cur0,e0,?_,h2⟩;simp only[Gh.setKind];rw[uO _ _ (fun e=>by subst e;exact ht t hj)];exact h1
 case tinj=>exact h.tinj
 case tnt=>exact h.tnt
 case glob=>exact h.glob.mono hle.cells
 case fresh =>
  intro b hb;simp only[Gh.setKind];rw[uO _ _ (by omega)];exact h.fresh b hb
theorem kill_not{G:Gh}{m:AMem}{w:World}(hm:RelM G m w){t g:Nat}(hx:G.tk t=some (some g)):∀q,(G.kill (.tok t)).tk q≠some (some g):=by
 intro q hq;simp only[Gh.kill] at hq;by_cases e:q=t
 .subst e;simp[uS] at hq
 .rw[uO _ _ e] at hq;exact e (hm.tinj q t g hq hx)
inductive SdTo (t:Nat):AV->AV->Prop
 | bot {x}:SdTo t x .bot
 | same {x}:SdTo t x x
 | stk {sz es}:SdTo t (.stk t sz es) (.d (.sl sz es))
theorem Trans.stkD{cx:Cx}{nt0 nt:Nat}{l l':List (Nat × AV)}{out:Bxs}{loc loc':List (Nat × List (List AV))}{tok:Nat->Bool}(t:Nat)(ht:tok t=true)(hl:CvL (SdTo t) l l')(hb:CvB (SdTo t) loc loc'):
  Trans cx nt0 ⟨tl l,lb cx.base out loc,tok,nt⟩ ⟨tl l',lb cx.base out loc',upd tok t false,nt⟩:=by
 intro G0 w0 G a w he hn0 hS hL;have hm:=hS.mem;obtain⟨hlt,x,hx⟩:=hm.toks t ht;have hmk:=hm.kill (.tok t);have hlk:=Le.kill (G:=G) (w:=w) (.tok t);have hstk:∀{sz:Nat} {es:List (List D)} {v:Value},RV G w (.stk t sz es) v->StkR G w t sz es v:=fun h=>by cases h with|stk h=>exact h
 have fin:∀G',Le G w G' w->G'.bx=G.bx->RelM G' ⟨lb cx.base out loc,cx.nb,upd tok t false,nt⟩ w->(∀sz es v,StkR G w t sz es v->RVd w.cell? G'.ps (.sl sz es) v) ->
   ∃G',RelS cx.n cx.nb G' ⟨tl l',lb cx.base out loc',upd tok t false,nt⟩ a w/\LeC cx G0 w0 G' w ⟨tl l',lb cx.base out loc',upd tok t false,nt⟩:=by
  intro G' hle hbx hm' hd;have hto:∀x y v,SdTo t x y->RV G w x v->RV G' w y v:=fun x y v h hr=>by
   cases h with
   | bot=>exact .bot
   | same=>exact hr.mono hle
   | stk=>exact .d (hd _ _ v (hstk hr))
  refine⟨G',⟨hS.defers,hS.size,fun i=>hto _ _ _ (hl.at .bot i) (hS.tmps i),?_⟩,?_⟩
  .constructor
   case box =>
    intro k rows b z hk hbk;simp only at hk;by_cases hkb:k<cx.base
    .rw[lO hkb] at hk;exact hm'.box k rows b z (by simp only;rw[lO hkb];exact hk) hbk
    .have hkk:k=cx.base+(k-cx.base):=by omega
     rw[hkk,lb_at] at hk;rcases hb.at (k-cx.base) with ⟨_,h2⟩|⟨r0,r',h1,h2,h3⟩
     .rw[h2] at hk;cases hk
     .rw[h2] at hk;cases hk;obtain⟨_,cs,e,g2,g3,g4,g5⟩:=hm.box k r0 b z (by simp only;rw[hkk,lb_at];exact h1) (by rw[<-hbx];exact hbk);obtain⟨g1,_⟩:=hm'.box k r0 b z (by simp only;rw[hkk,lb_at];exact h1) hbk;refine⟨g1,cs,e,g2,fun q hq=>?_,⟨h3.flat.1.symm.trans g4.1,fun i h1 h2=>hto _ _ _ (h3.flat.2 i (by rw[h3.flat.1];exact h1) h1) (g4.2 i _ h2)⟩,g5⟩;obtain⟨i,hi,rfl⟩:=List.getElem_of_mem hq;have hi0:i<r0.length:=by rw[h3.1];exact hi
      rw[<-(h3.2 i hi0 hi).1];exact g3 _ (List.getElem_mem _)
   case nobox =>
    intro k hk;refine hm'.nobox k ?_;simp only at hk ⊢;by_cases hkb:k<cx.base
    .rw[lO hkb] at hk ⊢;exact hk
    .have hkk:k=cx.base+(k-cx.base):=by omega
     rw[hkk,lb_at] at hk ⊢;rcases hb.at (k-cx.base) with ⟨h1,_⟩|⟨r0,r',_,h2,_⟩
     .exact h1
     .rw[h2] at hk;cases hk
   case inj=>exact hm'.inj
   case nb =>
    intro k hk;have h0:=hm'.nb k hk;simp only at h0 ⊢;by_cases hkb:k<cx.base
    .rw[lO hkb] at h0 ⊢;exact h0
    .have hkk:k=cx.base+(k-cx.base):=by omega
     rw[hkk,lb_at] at h0 ⊢;rcases hb.at (k-cx.base) with ⟨_,h2⟩|⟨r0,r',h1,_,_⟩
     .exact h2
     .rw[h1] at h0;cases h0
   case nt=>exact hm'.nt
   case toks=>exact hm'.toks
   case tokb=>exact hm'.tokb
   case tinj=>exact hm'.tinj
   case tnt=>exact hm'.tnt
   case glob=>exact hm'.glob
   case fresh=>exact hm'.fresh
  .refine hL.step ⟨hle,fun k hkb hg=>⟨by rw[hbx];exact hg,?_⟩⟩;simp only;rw[lO hkb,lO hkb]
 cases x with
 | none =>
  refine fin (G.kill (.tok t)) hlk rfl hmk fun sz es v hv=>?_
  obtain⟨_,A,cap,rfl,hcap,hmax,hst⟩:=hv;have hc0:cap=0:=hst _ hx
  have hes:es=[]:=List.eq_nil_of_length_eq_zero (by omega)
  subst hes;exact .sl (es:=[]) (fun _ _=>default) (Nat.zero_le _) hmax (by simp) (by simp) (fun a _ i j hi _=>by simp at hi) (fun i j hi _=>by simp at hi)
 | some g =>
  obtain⟨f,cur,e,hkg,hg⟩:=hm.tokb t g hx;by_cases hex:G.kind g=.ex
  .have hnot:=kill_not hm hx;have hlr:=Le.reKind (G:=G.kill (.tok t)) (w:=w) .whole hex hnot;refine fin ((G.kill (.tok t)).setKind g .whole) (hlk.trans hlr) rfl (hmk.reKind .whole hex hnot (heap_lt hg)) fun sz es v hv=>?_
   obtain⟨_,A,cap,rfl,hcap,hmax,hst⟩:=hv;obtain⟨hA,vs,sp,e,h1,h2,h3,h4,h5⟩:=hst _ hx;refine RVd.of_flat hcap hmax ⟨h4.len,fun a ha q u hq=>?_,h4.one,fun _=>⟨_,hA⟩,h4.each,fun i j hi hj=>?_⟩
   .rw[hA] at ha;cases ha;rw[add_none];refine⟨by simp[Gh.ps,Gh.setKind,uS],?_⟩;rw[cell_of_row w g _ _ e (0,0) h2,Nat.zero_add];simp only[List.getElem?_toArray];rw[List.getElem?_append_left (List.getElem?_eq_some_iff.1 hq).1];exact hq
   .obtain⟨u,hu,hr⟩:=h4.read i j hi hj;exact⟨u,hu,hr.mono (hlk.trans hlr).cells⟩
  .refine fin (G.kill (.tok t)) hlk rfl hmk fun sz es v hv=>?_
   obtain⟨_,A,cap,rfl,hcap,hmax,hst⟩:=hv;obtain⟨_,vs,sp,e,h1,_⟩:=hst _ hx;exact absurd h1 hex
def AV.sdT(t:Nat):AV->AV
 | .stk t' sz es=>if t'=t then .d (.sl sz es) else .stk t' sz es
 | x=>x
theorem sdT_to(t:Nat)(x:AV):SdTo t x (x.sdT t):=by
 cases x with
 | stk t' sz es =>
  simp only[AV.sdT];split
  .rename_i h;subst h;exact .stk
  .exact .same
 | _=>exact .same
theorem cvL_map{R:AV->AV->Prop}{f:AV->AV}(h:∀x,R x (f x)):∀l:List (Nat × AV),CvL R l (l.map fun q=>(q.1,f q.2))
 | []=>trivial
 | (i,x)::l=>⟨rfl,h x,cvL_map h l⟩
theorem cvB_map{R:AV->AV->Prop}{f:AV->AV}(h:∀x,R x (f x)):∀l:List (Nat × List (List AV)),CvB R l (l.map fun q=>(q.1,q.2.map fun r=>r.map f))
 | []=>trivial
 | (i,x)::l=>⟨rfl,⟨by simp,fun i h1 h2=>⟨by simp,fun j g1 g2=>by simp only[List.getElem_map];exact h _⟩⟩,cvB_map h l⟩
theorem AL.stkD{cx:Cx}{nt0 nt:Nat}{K:Exit->AS->Prop}{q:List CI}{x:Code}{l:List (Nat × AV)}{out:Bxs}{loc:List (Nat × List (List AV))}{tok:Nat->Bool}(t:Nat)(ht:tok t=true)(h:AL P cx nt0 K (.c x::q) ⟨tl (l.map fun q=>(q.1,q.2.sdT t)),lb cx.base out (loc.map fun q=>(q.1,q.2.map fun r=>r.map (AV.sdT t))),upd tok t false,nt⟩):AL P cx nt0 K (.c x::q) ⟨tl l,lb cx.base out loc,tok,nt⟩ :=
 AL.trans (Trans.stkD t ht (cvL_map (sdT_to t) l) (cvB_map (sdT_to t) loc)) h
variable {P:Program}
theorem FlatV.rvs{G:Gh}{w:World}{sz:Nat}:∀{es:List (List D)} {vs:List Value},FlatV w.cell? G.ps sz es vs->RVs G w (es.flatten.map AV.d) vs
 | [],vs,h=>by
  have hv:vs=[]:=List.eq_nil_of_length_eq_zero (by simpa using h.len)
  subst hv;exact⟨rfl,fun i h=>by simp at h⟩
 | e::es,vs,h=>by
  have he:e.length=sz:=h.each e (by simp)
  have hl:=h.len;rw[List.length_cons,Nat.add_mul] at hl;have h1:FlatV w.cell? G.ps sz es (vs.drop sz):=by
   refine⟨by rw[List.length_drop];omega,fun u hu=>h.one u (List.mem_of_mem_drop hu),fun q hq=>h.each q (by simp[hq]),fun i j hi hj=>?_⟩;obtain⟨u,hu,hr⟩:=h.read (i+1) j (by simpa using hi) (by simpa using hj);refine⟨u,?_,by simpa using hr⟩;rw[List.getElem?_drop,<-hu];congr 1
   rw[Nat.add_mul];omega
  have ih:=FlatV.rvs h1;have h2:RVs G w (e.map AV.d) (vs.take sz):=by
   refine⟨by rw[List.length_map,List.length_take];omega,fun j g1 g2=>?_⟩;have hj:j<e.length:=by simpa using g1
   obtain⟨u,hu,hr⟩:=h.read 0 j (by simp) (by simpa using hj);simp only[List.getElem_map,List.getElem_take];obtain⟨hlt,rfl⟩:=List.getElem?_eq_some_iff.1 hu;simp only[Nat.zero_mul,Nat.zero_add] at hr ⊢;exact .d (by simpa using hr)
  have:=h2.append ih
  rw[List.take_append_drop] at this;simpa using this
inductive TsTo (t k sz:Nat) (es:List (List D)):AV->AV->Prop
 | bot {x}:TsTo t k sz es x .bot
 | same {x}:TsTo t k sz es x x
 | stk:TsTo t k sz es (.stk t sz es) (.msl k 0 es.length sz)
theorem AT.thawS{cx:Cx}{nt0 nt:Nat}{c:Code}{K:Exit->AS->Prop}{l l':List (Nat × AV)}{out:Bxs}{loc loc':List (Nat × List (List AV))}{tok:Nat->Bool}(t s sz:Nat)(es:List (List D))(r:Nat)(hn:cx.nb=cx.base+cx.n)(hs:s<cx.n)(hk:lk loc s=none)(ht:tok t=true)(hne:es≠[])(hr:tl l r=.stk t sz es)(hl:CvL (TsTo t (cx.base+s) sz es) l l')(hb:CvB (TsTo t (cx.base+s) sz es) loc loc')(h:∀m,AT P cx nt0 c ⟨tl l',lb cx.base out ((s,rowsD es++List.replicate m (List.replicate sz .bot))::loc'),upd tok t false,nt⟩ K):AT P cx nt0 c ⟨tl l,lb cx.base out loc,tok,nt⟩ K:=by
 intro G0 w0 hen hnt G a w hS hL;have hm:=hS.mem;obtain⟨hlt,x,hx⟩:=hm.toks t ht;have hstk:∀{v:Value},RV G w (.stk t sz es) v->StkR G w t sz es v:=fun h=>by cases h with|stk h=>exact h
 have hwit:=hS.tmps r;simp only at hwit;rw[hr] at hwit;obtain⟨_,A,cap,hv,hcap,hmax,hst⟩:=hstk hwit;have hst:=hst x hx;cases x with
 | none =>
  have hc0:cap=0:=hst
  exact absurd (List.eq_nil_of_length_eq_zero (by omega)) hne
 | some g =>
  obtain⟨hA,vs,sp,e,hkg,hheap,hlen,hf,hsp⟩:=hst;have hboxk:lb cx.base out loc (cx.base+s)=none:=by rw[lb_at];exact hk
  have hbxk:G.bx (cx.base+s)=none:=hm.nobox _ hboxk
  have hnb:∀{k b z},G.bx k=some (b,z)->b≠g:=fun h e=>by
   have:=(hm.blt h).2
   rw[e,hkg] at this;cases this
  have hmk:=hm.kill (.tok t);have hnot:=kill_not hm hx;have hm1:=hmk.reKind .box hkg hnot (heap_lt hheap)
  let G1:Gh:=(G.kill (.tok t)).setKind g .box
  let G':Gh:={ G1 with bx:=upd G.bx (cx.base+s) (some (g,sz)) }
  have hle1:Le G w G1 w:=(Le.kill (.tok t)).trans (Le.reKind .box hkg hnot)
  have hle2:Le G1 w G' w:=⟨rfl,rfl,rfl,nr _,fun _ _ h=>⟨h,rfl⟩,fun _ f _ h=>⟨⟨f,nr _,h⟩,fun _ _ _=>rfl⟩,fun k x hk=>by
   simp only[G'];rw[uO _ _ (fun e=>by
    have hk:G.bx k=some x:=hk
    rw[e,hbxk] at hk;cases hk)]
   exact hk,nr _,fun t _=>.inr ⟨rfl,fun _ _=>⟨rfl,fun _=>rfl⟩⟩,fun _ cs T f h=>⟨cs,f,h⟩⟩
  have hle:=hle1.trans hle2;have hto:∀x y v,TsTo t (cx.base+s) sz es x y->RV G w x v->RV G' w y v:=fun x y v h hr=>by
   cases h with
   | bot=>exact .bot
   | same=>exact hr.mono hle
   | stk =>
    obtain⟨_,A',cap',rfl,hc1,hc2,h2⟩:=hstk hr;obtain⟨hA',_⟩:=h2 _ hx;subst hA';have:=RV.msl (G:=G') (w:=w) (k:=cx.base+s) (off:=0) (n:=es.length) (b:=g) (sz:=sz) (cap:=cap') (by simp[G',uS]) hc1 hc2
    simpa using this
  have hf':=hf.mono hle.cells
  have hvl:=hf.len;obtain⟨m,hmm⟩:∃m,cap=es.length+m:=⟨cap-es.length,by omega⟩
  have hspl:sp.length=m*sz:=by
   rw[List.length_append,hvl,hmm,Nat.add_mul] at hlen;omega
  refine h m G0 w0 hen hnt G' a w ⟨hS.defers,hS.size,fun i=>hto _ _ _ (hl.at .bot i) (hS.tmps i),?_⟩ ?_
  .constructor
   case box =>
    intro k rows b z hk' hb';by_cases e1:k=cx.base+s
    .subst e1;simp only[lb_at,lk_cons,↓reduceIte,Option.some.injEq] at hk';simp only[G',uS,Option.some.injEq,Prod.mk.injEq] at hb';obtain⟨rfl,rfl⟩:=hb';subst hk';refine⟨by simp[G',G1,Gh.setKind,uS],_,e,hheap,fun q hq=>?_,?_,fun v hv=>?_⟩
     .rcases List.mem_append.1 hq with hq|hq
      .obtain⟨p,hp,rfl⟩:=List.mem_map.1 hq;simpa using hf.each p hp
      .rw[List.eq_of_mem_replicate hq];simp
     .rw[List.flatten_append,rowsD_flat];have h2:RVs G' w (List.replicate m (List.replicate sz AV.bot)).flatten sp:=by
       refine⟨by rw[hspl];simp[List.length_flatten],fun i g1 g2=>?_⟩;have hmem:(List.replicate m (List.replicate sz AV.bot)).flatten[i]∈(List.replicate m (List.replicate sz AV.bot)).flatten:=List.getElem_mem _
       obtain⟨q,hq,hiq⟩:=List.mem_flatten.1 hmem;rw[List.eq_of_mem_replicate hq] at hiq;rw[List.eq_of_mem_replicate hiq];exact .bot
      simpa using hf'.rvs.append h2
     .have hv:v∈vs++sp:=by simpa using hv
      rcases List.mem_append.1 hv with hv|hv
      .exact hf.one v hv
      .exact hsp v hv
    .simp only[G'] at hb';rw[uO _ _ e1] at hb';have hold:∃rows0,lb cx.base out loc k=some rows0/\(rows0=rows∨CvRs (TsTo t (cx.base+s) sz es) rows0 rows):=by
      by_cases hkb:k<cx.base
      .refine⟨rows,?_,.inl rfl⟩;simp only at hk';rw[lO hkb] at hk' ⊢;exact hk'
      .have hkk:k=cx.base+(k-cx.base):=by omega
       simp only at hk';rw[hkk,lb_at] at hk' ⊢;rw[lk_cons,if_neg (by omega)] at hk';rcases hb.at (k-cx.base) with ⟨_,h2⟩|⟨r0,r',h1,h2,h3⟩
       .rw[h2] at hk';cases hk'
       .rw[h2] at hk';cases hk'
        exact⟨r0,h1,.inr h3⟩
     obtain⟨rows0,h1,h2⟩:=hold;obtain⟨g1,cs',e',g2,g3,g4,g5⟩:=hm.box k rows0 b z h1 hb';refine⟨by simp only[G',G1,Gh.setKind];rw[uO _ _ (hnb hb')];exact g1,cs',e',g2,?_,?_,g5⟩
     .rcases h2 with rfl|h2
      .exact g3
      .intro q hq;obtain⟨i,hi,rfl⟩:=List.getElem_of_mem hq;have hi0:i<rows0.length:=by rw[h2.1];exact hi
       rw[<-(h2.2 i hi0 hi).1];exact g3 _ (List.getElem_mem _)
     .rcases h2 with rfl|h2
      .exact g4.mono hle
      .exact⟨h2.flat.1.symm.trans g4.1,fun i k1 k2=>hto _ _ _ (h2.flat.2 i (by rw[h2.flat.1];exact k1) k1) (g4.2 i _ k2)⟩
   case nobox =>
    intro k hk';have hne:k≠cx.base+s:=fun e=>by subst e;simp[lb_at,lk_cons] at hk'
    simp only[G'];rw[uO _ _ hne];refine hm.nobox k ?_;simp only at hk' ⊢;by_cases hkb:k<cx.base
    .rw[lO hkb] at hk' ⊢;exact hk'
    .have hkk:k=cx.base+(k-cx.base):=by omega
     rw[hkk,lb_at] at hk' ⊢;rw[lk_cons,if_neg (by omega)] at hk';rcases hb.at (k-cx.base) with ⟨h1,_⟩|⟨r0,r',_,h2,_⟩
     .exact h1
     .rw[h2] at hk';cases hk'
   case inj =>
    intro j j' b z z' hj hj';simp only[G'] at hj hj';by_cases e1:j=cx.base+s<;>by_cases e2:j'=cx.base+s
    .exact e1.trans e2.symm
    .subst e1;rw[uS] at hj;rw[uO _ _ e2] at hj';cases hj;exact absurd rfl (hnb hj')
    .subst e2;rw[uS] at hj';rw[uO _ _ e1] at hj;cases hj'
     exact absurd rfl (hnb hj)
    .rw[uO _ _ e1] at hj;rw[uO _ _ e2] at hj';exact hm.inj j j' b z z' hj hj'
   case nb =>
    intro k hk';have h0:=hm.nb k hk';simp only at h0 ⊢;have hkb:¬k<cx.base:=by simp only at hk';omega
    have hkk:k=cx.base+(k-cx.base):=by omega
    rw[hkk,lb_at] at h0 ⊢;rw[lk_cons,if_neg (by simp only at hk';omega)];rcases hb.at (k-cx.base) with ⟨_,h2⟩|⟨r0,r',h1,_,_⟩
    .exact h2
    .rw[h1] at h0;cases h0
   case nt=>exact hm1.nt
   case toks=>exact hm1.toks
   case tokb=>exact hm1.tokb
   case tinj=>exact hm1.tinj
   case tnt=>exact hm1.tnt
   case glob=>exact hm.glob.mono hle.cells
   case fresh=>exact hm1.fresh
  .refine hL.step ⟨hle,fun k hkb hg=>⟨?_,?_⟩⟩
   .simp only[G'];rw[uO _ _ (by omega)];exact hg
   .simp only;rw[lO hkb,lO hkb]
theorem AL.thawS{cx:Cx}{nt0 nt:Nat}{K:Exit->AS->Prop}{q:List CI}{x:Code}{l l':List (Nat × AV)}{out:Bxs}{loc loc':List (Nat × List (List AV))}{tok:Nat->Bool}(t s sz:Nat)(es:List (List D))(r:Nat)(hn:cx.nb=cx.base+cx.n)(hs:s<cx.n)(hk:lk loc s=none)(ht:tok t=true)(hne:es≠[])(hr:tl l r=.stk t sz es)(hl:CvL (TsTo t (cx.base+s) sz es) l l')(hb:CvB (TsTo t (cx.base+s) sz es) loc loc')(h:∀m,AL P cx nt0 K (.c x::q) ⟨tl l',lb cx.base out ((s,rowsD es++List.replicate m (List.replicate sz .bot))::loc'),upd tok t false,nt⟩):AL P cx nt0 K (.c x::q) ⟨tl l,lb cx.base out loc,tok,nt⟩:=by
 simp only[AL] at h ⊢;exact AT.thawS t s sz es r hn hs hk ht hne hr hl hb h
section
variable {t k sz:Nat} {es:List (List D)}
@[simp] theorem tsTo_bot(x:AV):TsTo t k sz es x .bot:=.bot
@[simp] theorem tsTo_same(x:AV):TsTo t k sz es x x:=.same
@[simp] theorem tsTo_stk{n:Nat}:TsTo t k sz es (.stk t sz es) (.msl k 0 n sz)↔n=es.length:=⟨fun h=>by cases h;rfl,fun h=>by subst h;exact .stk⟩
end
variable {P:Program}
theorem FlatV.of_rvs{G:Gh}{w:World}{sz:Nat}:∀{es:List (List D)} {vs:List Value},(∀e∈es,e.length=sz)->RVs G w (es.flatten.map AV.d) vs->(∀v∈vs,v.oneCell'=true)->FlatV w.cell? G.ps sz es vs
 | [],vs,_,h,_=>by
  have hv:vs=[]:=List.eq_nil_of_length_eq_zero (by have:=h.1;simpa using this.symm)
  subst hv;exact FlatV.none_ _ _ _
 | e::es,vs,hs,h,h1=>by
  have he:=hs e (by simp);rw[List.flatten_cons,List.map_append] at h;have hl:=h.1;rw[List.length_append,List.length_map,List.length_map] at hl;have ha:=h.take e.length;have hb:=h.drop e.length;rw[List.take_append_of_le_length (by simp),List.take_of_length_le (by simp)] at ha;rw[List.drop_append,List.drop_of_length_le (by simp),List.nil_append,List.length_map,Nat.sub_self,List.drop_zero] at hb;have f1:FlatV w.cell? G.ps sz [e] (vs.take e.length):=by
   refine⟨by rw[List.length_take];simp;omega,fun u hu=>h1 u (List.mem_of_mem_take hu),fun q hq=>by simp at hq;rw[hq];exact he,fun i j hi hj=>?_⟩;have hi0:i=0:=by simp at hi;omega
   subst hi0;simp only[List.getElem_cons_zero] at hj ⊢;have hj2:j<(vs.take e.length).length:=by rw[List.length_take];omega
   have h3:=ha.2 j (by simpa using hj) hj2;simp only[List.getElem_map] at h3;refine⟨(vs.take e.length)[j],by rw[Nat.zero_mul,Nat.zero_add];exact List.getElem?_eq_getElem hj2,?_⟩;cases h3 with
   | d h4=>exact h4
  have f2:=FlatV.of_rvs (fun q hq=>hs q (by simp[hq])) hb (fun v hv=>h1 v (List.mem_of_mem_drop hv));have:=f1.append f2
  rw[List.take_append_drop] at this;exact this
inductive SpTo (k sz:Nat) (es:List (List D)):AV->AV->Prop
 | bot {x}:SpTo k sz es x .bot
 | same {x} (h:OkIn (· ≠ k) (fun _=>True) x):SpTo k sz es x x
 | msl:SpTo k sz es (.msl k 0 es.length sz) (.d (.sl sz es))
theorem Trans.sealD{cx:Cx}{nt0 nt:Nat}{l l':List (Nat × AV)}{out:Bxs}{loc loc':List (Nat × List (List AV))}{tok:Nat->Bool}(s sz:Nat)(es:List (List D))(rest:List (List AV))(r:Nat)(ho:out=cx.B0)(hsz:∀e∈es,e.length=sz)(hr:tl l r=.msl (cx.base+s) 0 es.length sz)(hk':lk loc' s=none)(hl:CvL (SpTo (cx.base+s) sz es) l l')(hb:CvB (SpTo (cx.base+s) sz es) loc loc'):
  Trans cx nt0 ⟨tl l,lb cx.base out ((s,rowsD es++rest)::loc),tok,nt⟩ ⟨tl l',lb cx.base out loc',tok,nt⟩:=by
 intro G0 w0 G a w he hn0 hS hL;have hm:=hS.mem;have hgnt:G.nt=nt:=hm.nt
 have hwit:=hS.tmps r;simp only at hwit;rw[hr] at hwit;obtain⟨b,hbk⟩:∃b,G.bx (cx.base+s)=some (b,sz):=by
  generalize hq:(AV.msl (cx.base+s) 0 es.length sz)=q at hwit;generalize a.tmps.getD r undef=v0 at hwit;cases hwit with
  | msl h1 h2 h3=>cases hq;exact⟨_,h1⟩
  | _=>cases hq
 have hboxk:lb cx.base out ((s,rowsD es++rest)::loc) (cx.base+s)=some (rowsD es++rest):=by rw[lb_at,lk_cons,if_pos rfl]
 obtain⟨hkind,cs,e,hheap,hrows,hR,hone⟩:=hm.box _ _ b sz hboxk hbk
 let G1:Gh:={ bx:=G.bx,kind:=upd G.kind b .whole,tk:=G.tk,nt:=G.nt }
 let G':Gh:={ bx:=upd G.bx (cx.base+s) none,kind:=upd G.kind b .whole,tk:=G.tk,nt:=G.nt }
 have hne:∀{q j},G.tk q=some (some j)->j≠b:=fun h e=>by
  obtain⟨f,cur,e',h1,_⟩:=hm.tokb _ _ h;rw[e,hkind] at h1;rcases h1 with ⟨h1,_⟩|h1<;>cases h1
 have hle:Le G w G1 w:=by
  refine⟨rfl,rfl,rfl,nr _,fun b' _ hb'=>⟨?_,rfl⟩,fun b' f c hb'=>⟨⟨f,nr _,?_⟩,fun _ _ _=>rfl⟩,fun k x hk=>hk,nr _,fun q hq=>?_,fun _ _ _ _ h=>⟨_,_,h⟩⟩
  .simp only[G1];rw[uO _ _ (fun e=>by rw[e,hkind] at hb';cases hb')];exact hb'
  .simp only[G1];rw[uO _ _ (fun e=>by rw[e,hkind] at hb';cases hb')];exact hb'
  .refine .inr ⟨rfl,fun j hj=>⟨?_,fun _=>rfl⟩⟩;simp only[G1];exact uO _ _ (hne hj)
 have hcells:∀(q:Addr) (u:Value),G.ps q->w.cell? q=some u->G'.ps q/\w.cell? q=some u:=fun q u h1 h2=>hle.cells q u h1 h2
 -- what does not speak of the box
 have hok:∀{x:AV} {v:Value},OkIn (· ≠ cx.base+s) (fun _=>True) x->RV G w x v->RV G' w x v:=by
  intro x v hx h;have h1:=h.mono hle;clear h;induction h1 with
  | bot=>exact .bot
  | d h2=>exact .d h2
  | osl h2 h3=>exact .osl h2 h3
  | ptr h2=>cases hx with|ptr hp=>exact .ptr (by simp only[G'];rw[uO _ _ hp];exact h2)
  | buf h2 h3 h4 h5=>exact .buf h2 h3 h4 h5
  | here h2 h3=>cases hx with|here hp=>exact .here (by simp only[G'];rw[uO _ _ hp];exact h2) h3
  | cptr q u hc hr=>exact .cptr q u hc hr
  | msl h2 h3 h4=>cases hx with|msl hp=>exact .msl (by simp only[G'];rw[uO _ _ hp];exact h2) h3 h4
  | fn hl _ ih=>cases hx with|fn hp=>exact .fn hl fun i h1 h2=>ih i h1 h2 (hp _ (List.getElem_mem h1))
  | agg hl _ hone ih=>cases hx with|agg hp=>exact .agg hl (fun i h1 h2=>ih i h1 h2 (hp _ (List.getElem_mem h1))) hone
  | tup hl _ ih=>cases hx with|tup hp=>exact .tup hl fun i h1 h2=>ih i h1 h2 (hp _ (List.getElem_mem h1))
  | ex h2=>exact .ex h2
  | stk h2=>exact .stk h2
  | que h2 h3=>exact .que h2 h3
  | mp h2=>exact .mp h2
  | mpd h2=>exact .mpd h2
 have hto:∀x y v,SpTo (cx.base+s) sz es x y->RV G w x v->RV G' w y v:=by
  intro x y v hxy h;cases hxy with
  | bot=>exact .bot
  | same h1=>exact hok h1 h
  | msl =>
   generalize hq:(AV.msl (cx.base+s) 0 es.length sz)=q at h;cases h with
   | msl h1 h2 h3 =>
    cases hq;rw[hbk] at h1;cases h1;rw[List.flatten_append,rowsD_flat] at hR;have hR1:=hR.take (es.flatten.map AV.d).length;rw[List.take_append_of_le_length (nr _),List.take_length] at hR1;have hfv:=FlatV.of_rvs hsz hR1 (fun v hv=>hone v (List.mem_of_mem_take hv));refine .d (RVd.of_flat h2 h3 ⟨hfv.len,fun a ha q u hq=>?_,hfv.one,fun _=>⟨_,rfl⟩,hfv.each,fun i j hi hj=>?_⟩)
    .cases ha;rw[add_none];refine⟨by simp[Gh.ps,G',uS],?_⟩;rw[cell_of_row w b _ _ e (0,0) hheap];obtain⟨hlt,rfl⟩:=List.getElem?_eq_some_iff.1 hq;rw[List.getElem_take];have hl2:q<cs.size:=by rw[List.length_take] at hlt;simp at hlt;omega
     have e0:0*sz+q=q:=by omega
     rw[e0];simp[hl2]
    .obtain⟨u,hu,hr⟩:=hfv.read i j hi hj;exact⟨u,hu,hr.mono hcells⟩
   | _=>cases hq
 have hRVs:∀{xs ys:List AV} {vs:List Value},CvR (SpTo (cx.base+s) sz es) xs ys->RVs G w xs vs->RVs G' w ys vs:=fun h hr=>⟨h.1.symm.trans hr.1,fun i h1 h2=>hto _ _ _ (h.2 i (by rw[h.1];exact h1) h1) (hr.2 i _ h2)⟩
 refine⟨G',⟨hS.defers,hS.size,fun i=>hto _ _ _ (hl.at .bot i) (hS.tmps i),?_⟩,?_,?_⟩
 .constructor
  case box =>
   intro k rows b' z hk hb';have e1:k≠cx.base+s:=fun e=>by
    subst e;simp only at hk;rw[lb_at,hk'] at hk;cases hk
   simp only[G'] at hb';rw[uO _ _ e1] at hb';have hbne:b'≠b:=fun e=>by subst e;exact e1 (hm.inj _ _ _ _ _ hb' hbk)
   by_cases hkb:k<cx.base
   .simp only at hk;rw[lO hkb] at hk;obtain⟨g1,cs',e',g2,g3,g4,g5⟩:=hm.box k rows b' z (by simp only;rw[lO hkb];exact hk) hb';refine⟨by simp only[G'];rw[uO _ _ hbne];exact g1,cs',e',g2,g3,⟨g4.1,fun i h1 h2=>?_⟩,g5⟩;have hmem:rows.flatten[i]∈rows.flatten:=List.getElem_mem _
    obtain⟨q,hq,hxq⟩:=List.mem_flatten.1 hmem;have hG0:G0.bx k≠none:=by rw[<-hL.1.bx k hkb,hb'];simp
    have:=he k rows hkb (by rw[<-ho];exact hk) hG0 q hq _ hxq
    exact hok (this.imp (fun j hj=>by omega) fun _ _=>trivial) (g4.2 i h1 h2)
   .have hkk:k=cx.base+(k-cx.base):=by omega
    simp only at hk;rw[hkk,lb_at] at hk;rcases hb.at (k-cx.base) with ⟨_,h2⟩|⟨r0,r',h1,h2,h3⟩
    .rw[h2] at hk;cases hk
    .rw[h2] at hk;cases hk;obtain⟨g1,cs',e',g2,g3,g4,g5⟩:=hm.box k r0 b' z (by simp only;rw[hkk,lb_at,lk_cons,if_neg (by omega)];exact h1) hb';refine⟨by simp only[G'];rw[uO _ _ hbne];exact g1,cs',e',g2,fun q hq=>?_,hRVs h3.flat g4,g5⟩;obtain⟨i,hi,rfl⟩:=List.getElem_of_mem hq;have hi0:i<r0.length:=by rw[h3.1];exact hi
     rw[<-(h3.2 i hi0 hi).1];exact g3 _ (List.getElem_mem _)
  case nobox =>
   intro k hk;simp only[G'];by_cases e1:k=cx.base+s
   .subst e1;simp[uS]
   .rw[uO _ _ e1];refine hm.nobox k ?_;simp only at hk ⊢;by_cases hkb:k<cx.base
    .rw[lO hkb] at hk ⊢;exact hk
    .have hkk:k=cx.base+(k-cx.base):=by omega
     rw[hkk,lb_at] at hk ⊢;rw[lk_cons,if_neg (by omega)];rcases hb.at (k-cx.base) with ⟨h1,_⟩|⟨r0,r',_,h2,_⟩
     .exact h1
     .rw[h2] at hk;cases hk
  case inj =>
   intro j j' b' z z' hj hj';simp only[G'] at hj hj';by_cases e1:j=cx.base+s
   .subst e1;simp[uS] at hj
   .by_cases e2:j'=cx.base+s
    .subst e2;simp[uS] at hj'
    .rw[uO _ _ e1] at hj;rw[uO _ _ e2] at hj';exact hm.inj j j' b' z z' hj hj'
  case nb =>
   intro k hk;have h0:=hm.nb k hk;simp only at h0 ⊢;by_cases hkb:k<cx.base
   .rw[lO hkb] at h0 ⊢;exact h0
   .have hkk:k=cx.base+(k-cx.base):=by omega
    rw[hkk,lb_at] at h0 ⊢;by_cases e1:k-cx.base=s
    .rw[e1];exact hk'
    .rw[lk_cons,if_neg e1] at h0;rcases hb.at (k-cx.base) with ⟨_,h2⟩|⟨r0,r',h1,_,_⟩
     .exact h2
     .rw[h1] at h0;cases h0
  case nt=>exact hm.nt
  case toks=>exact hm.toks
  case tokb =>
   intro q j hq;obtain⟨f,cur,e',g1,g2⟩:=hm.tokb q j hq;refine⟨f,cur,e',?_,g2⟩;simp only[G'];rw[uO _ _ (hne hq)];exact g1
  case tinj=>exact hm.tinj
  case tnt=>exact hm.tnt
  case glob=>exact hm.glob.mono hcells
  case fresh =>
   intro b' hb';have:=heap_lt hheap
   simp only[G'];rw[uO _ _ (by omega)];exact hm.fresh b' hb'
 .refine hL.1.trans ⟨rfl,rfl,rfl,nr _,hle.whole,hle.part,fun k hk=>?_,hle.nt,hle.tk,hle.ty⟩;simp only[G'];exact uO _ _ (by omega)
 .intro k hkb hg;have:=hL.2 k hkb hg
  simp only at this ⊢;rw[lO hkb] at this ⊢;exact this
section
variable {k sz:Nat} {es:List (List D)}
@[simp] theorem spTo_bot(x:AV):SpTo k sz es x .bot:=.bot
@[simp] theorem spTo_d(x:D):SpTo k sz es (.d x) (.d x):=.same .d
@[simp] theorem spTo_osl(n:Nat)(xs:List (List D))(o:Own):SpTo k sz es (.osl n xs o) (.osl n xs o):=.same (.osl fun _ _=>trivial)
@[simp] theorem spTo_msl:SpTo k sz es (.msl k 0 es.length sz) (.d (.sl sz es)):=.msl
end
open Go Go.Proofs
open Go.Proofs.Tryz
structure Sr where
 t:Ty
 p:Gr
 g:Gr
 pt:Mo
 inj:Bool
 most:Nat
abbrev Sr.row(s:Sr)(out:List Mo)(own:Own):List AV:=[.d (nts s.t.nodes),.d (ets s.t.edges),.d (ints s.p.nodes),.d (AM.edges s.p.edges),.d (ints s.g.nodes),.d (AM.edges s.g.edges),.d (ints s.pt.nodes),.d (ints s.pt.edges),B s.inj,I s.most,.osl 2 (out.map fun m=>[ints m.nodes,ints m.edges]) own]
structure Sr.Ok (s:Sr):Prop where
 t:s.t.Fit
 tp:∀j,j<s.t.nodes.length->(s.t.nd j).par<j
 p:s.p.Fit
 g:s.g.Fit
 m:s.most<=1000000
 vp:∀e∈s.p.edges,0<=e.fr/\e.fr<s.p.nodes.length/\0<=e.to/\e.to<s.p.nodes.length
 pn:s.pt.nodes.length=s.p.nodes.length
 pe:s.pt.edges.length=s.p.edges.length
 np:∀n∈s.p.nodes,0<=n/\n<s.t.nodes.length
 ng:∀n∈s.g.nodes,0<=n/\n<s.t.nodes.length
def gvB(l:List Int)(i k:Nat):Bool:=if 0<=l.getD i 0 then decide (l.getD i 0=(k:Int)) else true
def Sr.eqE(s:Sr)(N:List Int)(i k:Nat):Bool:=decide (s.g.edges.getD k default=wantX s.p N i)
def Sr.anE(s:Sr)(N:List Int)(i k:Nat):Bool:=(List.range k).any (s.eqE N i)
def Sr.fitE(s:Sr)(N:List Int)(i:Nat):Bool :=
 if (N.length:Int)<=(s.p.edges.getD i default).fr then true else if (N.length:Int)<=(s.p.edges.getD i default).to then true else s.anE N i s.g.edges.length
def Sr.fit(s:Sr)(N:List Int):Bool:=(List.range s.p.edges.length).all (s.fitE N)
variable {P:Program}
theorem getD_some{l:Array Bool}{i:Nat}{d v:Bool}(h:l[i]?=some v):l.getD i d=v:=by simp[Array.getD_eq_getD_getElem?,h]
variable {P:Program} {wr:Bool}
theorem effW_maker'{base:Nat}{o:Oper}{ρ:Operand->AV}{b b':Bxs}{v:AV}(hm:maker o.op=true)(h:EffW P base o ρ b v b'):
  ∃s rows,o.dst=some s/\b'=upd b (base+s) (some rows):=by
 unfold EffW at h;cases hop:o.op<;>rw[hop] at hm h<;>first|cases hm|skip
 .simp only at h;split at h
  .rename_i s cs h1 h2;obtain⟨g1,g2,g3⟩:=h;exact⟨s,[cs],h1,g3⟩
  .exact h.elim
 .simp only at h;split at h
  .rename_i sz by' zs s k1 n k2 n' h1 h2 h3 h4
   obtain⟨g1,g2,g3,g4,g5,g6⟩:=h;exact⟨s,_,h2,g6⟩
  .exact h.elim
def isLoad:Op->Bool
 | .load .. => true
 | _=>false
theorem isLoad_spec{o:Oper}(h:isLoad o.op=true):cls o.op=.r/\∃p,ptrOp o.op=some p:=by
 cases hop:o.op<;>rw[hop] at h<;>first|cases h|skip
 exact⟨rfl,_,rfl⟩
theorem maker_cls{o:Oper}(h:maker o.op=true):cls o.op=.w:=by
 cases hop:o.op<;>rw[hop] at h<;>first|(exact absurd h Bool.false_ne_true)|rfl
def lm(x y:Oper):Bool:=isLoad x.op&&maker y.op||maker x.op&&isLoad y.op
def regOk5(ops:Array Oper):Bool :=
 let an:=ancs ops.toList []
 dstUniq ops&&(List.range ops.size).all fun i=>(match ops[i]? with|some o=>(direct o).all fun j=>decide (j<i)|none=>true) &&
  (List.range i).all fun j=>(an.getD i 0).testBit j||(match ops[j]?,ops[i]? with
   | some x,some y=>Oper.apart ops x y&&(!clash x y||isPtr x.op&&isPtr y.op||lm x y)
   | _,_=>false)
def mks:List Oper->List Nat
 | []=>[]
 | o::r=>if maker o.op=true then (match o.dst with|some s=>s::mks r|none=>mks r) else mks r
def lds:List Oper->List Operand
 | []=>[]
 | o::r=>match o.op with
  | .load _ p=>p::lds r
  | _=>lds r
def NB(x:AV)(k:Nat):Prop:=match x with
 | .ptr k' _ _=>k'≠k
 | _=>True
def FarN(x:AV)(base:Nat):List Nat->Prop
 | []=>True
 | s::r=>NB x (base+s)/\FarN x base r
def FarM(S:AS)(base:Nat)(ms:List Nat):List Operand->Prop
 | []=>True
 | p::r=>FarN (S.ev p) base ms/\FarM S base ms r
theorem farN_spec{x:AV}{base:Nat}:∀{l:List Nat} {s:Nat},FarN x base l->s∈l->NB x (base+s)
 | a::r,s,h,hs=>by
  rcases List.mem_cons.1 hs with rfl|hs
  .exact h.1
  .exact farN_spec h.2 hs
theorem farM_spec{S:AS}{base:Nat}{ms:List Nat}:∀{l:List Operand} {p:Operand},FarM S base ms l->p∈l->FarN (S.ev p) base ms
 | a::r,p,h,hp=>by
  rcases List.mem_cons.1 hp with rfl|hp
  .exact h.1
  .exact farM_spec h.2 hp
theorem mks_mem{o:Oper}{s:Nat}(hm:maker o.op=true)(hd:o.dst=some s):∀{l:List Oper},o∈l->s∈mks l
 | a::r,h=>by
  rcases List.mem_cons.1 h with rfl|h
  .rw[mks,if_pos hm,hd];simp
  .have:=mks_mem hm hd h
   rw[mks];split
   .split
    .exact List.mem_cons_of_mem _ this
    .exact this
   .exact this
theorem lds_mem{o:Oper}{p:Operand}(hm:isLoad o.op=true)(hp:ptrOp o.op=some p):∀{l:List Oper},o∈l->p∈lds l
 | a::r,h=>by
  rcases List.mem_cons.1 h with rfl|h
  .cases hop:o.op<;>rw[hop] at hm hp<;>first|cases hm|skip
   simp only[ptrOp,Option.some.injEq] at hp;subst hp;rw[lds,hop];simp
  .have:=lds_mem hm hp h
   rw[lds];split
   .exact List.mem_cons_of_mem _ this
   .exact this
theorem any_sound5{n nb base:Nat}{ops:Array Oper}{Q:Exit->Act->World->Prop}{Sf:AS}{G0:Gh}{w0:World}{b0:Bxs}(hreg:regOk5 ops=true)(hal:allocOk ops=true)(hdst:dstOk n ops=true)(hnb:base+n<=nb)(hfar:Far Sf (ptrs ops.toList))(hfm:FarM Sf base (mks ops.toList) (lds ops.toList))(hQ:∀a' w' G',RelS n nb G' Sf a' w'->LeK base G0 w0 b0 G' w' Sf.box->Q .normal a' w')(fuel:Nat)(listed:Array Bool)(rem:List Nat)(S:AS)(a:Act)(w:World)(G:Gh)(hrem:rem=List.range ops.size)(hside:Side ops S)(h1:listed.size=ops.size)(h2:rem=(List.range ops.size).filter (fun i=>!listed.getD i true))(h3:rem.length=fuel)(h4:∀i o,ops[i]?=some o->listed.getD i false=true->∀j∈direct o,listed.getD j false=true)(h5:IRun P false base ops rem S Sf)(h6:RelS n nb G S a w)(h7:∀i∈rem,∀o,ops[i]?=some o->Pend P base o G S.box)(h8:LeK base G0 w0 b0 G w S.box):wpAny P .any ops Q fuel listed a w:=by
 unfold regOk5 at hreg;simp only[Bool.and_eq_true] at hreg;obtain⟨hu,hreg⟩:=hreg;have key:∀(i:Nat) (o:Oper),ops[i]?=some o->(∀j∈direct o,j<i)/\∀j x,ops[j]?=some x->j<i->((ancs ops.toList []).getD i 0).testBit j=true∨x.apart ops o=true/\((clash x o=false∨isPtr x.op=true/\isPtr o.op=true)∨lm x o=true):=by
  intro i o ho;have his:i<ops.size:=(Array.getElem?_eq_some_iff.1 ho).1
  have hall:=List.all_eq_true.1 hreg i (by simpa using his);rw[ho] at hall;simp only[Bool.and_eq_true] at hall;refine⟨fun j hj=>by simpa using List.all_eq_true.1 hall.1 j hj,fun j x hx hj=>?_⟩;have h2:=List.all_eq_true.1 hall.2 j (by simpa using hj);rw[hx] at h2;simpa only[Bool.or_eq_true,Bool.and_eq_true,Bool.not_eq_true'] using h2
 have start:Ivs Sf S:=by
  intro t;by_cases hd:∃o∈ops.toList,o.dst=some t
  .obtain⟨o,ho,hd⟩:=hd;exact .inr (hside o ho t hd)
  .refine .inl (irun_keeps (fun j _ x hx hxd=>hd ⟨x,by simpa using Array.mem_of_getElem? hx,hxd⟩) h5).symm
 refine any_sound' (fun i o ho=>(key i o ho).1) (Iv:=Ivs Sf) (fun i o S' S'' rest ho hni hst hrun hiv=>ivs_step hu i o S' S'' rest ho hni hst hrun hiv) ?_ hal hdst hnb hQ fuel listed rem S a w G h1 h2 h3 h4 start h5 h6 h7 h8;intro i j o x ho hx hj hb S' S1 S2 hiv g1 g2;have back:∀(z:Operand) k i off,S'.ev z=.ptr k i off->Sf.ev z=.ptr k i off:=by
  intro z k i off hz;cases z with
  | tmp t =>
   rcases hiv t with e|e
   .exact e.symm.trans hz
   .have hz':S'.tmps t=.ptr k i off:=hz
    rw[hz'] at e;exact e.elim
  | const c=>exact hz
  | global c=>exact hz
  | func c=>exact hz
 have nb:∀(y z:Oper) (p:Operand) (s:Nat),isLoad y.op=true->ptrOp y.op=some p->y∈ops.toList->maker z.op=true->z.dst=some s->z∈ops.toList->∀k i off,S'.ev p=.ptr k i off->k≠base+s:=fun y z p s hy hp hym hz hs hzm k i off hk=>by
  have:=farN_spec (farM_spec hfm (lds_mem hy hp hym)) (mks_mem hz hs hzm)
  rw[back p _ _ _ hk] at this;exact this
 have hxm:x∈ops.toList:=by simpa using Array.mem_of_getElem? hx
 have hom:o∈ops.toList:=by simpa using Array.mem_of_getElem? ho
 rcases (key i o ho).2 j x hx hj with h|⟨h,h'⟩
 .rw[hb] at h;cases h
 .by_cases hlm:lm x o=true
  .unfold lm at hlm;simp only[Bool.or_eq_true,Bool.and_eq_true] at hlm;refine gstep_swap' h (fun {c0 c1 c2 s0 s1 s2 m0 m1 m2 vx vy} e1 e2=>?_) g1 g2;unfold Eff at e1 e2 ⊢;rcases hlm with ⟨q1,q2⟩|⟨q1,q2⟩
   .obtain⟨k1,p,hp⟩:=isLoad_spec q1;have k2:=maker_cls q2;simp only[k1,k2] at e1 e2 ⊢;obtain⟨e1,rfl,rfl,rfl⟩:=e1;obtain⟨e2,rfl,rfl⟩:=e2;obtain⟨s,rows,hs,rfl⟩:=effW_maker' q2 e2;exact⟨_,_,_,⟨e2,rfl,rfl⟩,effR_ptr hp k1 e1 (nb x o p s q1 hp hxm q2 hs hom),rfl,rfl,rfl⟩
   .obtain⟨k1,p,hp⟩:=isLoad_spec q2;have k2:=maker_cls q1;simp only[k1,k2] at e1 e2 ⊢;obtain⟨e1,rfl,rfl⟩:=e1;obtain⟨e2,rfl,rfl,rfl⟩:=e2;obtain⟨s,rows,hs,rfl⟩:=effW_maker' q1 e1;exact⟨_,_,_,⟨effR_back hp k1 (nb o x p s q2 hp hom q1 hs hxm) e2,rfl,rfl,rfl⟩,e1,rfl,rfl⟩
  .have h':=h'.resolve_right hlm
   cases hc:clash x o with
   | false=>exact gstep_swap h hc g1 g2
   | true =>
    rcases h' with h'|⟨h1',h2'⟩
    .rw[hc] at h';cases h'
    .obtain⟨p,hp⟩:=Option.isSome_iff_exists.1 h1';obtain⟨q,hq⟩:=Option.isSome_iff_exists.1 h2';have hnk:=far_spec hfar hj (by simpa using hx) (by simpa using ho) hp hq hc;refine gstep_swap' h (fun {c0 c1 c2 s0 s1 s2 m0 m1 m2 vx vy} e1 e2=>?_) g1 g2;refine eff_far hp hq (fun k i1 off k' i2 off' hk hk'=>?_) e1 e2;rw[back p _ _ _ hk,back q _ _ _ hk'] at hnk;exact hnk
theorem AT.region5{cx:Cx}{nt0 id:Nat}{ops:Array Oper}{S:AS}{K:Exit->AS->Prop}(hf:P.follows .mixedOrders=true)(hnb:cx.base+cx.n<=cx.nb)(hok:(allocOk ops&&dstOk cx.n ops&&regOk5 ops)=true)(hside:Side ops S)(h:ARegion P cx ops true S (fun S'=>(Far S' (ptrs ops.toList)/\FarM S' cx.base (mks ops.toList) (lds ops.toList))/\K .normal S')):AT P cx nt0 (.region id ops true) S K:=by
 simp only[Bool.and_eq_true] at hok;obtain⟨⟨hal,hdst⟩,hreg⟩:=hok;intro G0 w0 he hn G a w hr hl;have hd:=dstOk_spec hdst;obtain⟨b,hb,hr1,hp,hkeep⟩:=preB_sound hnb ops.toList S.box (S:=S) hr (fun o ho d hod=>hd o d (by simpa using ho) hod) (allocOk_nodup hal) h;have hl1:LeC cx G0 w0 G w { S with box:=b }:=⟨hl.1,fun k hk hg=>by
  rw[<-hl.2 k hk hg];refine hkeep k fun hm=>?_
  obtain⟨o,ho,he⟩:=List.mem_filterMap.1 hm;split at he
  .rename_i T s h1 h2;simp only[Option.some.injEq] at he;subst he;exact absurd hk (by simp)
  .cases he⟩
 simp only at hb;obtain⟨S',hrun,⟨hfar,hfm⟩,hK⟩:=hb;refine wp_region_any hf ?_;have hrd:RelS cx.n cx.nb G { S with box:=b } a w.drew:=hr1.drew
 have hld:LeC cx G0 w0 G w.drew { S with box:=b }:=hl1.step ⟨Le.drew,fun k _ hg=>⟨hg,rfl⟩⟩
 refine any_sound5 (n:=cx.n) (nb:=cx.nb) (base:=cx.base) (Sf:=S') (G0:=G) (w0:=w.drew) (b0:=b) hreg hal hdst hnb hfar hfm (fun a' w' G' h1 h2=>⟨S',G',hK,h1,hld.step h2⟩) ops.size (Array.replicate ops.size false) (List.range ops.size) { S with box:=b } a w.drew G rfl hside (by simp) ?_ (by simp) ?_ (IRun.of_all hrun) hrd ?_ (LeK.refl _ _ _ _)
 .rw[List.filter_eq_self.2];intro i hi;simp at hi;simp[Array.getD,hi]
 .intro i o ho hlst;have hi:=(Array.getElem?_eq_some_iff.1 ho).1;simp[Array.getD,hi] at hlst
 .intro i _ o ho;exact hp o (by simpa using Array.mem_of_getElem? ho)
theorem AL.region5{cx:Cx}{nt0:Nat}{r:List CI}{K:Exit->AS->Prop}{S:AS}{id:Nat}{ops:Array Oper}(hf:P.follows .mixedOrders=true)(hnb:cx.base+cx.n<=cx.nb)(hok:(allocOk ops&&dstOk cx.n ops&&regOk5 ops)=true)(hs:Side ops S)(h:FReg P cx ops true (fun S'=>(Far S' (ptrs ops.toList)/\FarM S' cx.base (mks ops.toList) (lds ops.toList))/\AL P cx nt0 K r S') S):AL P cx nt0 K (.c (.region id ops true)::r) S:=by
 simp only[AL];exact AT.region5 hf hnb hok hs (fReg_sound h)
def Sr.fitK(s:Sr)(N:List Int)(i k:Nat):Bool:=if gvB s.pt.edges i k=true then decide (s.g.edges.getD k default=wantX s.p N i) else false
def Sr.posE(s:Sr)(N:List Int)(i:Nat):Bool :=
 if max (s.p.edges.getD i default).fr (s.p.edges.getD i default).to=(N.length:Int)-1 then (List.range s.g.edges.length).any (s.fitK N i) else true
def Sr.pos(s:Sr)(N:List Int):Bool:=(List.range s.p.edges.length).all (s.posE N)
structure Sd where
 k:Int
 o:Bool
 near:Int
 far:Int
 low:Int
 high:Int
abbrev Sd.cells(s:Sd):List D:=[.raw (.int .i64 s.k),.raw (.bool s.o),.raw (.int .i64 s.near),.raw (.int .i64 s.far),.raw (.int .i64 s.low),.raw (.int .i64 s.high)]
abbrev Sd.av(s:Sd):AV:=.agg [I s.k,B s.o,I s.near,I s.far,I s.low,I s.high]
theorem extractBad_c(g:Gr)(p:Mo)(hg:g.Fit)(hp:p.Fit)(h:validP g p≠0):DC 114 [g.av,p.av] (.tup [(Gr.mk [] []).av,(Mo.mk [] []).av,I (validP g p)]):=by
 intro tok nt box nb;have h1:=validP_c g p hg hp;have b1:(validP g p != 0)=true:=by simp[h]
 generalize validP g p=E at *;refine sI func114 ntmps114 fun Hb Ht=>?_
 repeat first|simp|refine sR ?_
 refine sD (h1 _ _) ?_;repeat first|simp[b1]|refine sR ?_|refine sC ?_
 refine sT (sH Hb Ht ?_);simp[ints,AM.edges]
def stPs(r:Ru)(nb:Nat)(box:Bxs)(tok:Tks)(nt:Nat)(i:Nat):AS :=
 ⟨tl [(62,I i),(61,I 2),(60,.osl 5 [[ints r.lg.nodes,AM.edges r.lg.edges,slots r.lsl,.raw (.int .i64 r.lv),tests r.lte],[ints r.rg.nodes,AM.edges r.rg.edges,slots r.rsl,.raw (.int .i64 r.rv),tests r.rte]] .full),(1,.ptr (nb+1) 0 0)],lb nb box [(1,[r.row])],tok,nt⟩
theorem structuralPc_c(r:Ru)(hr:r.Fit):DC 60 [r.av] (I (strR r)):=by
 intro tok nt box nb;have h1:=graphValid_c r.lg hr.lg;have h2:=graphValid_c r.rg hr.rg;have h3:=extractBad_c r.lg r.k hr.lg hr.k;have h4:=fun h=>extractP_c r.lg r.k hr.lg hr.k h
 have h5:=fun h=>valid51_c (exG r.lg r.k) r.rg r.i h hr.rg
 have h6:=fun h=>injective56_c (exG r.lg r.k) r.rg r.i h hr.rg hr.i
 refine sI func60 ntmps60 fun Hb Ht=>?_
 repeat first|simp|refine sR ?_
 refine sD (h1 _ _) ?_;repeat first|simp|refine sR ?_
 by_cases e1:vG r.lg=0
 .simp only[e1];refine sC ?_;repeat first|simp|refine sR ?_
  refine sD (h2 _ _) ?_;repeat first|simp|refine sR ?_
  by_cases e2:vG r.rg=0
  .simp only[e2];refine sC ?_;repeat first|simp|refine sR ?_
   by_cases e3:validP r.lg r.k=0
   .have hp:=VP.of e3;have hx:=hp.emb.fit.2.1;refine sD (h4 hp _ _) ?_;repeat first|simp|refine sR ?_
    refine sC ?_;repeat first|simp|refine sR ?_
    refine sD (h5 hx _ _) ?_;repeat first|simp|refine sR ?_
    by_cases e4:validM (exG r.lg r.k) r.rg r.i=0
    .simp only[e4];refine sC ?_;repeat first|simp|refine sR ?_
     refine sD (h6 hx _ _) ?_;repeat first|simp|refine sR ?_
     cases e5:injM (exG r.lg r.k) r.rg r.i
     .refine sC ?_;repeat first|simp|refine sR ?_
      refine sT (sH Hb Ht ?_);simp[strR,e1,e2,e3,e4,e5]
     .refine sC ?_;repeat first|simp|refine sR ?_
      have hls:=hr.ls;have hlt:=hr.lt;have hrs:=hr.rs;have hrt:=hr.rt;rw[bigN_eq] at hls hlt hrs hrt;have w1:IntKind.i64.wrap ((r.lsl.length:Int)+r.lte.length)=((r.lsl.length+r.lte.length:Nat):Int):=by rw[wrap_in (by omega) (by omega)];omega
      have w2:IntKind.i64.wrap ((r.rsl.length:Int)+r.rte.length)=((r.rsl.length+r.rte.length:Nat):Int):=by rw[wrap_in (by omega) (by omega)];omega
      refine⟨rfl,?_⟩;repeat first|simp|refine sR ?_
      refine sN ?_;refine sL (stPs r nb box tok nt) (fun i=>i<=2/\(1<=i->r.plainL)/\(2<=i->r.plainR)) (fun i=>2-i) 0 ⟨by omega,by omega,by omega⟩ wkA ?_;rintro i S ⟨hi,hpl,hpr⟩ hS;simp only[stPs] at hS;subst hS;obtain rfl|rfl|rfl:i=0∨i=1∨i=2:=by omega
      .have hw:IntKind.i64.wrap 1=1:=rfl
       repeat (first|simp|refine sR ?_)
       refine sC ?_
       repeat (first|simp|refine sR ?_)
       by_cases s2:r.lv=0
       .have b2:(r.lv != 0)=false:=by simp[s2]
        by_cases s1:(0:Int)<(r.lsl.length:Int)+r.lte.length
        .have hne:¬r.plainL:=fun h=>by have:=h.1;omega
         try (simp[w1,s1,b2])
         repeat (first|(refine sR ?_;simp[w1,s1,b2])|(refine sC ?_;simp[w1,s1,b2])|(refine sX ?_;simp only[AU,↓reduceIte]))
         refine sT (sH Hb Ht ?_);simp[strR,e1,e2,e3,e4,e5,hne]
        .have hyes:r.plainL:=⟨by omega,s2⟩
         try (simp[w1,s1,b2,hw])
         repeat (first|(refine sR ?_;simp[w1,s1,b2,hw])|(refine sC ?_;simp[w1,s1,b2,hw])|(refine sX ?_;simp only[AU,↓reduceIte]))
         refine sE ?_;exact⟨1,⟨by omega,fun _=>hyes,by omega⟩,by omega,wkA⟩
       .have hne:¬r.plainL:=fun h=>s2 h.2
        have b2:(r.lv != 0)=true:=by simp[s2]
        try (simp[b2])
        repeat (first|(refine sR ?_;simp[b2])|(refine sC ?_;simp[b2])|(refine sX ?_;simp only[AU,↓reduceIte]))
        refine sT (sH Hb Ht ?_);simp[strR,e1,e2,e3,e4,e5,hne]
      .have hw:IntKind.i64.wrap 2=2:=rfl
       have hl:=hpl (by omega);repeat (first|simp|refine sR ?_)
       refine sC ?_
       repeat (first|simp|refine sR ?_)
       by_cases s2:r.rv=0
       .have b2:(r.rv != 0)=false:=by simp[s2]
        by_cases s1:(0:Int)<(r.rsl.length:Int)+r.rte.length
        .have hne:¬r.plainR:=fun h=>by have:=h.1;omega
         try (simp[w2,s1,b2])
         repeat (first|(refine sR ?_;simp[w2,s1,b2])|(refine sC ?_;simp[w2,s1,b2])|(refine sX ?_;simp only[AU,↓reduceIte]))
         refine sT (sH Hb Ht ?_);simp[strR,e1,e2,e3,e4,e5,hne]
        .have hyes:r.plainR:=⟨by omega,s2⟩
         try (simp[w2,s1,b2,hw])
         repeat (first|(refine sR ?_;simp[w2,s1,b2,hw])|(refine sC ?_;simp[w2,s1,b2,hw])|(refine sX ?_;simp only[AU,↓reduceIte]))
         refine sE ?_;exact⟨2,⟨by omega,fun _=>hl,fun _=>hyes⟩,by omega,wkA⟩
       .have hne:¬r.plainR:=fun h=>s2 h.2
        have b2:(r.rv != 0)=true:=by simp[s2]
        try (simp[b2])
        repeat (first|(refine sR ?_;simp[b2])|(refine sC ?_;simp[b2])|(refine sX ?_;simp only[AU,↓reduceIte]))
        refine sT (sH Hb Ht ?_);simp[strR,e1,e2,e3,e4,e5,hne]
      .have hl:=hpl (by omega);have hr2:=hpr (by omega);repeat first|simp|refine sR ?_|refine sC ?_
       refine sX ?_;simp only[AU,↓reduceIte];repeat first|simp|refine sR ?_
       cases hin:r.inj
       .refine sC ?_;repeat first|simp|refine sR ?_
        refine sT (sH Hb Ht ?_);simp[strR,e1,e2,e3,e4,e5,hl,hr2,hin]
       .refine sC ?_;repeat first|simp|refine sR ?_
        refine sT (sH Hb Ht ?_);simp[strR,e1,e2,e3,e4,e5,hl,hr2,hin]
    .have b4:(validM (exG r.lg r.k) r.rg r.i != 0)=true:=by simp[e4]
     simp only[b4];refine sC ?_;repeat first|simp|refine sR ?_
     refine sT (sH Hb Ht ?_);simp[strR,e1,e2,e3,e4]
   .have b3:(validP r.lg r.k != 0)=true:=by simp[e3]
    refine sD (h3 e3 _ _) ?_;repeat first|simp|refine sR ?_
    simp only[b3];refine sC ?_;repeat first|simp|refine sR ?_
    refine sT (sH Hb Ht ?_);simp[strR,e1,e2,e3]
  .have b2:(vG r.rg != 0)=true:=by simp[e2]
   simp only[b2];refine sC ?_;repeat first|simp|refine sR ?_
   refine sT (sH Hb Ht ?_);simp[strR,e1,e2]
 .have b1:(vG r.lg != 0)=true:=by simp[e1]
  simp only[b1];refine sC ?_;repeat first|simp|refine sR ?_
  refine sT (sH Hb Ht ?_);simp[strR,e1]
def belR(t:Ty)(a:Int):List Int × Int:=if givE t [a]≠0 then ([],givE t [a]) else (belK t a t.nodes.length,0)
theorem givE_leaf{t:Ty}(h:tyE t=0){a:Int}(h0:0<=a):givE t [a]=if (t.nodes.length:Int)<=a then 6 else 0:=by
 unfold givE;rw[if_pos h];by_cases h1:(t.nodes.length:Int)<=a
 .have:¬a<t.nodes.length:=by omega
  simp[anyB,insB,h1,this]
 .have:a<t.nodes.length:=by omega
  simp[anyB,insB,h1,this,h0]
def stBw(t:Ty)(a:Int)(nb:Nat)(box:Bxs)(x:Acc):AS :=
 ⟨tl [(19,I x.i),(18,I t.nodes.length),(7,.osl 1 (rI (belK t a x.i)) x.own),(1,I a),(2,.ptr (nb+2) 0 0)],lb nb box [(2,[[.d (nts t.nodes),.d (ets t.edges)]])],x.tok,x.nt⟩
theorem below_c(t:Ty)(ht:t.Fit)(a:Int):DC 163 [t.av,I a] (.tup [.d (ints (belR t a).1),I (belR t a).2]):=by
 intro tok nt box nb;have htn:=ht.n;have h1:=given_c t ht [a] (by simp);have hin:=@givE_in t [a];obtain⟨N,hN⟩:∃N,belR t a=N:=⟨_,rfl⟩
 rw[hN];unfold belR at hN;generalize givE t [a]=E at *;refine sI func163 ntmps163 fun Hb Ht=>?_
 repeat first|simp|refine sR ?_
 refine Stop.data ?_;refine sD (h1 _ _) ?_;repeat first|simp|refine sR ?_
 by_cases e1:E=0
 .rw[if_neg (by simp[e1])] at hN;have hp:=tyE_par (hin e1).1;refine sC ?_;simp[e1];repeat first|simp|refine sR ?_
  refine sN ?_;refine sL (stBw t a nb box) (fun x=>x.i<=t.nodes.length/\TK tok nt x.tok x.nt [x.own]) (fun x=>t.nodes.length-x.i) ⟨0,.full,tok,nt⟩ ⟨Nat.zero_le _,(TK.start Ht).full⟩ (wM (nr _) rfl (by simp[ToL,lk,belK_zero]) (by simp[BoxL,lk])) ?_;rintro⟨i,own,tok',nt'⟩ S ⟨hi,htk⟩ hS;simp only[stBw] at hS hi htk;subst hS;have hw:=sW (i:=i) (by omega);have hlen:=belK_len t a i;have hsc:=belK_succ t a i;repeat first|simp|refine sR ?_|refine sC ?_
  refine⟨fun hlt=>?_,fun hge=>?_⟩
  .have hc:=is_c t ht i a (by omega) (by omega) hp;generalize belK t a i=L at *;repeat first|simp[hlt]|refine sR ?_
   refine sD (hc _ _) ?_;simp;cases e2:isB t i a
   .rw[e2,if_neg (by simp)] at hsc;repeat first|simp[hw]|refine sR ?_|refine sC ?_
    refine sE ?_;exact⟨⟨i+1,own,tok',nt'⟩,⟨hlt,htk⟩,by simp only;omega,wM htk.le rfl (by simp[ToL,lk,hsc]) (by simp[BoxL,lk])⟩
   .rw[e2,if_pos rfl] at hsc;repeat first|simp|refine sR ?_
    refine sC ?_;repeat first|simp|refine sR ?_
    refine⟨⟨by omega,htk.live⟩,?_⟩;repeat first|simp[hw]|refine sR ?_
    refine sE ?_;exact⟨⟨i+1,_,_,_⟩,⟨hlt,htk.app⟩,by simp only;omega,wM htk.app.le rfl (by simp[ToL,lk,hsc]) (by simp[BoxL,lk])⟩
  .refine sX ?_;simp only[AU,↓reduceIte];have:i=t.nodes.length:=by omega
   subst this;repeat first|simp|refine sR ?_
   refine sT (sG Hb Ht htk.old htk.le ?_);simp[<-hN]
 .rw[if_pos e1] at hN;have b1:(E != 0)=true:=by simp[e1]
  refine sC ?_;simp[b1];repeat first|simp|refine sR ?_
  refine sT (sH Hb Ht ?_);simp[<-hN,ints]
theorem leavesP1_c(t:Ty)(ht:t.Fit)(g:Gr)(e:E)(h0:0<=e.fr/\e.fr<g.nodes.length)(h2:0<=e.to/\e.to<g.nodes.length)(box:Bxs)(nb k1 k2:Nat)(tok:Tks)(nt:Nat)(h1:box k1=some [[.d (nts t.nodes),.d (ets t.edges)]])(h3:box k2=some [[.d (ints g.nodes),.d (AM.edges g.edges)]]):
  ACalls prog 165 [.agg [I e.ty,I e.fr,I e.to],.ptr k1 0 0,.ptr k2 0 0] ⟨box,nb,tok,nt⟩ fun v m=>v=B (!lvE t g e)/\m=⟨box,nb,tok,nt⟩:=by
 obtain⟨ty,fr,to'⟩:=e;simp only at h0 h2;obtain⟨a,rfl⟩:=Int.eq_ofNat_of_zero_le h0.1;obtain⟨b,rfl⟩:=Int.eq_ofNat_of_zero_le h2.1;have ha:a<g.nodes.length:=by omega
 have hb:b<g.nodes.length:=by omega
 have hc:=fits_c4 t ht ty g.nodes[a] g.nodes[b];have hL:lvE t g ⟨ty,a,b⟩=fitB t ty g.nodes[a] g.nodes[b]:=by simp[lvE,ha,hb]
 rw[hL];generalize fitB t ty g.nodes[a] g.nodes[b]=R at *;refine sI func165 ntmps165 fun Hb Ht=>?_
 have k1n:=key_lt Hb h1;have k2n:=key_lt Hb h3;repeat first|simp[lO k1n,lO k2n,h1,h3,ha,hb]|refine sR ?_
 refine sD (hc _ _) ?_;repeat first|simp|refine sR ?_
 refine sT (sH Hb Ht ?_);simp
def stPv(t:Ty)(g:Gr)(nb:Nat)(box:Bxs)(tok:Tks)(nt:Nat)(i:Nat):AS :=
 ⟨tl [(12,I i),(11,I g.nodes.length),(10,.d (ints g.nodes)),(3,.ptr (nb+3) 0 0),(2,.ptr (nb+2) 0 0)],lb nb box [(3,[[.d (ints g.nodes),.d (AM.edges g.edges)]]),(2,[[.d (nts t.nodes),.d (ets t.edges)]])],tok,nt⟩
theorem leavesP_c(t:Ty)(ht:t.Fit)(g:Gr)(hg:g.Fit)(htE:tyE t=0)(h0:∀n∈g.nodes,0<=n)(hv:∀e∈g.edges,0<=e.fr/\e.fr<g.nodes.length/\0<=e.to/\e.to<g.nodes.length):DC 89 [t.av,g.av] (B (lvsB t g)):=by
 intro tok nt box nb;have hgn:=hg.n;have hge:=hg.e;have htn:=ht.n;obtain⟨N,hN⟩:∃N,lvsB t g=N:=⟨_,rfl⟩
 rw[hN];unfold lvsB at hN;refine sI func89 ntmps89 fun Hb Ht=>?_
 repeat first|simp|refine sR ?_
 refine sN ?_;refine sL (stPv t g nb box tok nt) (fun i=>i<=g.nodes.length/\allP (lvN t) (g.nodes.take i)=true) (fun i=>g.nodes.length-i) 0 ⟨Nat.zero_le _,by simp[allP]⟩ wkA ?_;rintro i S' ⟨hi,hok⟩ hS;simp only[stPv] at hS;subst hS;have hw:=sW (i:=i) (by omega);repeat first|simp|refine sR ?_|refine sC ?_
 refine⟨fun hlt=>?_,fun hge=>?_⟩
 .have hno:=fun h=>all_no (p:=lvN t) hlt h
  have hyes:=fun h=>all_more (p:=lvN t) hlt hok h
  have hl:lvN t g.nodes[i]=if (t.nodes.length:Int)<=g.nodes[i] then false else leafB t g.nodes[i]:=rfl
  have hc:=below_c t ht g.nodes[i];have hn0:=h0 _ (List.getElem_mem hlt);have hbl:=fun (e1:¬(t.nodes.length:Int)<=g.nodes[i])=>below_leaf hn0 (by omega) (tyE_par htE)
  have hgv:=givE_leaf (t:=t) htE hn0;by_cases e1:(t.nodes.length:Int)<=g.nodes[i]
  .rw[if_pos e1] at hl;rw[hno hl,if_neg (by simp)] at hN;have hR:belR t g.nodes[i]=([],6):=by rw[belR,if_pos (by rw[hgv,if_pos e1];decide),hgv,if_pos e1]
   rw[hR] at hc;repeat first|simp[hlt]|refine sR ?_
   refine sD (hc _ _) ?_;repeat first|simp|refine sR ?_
   refine sC ?_;repeat first|simp|refine sR ?_
   refine sT (sH Hb Ht ?_);simp[<-hN]
  .rw[if_neg e1] at hl;have hbl:=hbl e1;have hR:belR t g.nodes[i]=(belK t g.nodes[i] t.nodes.length,0):=by rw[belR,if_neg (by rw[hgv,if_neg e1];simp)]
   rw[hR] at hc;simp only at hc;generalize belK t g.nodes[i] t.nodes.length=L at *;repeat first|simp[hlt]|refine sR ?_
   refine sD (hc _ _) ?_;repeat first|simp|refine sR ?_
   cases e2:leafB t g.nodes[i]
   .rw[e2] at hl hbl;have e3:(1:Int)<L.length:=by
     have:¬L.length<=1:=fun h=>by simpa using hbl.1 h
     omega
    have e3':1<L.length:=by omega
    rw[hno hl,if_neg (by simp)] at hN;try (simp[e3,e3'])
    repeat (first|(refine sR ?_;simp[e3,e3'])|(refine sC ?_;simp[e3,e3'])|(refine sX ?_;simp only[AU,↓reduceIte]))
    refine sT (sH Hb Ht ?_);simp[<-hN]
   .rw[e2] at hl hbl;have e3:¬(1:Int)<L.length:=by
     have:=hbl.2 rfl
     omega
    have e3':¬1<L.length:=by omega
    try (simp[e3,e3',hw])
    repeat (first|(refine sR ?_;simp[e3,e3',hw])|(refine sC ?_;simp[e3,e3',hw])|(refine sX ?_;simp only[AU,↓reduceIte]))
    refine sE ?_;exact⟨i+1,⟨hlt,hyes hl⟩,by omega,wkA⟩
 .refine sX ?_;simp only[AU,↓reduceIte];have:i=g.nodes.length:=by omega
  subst this;rw[List.take_length] at hok;rw[if_pos hok] at hN;obtain⟨p,hpp⟩:∃p:E->Bool,(fun e=>!lvE t g e)=p:=⟨_,rfl⟩
  have h2:=fun y (hy:y∈g.edges) box nb k1 k2 hk1 hk2=>leavesP1_c t ht g y ⟨(hv y hy).1,(hv y hy).2.1⟩ ⟨(hv y hy).2.2.1,(hv y hy).2.2.2⟩ box nb k1 k2 tok nt hk1 hk2
  have hpy:∀y:E,(!lvE t g y)=p y:=fun y=>by rw[<-hpp]
  simp only[hpy] at h2;have hN2:(!anyB p g.edges)=N:=by
   rw[<-hN,<-hpp,allP,anyB,List.any_eq_not_all_not,Bool.not_not];simp
  repeat first|simp|refine sR ?_
  have hcap:∀c∈[AV.ptr (nb+2) 0 0,AV.ptr (nb+3) 0 0],OkIn (fun k=>(lb nb box [(3,[[.d (ints g.nodes),.d (AM.edges g.edges)]]),(2,[[.d (nts t.nodes),.d (ets t.edges)]])]) k≠none) (fun _=>True) c:=by
   intro c hc;simp only[List.mem_cons,List.not_mem_nil,or_false] at hc;rcases hc with h|h
   .rw[h];simp[lb_at]
   .rw[h];simp[lb_at]
  refine Stop.of_b (containsFuncE_c g.edges 165 [.ptr (nb+2) 0 0,.ptr (nb+3) 0 0] p hg.e _ _ _ _ hcap (fun y hy box' nb' he=>h2 y hy box' nb' _ _ (he _ _ (by simp[lb_at])) (he _ _ (by simp[lb_at])))) ?_;repeat first|simp|refine sR ?_
  refine sT (sH Hb Ht ?_);simp[<-hN2]
theorem validG_nn{g:Gr}(h:vG g=0):∀n∈g.nodes,0<=n:=by
 intro n hn;unfold vG at h;split at h
 .cases h
 .split at h
  .cases h
  .rename_i h1 h2;have:=List.any_eq_false.1 (Bool.not_eq_true _ ▸ h2) n hn
   simp[withinB] at this;omega
theorem givenP_c(t:Ty)(ht:t.Fit)(r:Ru)(hr:r.Fit)(c:Co)(hc:c.Fit):DC 40 [t.av,r.av,c.av] (I (givP t r c)):=by
 intro tok nt box nb;have h1:=valid_c4 t ht ht.hM;have h2:=structuralPc_c r hr;have h3:=validK_c t ht c hc;have hv:=@strR_valid r;have l1:=fun htE (h:vG r.lg=0)=>leavesP_c t ht r.lg hr.lg htE (validG_nn h) (validG_edges h)
 have l2:=fun htE (h:vG r.rg=0)=>leavesP_c t ht r.rg hr.rg htE (validG_nn h) (validG_edges h)
 obtain⟨N,hN⟩:∃N,givP t r c=N:=⟨_,rfl⟩
 rw[hN];unfold givP at hN;generalize tyE t=E at *;generalize tyN t=Z at *;generalize strR r=S at *;refine sI func40 ntmps40 fun Hb Ht=>?_
 repeat first|simp|refine sR ?_
 refine sD (h1 _ _) ?_;repeat first|simp|refine sR ?_
 by_cases e1:E=0
 .rw[if_neg (by simp[e1])] at hN;refine sC ?_;simp[e1];repeat first|simp|refine sR ?_
  refine sD (h2 _ _) ?_;repeat first|simp|refine sR ?_
  by_cases e2:S=0
  .rw[if_neg (by simp[e2])] at hN;obtain⟨v1,v2⟩:=hv e2;refine sC ?_;simp[e2];repeat first|simp|refine sR ?_
   refine sD (l1 e1 v1 _ _) ?_;simp;cases e3:lvsB t r.lg
   .rw[e3,if_neg (by simp)] at hN;repeat first|simp|refine sR ?_
    refine sC ?_;repeat first|simp|refine sR ?_
    refine sT (sH Hb Ht ?_);simp[<-hN]
   .rw[e3,if_pos rfl] at hN;repeat first|simp|refine sR ?_
    refine sD (l2 e1 v2 _ _) ?_;simp;cases e4:lvsB t r.rg
    .rw[e4,if_neg (by simp)] at hN;repeat first|simp|refine sR ?_
     refine sC ?_;repeat first|simp|refine sR ?_
     refine sT (sH Hb Ht ?_);simp[<-hN]
    .rw[e4,if_pos rfl] at hN;repeat first|simp|refine sR ?_
     refine sC ?_;repeat first|simp|refine sR ?_
     refine sD (h3 _ _) ?_;repeat first|simp|refine sR ?_
     refine sT (sH Hb Ht ?_);simp[<-hN]
  .rw[if_pos e2] at hN;have b2:(S != 0)=true:=by simp[e2]
   refine sC ?_;simp[b2];repeat first|simp|refine sR ?_
   refine sT (sH Hb Ht ?_);simp[<-hN]
 .rw[if_pos e1] at hN;have b1:(E != 0)=true:=by simp[e1]
  refine sC ?_;simp[b1];repeat first|simp|refine sR ?_
  refine sT (sH Hb Ht ?_);simp[<-hN]
def stMt(l r k:List Int)(nb:Nat)(box:Bxs)(tok:Tks)(nt:Nat)(i:Nat):AS :=
 ⟨tl [(11,I i),(10,I l.length),(9,.d (ints l)),(1,.d (ints r)),(2,.d (ints k))],lb nb box [],tok,nt⟩
theorem meets_c(l r k:List Int)(hl:l.length<=1000000)(hr:r.length<=1000000)(hk:k.length<=1000000):DC 44 [.d (ints l),.d (ints r),.d (ints k)] (B (meetsB l r k)):=by
 intro tok nt box nb;have c1:=fun v=>contains_c k v hk
 have c2:=fun v=>contains_c r v hr
 obtain⟨N,hN⟩:∃N,meetsB l r k=N:=⟨_,rfl⟩
 rw[hN];refine sI func44 ntmps44 fun Hb Ht=>?_
 repeat first|simp|refine sR ?_
 refine sN ?_;refine sL (stMt l r k nb box tok nt) (fun i=>i<=l.length/\∀j,j<i->hitB l r k j=false) (fun i=>l.length-i) 0 ⟨Nat.zero_le _,fun j h=>absurd h (Nat.not_lt_zero _)⟩ wkA ?_;rintro i S' ⟨hi,hok⟩ hS;simp only[stMt] at hS;subst hS;have hw:=sW (i:=i) (by omega);repeat first|simp|refine sR ?_|refine sC ?_
 refine⟨fun hlt=>?_,fun hge=>?_⟩
 .have hd:hitB l r k i=if decide ((i:Int)∈k)=true then false else decide (l[i]∈r):=by simp[hitB,hlt]
  have hyes:hitB l r k i=true->meetsB l r k=true:=fun h=>meets_yes hlt h
  have hno:hitB l r k i=false->∀j,j<i+1->hitB l r k j=false:=fun h j hj=>by
   rcases Nat.lt_succ_iff_lt_or_eq.1 hj with h1|h1
   .exact hok j h1
   .rw[h1];exact h
  repeat first|simp[hlt]|refine sR ?_
  refine sD (c1 _ _ _) ?_;simp;cases e1:decide ((i:Int)∈k)
  .rw[e1,if_neg (by simp)] at hd;have e1':¬(i:Int)∈k:=by simpa using e1
   repeat first|simp[hlt,e1']|refine sR ?_
   refine sD (c2 _ _ _) ?_;simp;cases e2:decide (l[i]∈r)
   .rw[e2] at hd;have e2':¬l[i]∈r:=by simpa using e2
    try (simp[hw,e2'])
    repeat (first|(refine sR ?_;simp[hw,e2'])|(refine sC ?_;simp[hw,e2'])|(refine sX ?_;simp only[AU,↓reduceIte]))
    refine sE ?_;exact⟨i+1,⟨hlt,hno hd⟩,by omega,wkA⟩
   .rw[e2] at hd;have e2':l[i]∈r:=by simpa using e2
    rw[hyes hd] at hN;try (simp[e2'])
    repeat (first|(refine sR ?_;simp[e2'])|(refine sC ?_;simp[e2'])|(refine sX ?_;simp only[AU,↓reduceIte]))
    refine sT (sH Hb Ht ?_);simp[<-hN]
  .rw[e1,if_pos rfl] at hd;have e1':(i:Int)∈k:=by simpa using e1
   try (simp[hw,e1'])
   repeat (first|(refine sR ?_;simp[hw,e1'])|(refine sC ?_;simp[hw,e1'])|(refine sX ?_;simp only[AU,↓reduceIte]))
   refine sE ?_;exact⟨i+1,⟨hlt,hno hd⟩,by omega,wkA⟩
 .refine sX ?_;simp only[AU,↓reduceIte];have:i=l.length:=by omega
  subst this;rw[meets_no hok] at hN;repeat first|simp|refine sR ?_
  refine sT (sH Hb Ht ?_);simp[<-hN]
def Ru.rowK(r:Ru):List D:=[.raw (.string r.name),ints r.lg.nodes,AM.edges r.lg.edges,slots r.lsl,.raw (.int .i64 r.lv),tests r.lte,ints r.rg.nodes,AM.edges r.rg.edges,slots r.rsl,.raw (.int .i64 r.rv),tests r.rte,
 ints r.k.nodes,ints r.k.edges,ints r.i.nodes,ints r.i.edges,.raw (.bool r.inj),.raw (.int .i64 r.c.kind),conds r.c.kids,ints r.c.m.nodes,ints r.c.m.edges,ints r.c.g.nodes,AM.edges r.c.g.edges,slots r.c.sl,.raw (.int .i64 r.c.vars),tests r.c.te]
theorem ways1_c(r:Ru)(hr:r.Fit)(o:Ov)(ho:o.Fit):DC 43 [o.av,.cptr r.rowK 0] (B (!keepO r o)):=by
 intro tok nt box nb;have c1:=meets_c o.l.nodes o.r.nodes r.i.nodes ho.l.n ho.r.n hr.i.n;have c2:=meets_c o.l.edges o.r.edges r.i.edges ho.l.e ho.r.e hr.i.e;obtain⟨N,hN⟩:∃N,keepO r o=N:=⟨_,rfl⟩
 rw[hN];unfold keepO at hN;refine sI func43 ntmps43 fun Hb Ht=>?_
 repeat first|simp[Ru.rowK]|refine sR ?_
 refine sD (c1 _ _) ?_;simp;cases e1:meetsB o.l.nodes o.r.nodes r.i.nodes
 .rw[e1,if_neg (by simp)] at hN;repeat first|simp[Ru.rowK]|refine sR ?_
  refine sD (c2 _ _) ?_;repeat first|simp|refine sR ?_
  refine sT (sH Hb Ht ?_);simp[<-hN]
 .rw[e1,if_pos rfl] at hN;repeat first|simp|refine sR ?_
  refine sT (sH Hb Ht ?_);simp[<-hN]
structure AccS where
 i:Nat
 out:List Ov
 own:Nat
 tok:Nat->Bool
 nt:Nat
abbrev ovRowS(a b:Gr)(out:List Ov)(own:Nat):List AV:=[.d (ints a.nodes),.d (AM.edges a.edges),.d (ints b.nodes),.d (AM.edges b.edges),.stk own 6 (out.map Ov.cells)]
def QOvS(a b:Gr)(box:Bxs)(nb k:Nat)(tok:Tks)(nt:Nat)(own:Nat)(out:List Ov)(v:AV)(m:AMem):Prop :=
 v=.tup []/\∃own' tok' nt',m=⟨upd box k (some [ovRowS a b out own']),nb,tok',nt'⟩/\Adv tok nt (.tok own) tok' nt' (.tok own')
def st83S(a b:Gr)(nodes es:List Int)(nb k:Nat)(box:Bxs)(x:AccS):AS :=
 ⟨tl [(0,.ptr k 0 0),(1,.d (ints nodes)),(2,.d (ints es)),(7,.ptr (nb+7) 0 0),(78,.d (AM.edges a.edges)),(79,I a.edges.length),(80,I x.i)],
  lb nb (upd box k (some [ovRowS a b x.out x.own])) [(7,[[I (wantE b nodes es).ty,I (wantE b nodes es).fr,I (wantE b nodes es).to]])],x.tok,x.nt⟩
theorem outOkS{a b:Gr}{out:List Ov}{own:Nat}{box:Bxs}{k base:Nat}{p q:Nat->Prop}(hq:q=fun _=>True):∀k' rows,k'<base->(upd box k (some [ovRowS a b out own])) k'=some rows->box k'=some rows∨∀r∈rows,∀x∈r,OkIn p q x:=by
 subst hq;intro k' rows hk' hr;by_cases e:k'=k
 .subst e;rw[uS] at hr;cases hr;exact .inr (by simp)
 .rw[uO _ _ e] at hr;exact .inl hr
theorem edgesS_c(a b:Gr)(nodes:List Int)(h:OvH a b nodes):∀(n:Nat) (es:List Int) (out:List Ov) (own:Nat) (box:Bxs) (nb k:Nat) (tok:Tks) (nt:Nat),es.length+n=b.edges.length ->
  box k=some [ovRowS a b out own]->tok own=true->ACalls prog 175 [.ptr k 0 0,.d (ints nodes),.d (ints es)] ⟨box,nb,tok,nt⟩ (QOvS a b box nb k tok nt own (ovE a b nodes n es out)):=by
 intro n;induction n with
 | zero =>
  intro es out own box nb k tok nt hes hk hlive;have hself:box=upd box k (some [ovRowS a b out own]):=(upd_self box k _ hk).symm
  refine sI func175 ntmps175 fun Hb Ht=>?_
  have hkn:=key_lt Hb hk;refine sR ?_;simp[lO hkn,hk];refine sC ?_;simp;refine⟨fun hbig=>?_,fun hsm=>?_⟩
  .refine sN ?_;refine AL.ret ?_;try simp only[AU]
   refine⟨by simp,(Fin.own (vs:=[]) (av:=.tup []) (by simp[resAs,resA]) Hb rfl (nr _) (by simp)).mono fun v m hq=>⟨hq.1,own,tok,nt,?_,Adv.refl hlive Ht⟩⟩;have hbig':2000<out.length:=by omega
   rw[hq.2,ovE,if_pos hbig',<-hself]
  .have hsm':¬2000<out.length:=by omega
   have hes':es.length=b.edges.length:=by omega
   refine sR ?_;simp[lO hkn,hk];refine sC ?_;simp;refine⟨fun _=>?_,fun hne=>absurd (by omega) hne⟩;have hbe:=h.fb.e;have hbn:=h.fb.n;refine sR ?_;simp[lO hkn,hk];refine sD (glued_c a b nodes es h.fa h.va (by rw[h.n];exact nr _) (by omega) (by rw[h.n];omega) (by omega) (fun i _ h2 _=>h.x _ (List.getElem_mem h2)) _ _) ?_;simp[lO hkn,hk,uL hkn];refine⟨⟨by omega,hlive⟩,?_⟩;refine sN ?_;refine AL.ret ?_;try simp only[AU]
   refine⟨by simp,(Fin.gen (vs:=[]) (av:=.tup []) (tok':=upd (upd tok own false) nt true) (nt':=nt+1) (by simp[resAs,resA]) ?_ (by omega) (nr _) (fun t h=>⟨h,.inl rfl⟩) ?_ (by simp)).mono fun v m hq=>⟨hq.1,nt,upd (upd tok own false) nt true,nt+1,?_,Adv.app hlive Ht⟩⟩
   .rw[<-uL hkn,Hb]
   .intro k' rows hk' hr;by_cases e:k'=k
    .subst e;rw[uS] at hr;cases hr;exact .inr (by simp)
    .rw[uO _ _ e] at hr;exact .inl hr
   .rw[hq.2,ovE,if_neg hsm'];simp[ovRowS]
 | succ n ih =>
  intro es out own box nb k tok nt hes hk hlive;have hself:box=upd box k (some [ovRowS a b out own]):=(upd_self box k _ hk).symm
  have hae:=h.fa.e;have hbe:=h.fb.e;have hbn:=h.fb.n;have hlt:es.length<b.edges.length:=by omega
  obtain⟨x1,x2,x3,x4⟩:=h.x b.edges[es.length] (List.getElem_mem hlt);have y1:b.edges[es.length].fr.toNat<nodes.length:=by omega
  have y2:b.edges[es.length].to.toNat<nodes.length:=by omega
  refine sI func175 ntmps175 fun Hb Ht=>?_
  have hkn:=key_lt Hb hk;refine sR ?_;simp[lO hkn,hk];refine sC ?_;simp;refine⟨fun hbig=>?_,fun hsm=>?_⟩
  .refine sN ?_;refine AL.ret ?_;try simp only[AU]
   refine⟨by simp,(Fin.own (vs:=[]) (av:=.tup []) (by simp[resAs,resA]) Hb rfl (nr _) (by simp)).mono fun v m hq=>⟨hq.1,own,tok,nt,?_,Adv.refl hlive Ht⟩⟩;have hbig':2000<out.length:=by omega
   rw[hq.2,ovE,if_pos hbig',<-hself]
  .have hsm':¬2000<out.length:=by omega
   refine sR ?_;simp[lO hkn,hk];refine sC ?_;simp;refine⟨fun heq=>absurd heq (by omega),fun _=>?_⟩;refine sR ?_;simp[lO hkn,hk,hlt];refine sR ?_;simp[lO hkn,hk,x1,x2,x3,x4,y1,y2];refine sR ?_;simp[lO hkn,hk];refine sD (clone_c es (by omega) _ _) ?_;simp;refine⟨⟨by omega,by simp[uS]⟩,?_⟩;refine Stop.data ?_;simp only[List.map,AV.asD];rw[rI_snoc];have had:=Adv.fresh (own:=.tok own) hlive Ht;refine Stop.of_a (ih (es++[-1]) out own _ _ k _ _ (by simp;omega) (by simp only[lO hkn,hk]) had.live) ?_;rintro v m' ⟨rfl,own1,tok1,nt1,rfl,hadv⟩;simp[uL hkn];have had1:Adv tok nt (.tok own) tok1 nt1 (.tok own1):=had.trans Ht hadv
   clear hadv had;refine sR ?_;simp[lO hkn,uS];refine sN ?_;have hwant:wantE b nodes es=⟨b.edges[es.length].ty,nodes[b.edges[es.length].fr.toNat],nodes[b.edges[es.length].to.toNat]⟩:=by simp[wantE,hlt,y1,y2]
   refine sL (st83S a b nodes es nb k box) (fun x=>x.i<=a.edges.length/\x.out=(List.range x.i).foldl (ovStep a b nodes n es) (ovE a b nodes n (es++[-1]) out)/\Adv tok nt (.tok own) x.tok x.nt (.tok x.own)) (fun x=>a.edges.length-x.i)
    ⟨0,ovE a b nodes n (es++[-1]) out,own1,tok1,nt1⟩ ⟨Nat.zero_le _,rfl,had1⟩ (Weaks.mk' had1.le (by simp[ToL,lk,hwant];exact to_ptr (by rw[lO hkn,uS];simp)) (by simp[BoxL,lk,hwant]) (outOkS rfl)) ?_
   rintro⟨i,out2,own2,tok2,nt2⟩ S ⟨hi,hout,hadv2⟩ hS;simp only[st83S] at hS hi hout hadv2;subst hS;have hw:=sW (i:=i) (by omega);refine sR ?_;simp;refine sC ?_;simp;refine⟨fun hli=>?_,fun hge=>?_⟩
   .refine sR ?_;simp[hli];refine sR ?_;simp[lO hkn,uS];have hfold:(List.range (i+1)).foldl (ovStep a b nodes n es) (ovE a b nodes n (es++[-1]) out)=ovStep a b nodes n es out2 i:=by
     rw[List.range_succ,List.foldl_append,<-hout];rfl
    have hgi:a.edges.getD i default=a.edges[i]:=by simp[hli]
    simp only[E.eq_and];first|refine Gd.dt (fun hE=>?_) (fun hE=>?_)|refine Gd.df (fun hE=>?_) (fun hE=>?_)|refine Gd.t (fun hE=>?_) (fun hE=>?_)|refine Gd.f (fun hE=>?_) (fun hE=>?_)
    .simp[hE];refine sD (contains_c es i (by omega) _ _) ?_;simp[hE];refine sC ?_;simp;refine⟨fun hni=>?_,fun hin=>?_⟩
     .refine sR ?_;simp[lO hkn,uS];refine sD (clone_c es (by omega) _ _) ?_;simp;refine⟨⟨by omega,by simp[uS]⟩,?_⟩;refine Stop.data ?_;simp only[List.map,AV.asD];rw[rI_snoc];have had:=Adv.fresh hadv2.live hadv2.lt;refine Stop.of_a (ih (es++[(i:Int)]) out2 own2 _ _ k _ _ (by simp;omega) (by simp only[lO hkn,uS]) had.live) ?_;rintro v m' ⟨rfl,own3,tok3,nt3,rfl,hadv⟩;simp[uL hkn,upd_upd];have had3:Adv tok nt (.tok own) tok3 nt3 (.tok own3):=hadv2.trans Ht (had.trans hadv2.lt hadv)
      clear hadv had;refine sR ?_;simp[hw];refine sE ?_;refine⟨⟨i+1,ovE a b nodes n (es++[(i:Int)]) out2,own3,tok3,nt3⟩,⟨hli,?_,had3⟩,by simp;omega,Weaks.mk' had3.le (by simp[ToL,lk];exact to_ptr (by rw[lO hkn,uS];simp)) (by simp[BoxL,lk]) (outOkS rfl)⟩;rw[hfold,ovStep,if_pos ⟨by rw[hgi,hE],hni⟩]
     .refine sR ?_;simp[hw];refine sE ?_;refine⟨⟨i+1,out2,own2,tok2,nt2⟩,⟨hli,?_,hadv2⟩,by simp;omega,Weaks.mk' hadv2.le (by simp[ToL,lk];exact to_ptr (by rw[lO hkn,uS];simp)) (by simp[BoxL,lk]) (outOkS rfl)⟩;rw[hfold,ovStep,if_neg (fun hh=>hh.2 hin)]
    .simp[hE];refine sC ?_;simp;refine sR ?_;simp[hw];refine sE ?_;refine⟨⟨i+1,out2,own2,tok2,nt2⟩,⟨hli,?_,hadv2⟩,by simp;omega,Weaks.mk' hadv2.le (by simp[ToL,lk];exact to_ptr (by rw[lO hkn,uS];simp)) (by simp[BoxL,lk]) (outOkS rfl)⟩;rw[hfold,ovStep,if_neg (fun hh=>hE (by rw[<-hgi,hh.1]))]
   .refine sX ?_;simp only[AU,↓reduceIte];have hin:i=a.edges.length:=by omega
    subst hin;refine sE ?_;refine⟨by simp,(Fin.gen (vs:=[]) (av:=.tup []) (tok':=tok2) (nt':=nt2) (by simp[resAs,resA]) ?_ hadv2.le (nr _) (fun t h=>⟨h,.inl rfl⟩) (outOkS (by simp)) (by simp)).mono fun v m hq=>⟨hq.1,own2,tok2,nt2,?_,hadv2⟩⟩
    .rw[<-uL hkn,Hb]
    .rw[hq.2,ovE,if_neg hsm',hout];rfl
def st43S(a b:Gr)(l:List Int)(nb k:Nat)(box:Bxs)(x:AccS):AS :=
 ⟨tl [(0,.ptr k 0 0),(1,.d (ints l)),(34,.d (ints a.nodes)),(35,I a.nodes.length),(36,I x.i)],
  lb nb (upd box k (some [ovRowS a b x.out x.own])) [],x.tok,x.nt⟩
theorem nodesS_c(a b:Gr)(h:NoH a b):∀(n:Nat) (l:List Int) (out:List Ov) (own:Nat) (box:Bxs) (nb k:Nat) (tok:Tks) (nt:Nat),l.length+n=b.nodes.length ->
  box k=some [ovRowS a b out own]->tok own=true->ACalls prog 92 [.ptr k 0 0,.d (ints l)] ⟨box,nb,tok,nt⟩ (QOvS a b box nb k tok nt own (ovN a b n l out)):=by
 intro n;induction n with
 | zero =>
  intro l out own box nb k tok nt hl hk hlive;have hself:box=upd box k (some [ovRowS a b out own]):=(upd_self box k _ hk).symm
  refine sI func92 ntmps92 fun Hb Ht=>?_
  have hkn:=key_lt Hb hk;refine sR ?_;simp[lO hkn,hk];refine sC ?_;simp;refine⟨fun hbig=>?_,fun hsm=>?_⟩
  .refine sN ?_;refine AL.ret ?_;try simp only[AU]
   refine⟨by simp,(Fin.own (vs:=[]) (av:=.tup []) (by simp[resAs,resA]) Hb rfl (nr _) (by simp)).mono fun v m hq=>⟨hq.1,own,tok,nt,?_,Adv.refl hlive Ht⟩⟩;have hbig':2000<out.length:=by omega
   rw[hq.2,ovN,if_pos hbig',<-hself]
  .have hsm':¬2000<out.length:=by omega
   have hl':l.length=b.nodes.length:=by omega
   refine sR ?_;simp[lO hkn,hk];refine sC ?_;simp;refine⟨fun _=>?_,fun hne=>absurd (by omega) hne⟩;have hbe:=h.fb.e;have hbn:=h.fb.n;refine sR ?_;simp[lO hkn,hk];refine Stop.sub (args':=[.ptr k 0 0,.d (ints l),.d (ints [])]) ⟨Sub.refl _,Sub.refl _,Sub.nil _ _ _,trivial⟩ ?_;refine Stop.of_a (edgesS_c a b l ⟨h.fa,h.va,h.fb,hl',by rw[hl'];exact h.x⟩ b.edges.length [] out own _ _ k _ _ (by simp) (by simp only[lO hkn,hk]) hlive) ?_;rintro v m' ⟨rfl,own1,tok1,nt1,rfl,hadv⟩;simp[uL hkn];refine sN ?_;refine AL.ret ?_;try simp only[AU]
   refine⟨by simp,(Fin.gen (vs:=[]) (av:=.tup []) (tok':=tok1) (nt':=nt1) (by simp[resAs,resA]) ?_ hadv.le (nr _) (fun t h=>⟨h,.inl rfl⟩) (outOkS (by simp)) (by simp)).mono fun v m hq=>⟨hq.1,own1,tok1,nt1,?_,hadv⟩⟩
   .rw[<-uL hkn,Hb]
   .rw[hq.2,ovN,if_neg hsm']
 | succ n ih =>
  intro l out own box nb k tok nt hl hk hlive;have hself:box=upd box k (some [ovRowS a b out own]):=(upd_self box k _ hk).symm
  have han:=h.fa.n;have hbn:=h.fb.n;have hlt:l.length<b.nodes.length:=by omega
  refine sI func92 ntmps92 fun Hb Ht=>?_
  have hkn:=key_lt Hb hk;refine sR ?_;simp[lO hkn,hk];refine sC ?_;simp;refine⟨fun hbig=>?_,fun hsm=>?_⟩
  .refine sN ?_;refine AL.ret ?_;try simp only[AU]
   refine⟨by simp,(Fin.own (vs:=[]) (av:=.tup []) (by simp[resAs,resA]) Hb rfl (nr _) (by simp)).mono fun v m hq=>⟨hq.1,own,tok,nt,?_,Adv.refl hlive Ht⟩⟩;have hbig':2000<out.length:=by omega
   rw[hq.2,ovN,if_pos hbig',<-hself]
  .have hsm':¬2000<out.length:=by omega
   refine sR ?_;simp[lO hkn,hk];refine sC ?_;simp;refine⟨fun heq=>absurd heq (by omega),fun _=>?_⟩;refine sR ?_;simp[lO hkn,hk];refine sD (clone_c l (by omega) _ _) ?_;simp;refine⟨⟨by omega,by simp[uS]⟩,?_⟩;refine Stop.data ?_;simp only[List.map,AV.asD];rw[rI_snoc];have had:=Adv.fresh (own:=.tok own) hlive Ht;refine Stop.of_a (ih (l++[-1]) out own _ _ k _ _ (by simp;omega) (by simp only[lO hkn,hk]) had.live) ?_;rintro v m' ⟨rfl,own1,tok1,nt1,rfl,hadv⟩;simp[uL hkn];have had1:Adv tok nt (.tok own) tok1 nt1 (.tok own1):=had.trans Ht hadv
   clear hadv had;refine sR ?_;simp[lO hkn,uS];refine sN ?_;refine sL (st43S a b l nb k box) (fun x=>x.i<=a.nodes.length/\x.out=(List.range x.i).foldl (ovStepN a b (ovN a b n) l) (ovN a b n (l++[-1]) out)/\Adv tok nt (.tok own) x.tok x.nt (.tok x.own)) (fun x=>a.nodes.length-x.i)
    ⟨0,ovN a b n (l++[-1]) out,own1,tok1,nt1⟩ ⟨Nat.zero_le _,rfl,had1⟩ (Weaks.mk' had1.le (by simp[ToL,lk];exact to_ptr (by rw[lO hkn,uS];simp)) (by simp[BoxL,lk]) (outOkS rfl)) ?_
   rintro⟨i,out2,own2,tok2,nt2⟩ S ⟨hi,hout,hadv2⟩ hS;simp only[st43S] at hS hi hout hadv2;subst hS;have hw:=sW (i:=i) (by omega);refine sR ?_;simp;refine sC ?_;simp;refine⟨fun hli=>?_,fun hge=>?_⟩
   .refine sR ?_;simp[hli];refine sR ?_;simp[lO hkn,uS,hlt];have hfold:(List.range (i+1)).foldl (ovStepN a b (ovN a b n) l) (ovN a b n (l++[-1]) out)=ovStepN a b (ovN a b n) l out2 i:=by
     rw[List.range_succ,List.foldl_append,<-hout];rfl
    have hgi:a.nodes.getD i 0=a.nodes[i]:=by simp[hli]
    have hgl:b.nodes.getD l.length 0=b.nodes[l.length]:=by simp[hlt]
    simp only[beqD];first|refine Gd.dt (fun hE=>?_) (fun hE=>?_)|refine Gd.df (fun hE=>?_) (fun hE=>?_)|refine Gd.t (fun hE=>?_) (fun hE=>?_)|refine Gd.f (fun hE=>?_) (fun hE=>?_)
    .simp[hE];refine sD (contains_c l i (by omega) _ _) ?_;simp[hE];refine sC ?_;simp;refine⟨fun hni=>?_,fun hin=>?_⟩
     .refine sR ?_;simp[lO hkn,uS];refine sD (clone_c l (by omega) _ _) ?_;simp;refine⟨⟨by omega,by simp[uS]⟩,?_⟩;refine Stop.data ?_;simp only[List.map,AV.asD];rw[rI_snoc];have had:=Adv.fresh hadv2.live hadv2.lt;refine Stop.of_a (ih (l++[(i:Int)]) out2 own2 _ _ k _ _ (by simp;omega) (by simp only[lO hkn,uS]) had.live) ?_;rintro v m' ⟨rfl,own3,tok3,nt3,rfl,hadv⟩;simp[uL hkn,upd_upd];have had3:Adv tok nt (.tok own) tok3 nt3 (.tok own3):=hadv2.trans Ht (had.trans hadv2.lt hadv)
      clear hadv had;refine sR ?_;simp[hw];refine sE ?_;refine⟨⟨i+1,ovN a b n (l++[(i:Int)]) out2,own3,tok3,nt3⟩,⟨hli,?_,had3⟩,by simp;omega,Weaks.mk' had3.le (by simp[ToL,lk];exact to_ptr (by rw[lO hkn,uS];simp)) (by simp[BoxL,lk]) (outOkS rfl)⟩;rw[hfold,ovStepN,if_pos ⟨by rw[hgi,hgl,hE],hni⟩]
     .refine sR ?_;simp[hw];refine sE ?_;refine⟨⟨i+1,out2,own2,tok2,nt2⟩,⟨hli,?_,hadv2⟩,by simp;omega,Weaks.mk' hadv2.le (by simp[ToL,lk];exact to_ptr (by rw[lO hkn,uS];simp)) (by simp[BoxL,lk]) (outOkS rfl)⟩;rw[hfold,ovStepN,if_neg (fun hh=>hh.2 hin)]
    .simp[hE];refine sC ?_;simp;refine sR ?_;simp[hw];refine sE ?_;refine⟨⟨i+1,out2,own2,tok2,nt2⟩,⟨hli,?_,hadv2⟩,by simp;omega,Weaks.mk' hadv2.le (by simp[ToL,lk];exact to_ptr (by rw[lO hkn,uS];simp)) (by simp[BoxL,lk]) (outOkS rfl)⟩;rw[hfold,ovStepN,if_neg (fun hh=>hE (by rw[<-hgi,hh.1,hgl]))]
   .refine sX ?_;simp only[AU,↓reduceIte];have hin:i=a.nodes.length:=by omega
    subst hin;refine sE ?_;refine⟨by simp,(Fin.gen (vs:=[]) (av:=.tup []) (tok':=tok2) (nt':=nt2) (by simp[resAs,resA]) ?_ hadv2.le (nr _) (fun t h=>⟨h,.inl rfl⟩) (outOkS (by simp)) (by simp)).mono fun v m hq=>⟨hq.1,own2,tok2,nt2,?_,hadv2⟩⟩
    .rw[<-uL hkn,Hb]
    .rw[hq.2,ovN,if_neg hsm',hout]
def QOl(a b:Gr)(box:Bxs)(nb:Nat)(tok:Tks)(nt:Nat)(v:AV)(m:AMem):Prop :=
 ((oR a b).2≠0/\v=.tup [.osl 0 [] .full,I (oR a b).2]/\m=⟨box,nb,tok,nt⟩) ∨
 ((oR a b).2=0/\∃t tok' nt',v=.tup [.stk t 6 ((oR a b).1.map Ov.cells),I 0]/\m=⟨box,nb,tok',nt'⟩/\(∀s,tok s=true->tok' s=true/\s≠t)/\nt<=nt'/\tok' t=true/\∀s,tok' s=true->s<nt')
theorem overlapsS_c(a b:Gr)(ha:a.Fit)(hb:b.Fit)(box:Bxs)(nb:Nat)(tok:Tks)(nt:Nat):ACalls prog 41 [a.av,b.av] ⟨box,nb,tok,nt⟩ (QOl a b box nb tok nt):=by
 have han:=ha.n;have hae:=ha.e;have hbn:=hb.n;have hbe:=hb.e;refine sI func41 ntmps41 fun Hb Ht=>?_
 refine sR ?_;simp;refine sR ?_;simp;refine⟨rfl,?_⟩;refine sN ?_;refine sL (st13 a b nb box tok nt) (inv13 a b) mu13 0 ⟨by omega,by omega,by omega⟩ wkA ?_;rintro i S ⟨hi,h0,h1⟩ hS;simp only[st13] at hS;subst hS;refine sR ?_;simp;refine sC ?_;simp;have h012:i=0∨i=1∨i=2:=by omega
 rcases h012 with rfl|rfl|rfl
 .simp;refine sR ?_;simp;refine sR ?_;simp;refine sD (graphValid_c a ha _ _) ?_;simp;by_cases hv:vG a=0
  .refine sR ?_;simp[hv];refine sC ?_;simp;refine sR ?_;simp[show IntKind.i64.wrap 1=1 from rfl];refine sE ?_;refine⟨1,⟨by omega,fun _=>hv,by omega⟩,by decide,wkA⟩
  .refine sR ?_;simp;refine sC ?_;simp[hv];refine sR ?_;simp;have hR:oR a b=([],vG a):=by simp[oR,hv]
   refine sN ?_;refine AL.ret ?_;try simp only[AU]
   refine⟨by simp,(Fin.data (av:=.tup [.osl 0 [] .full,I (vG a)]) (by simp[resAs,resA];rfl) Hb rfl Ht (fun _ h=>h) (nr _) (by simp)).mono fun v m hq=>.inl ⟨by rw[hR];first|assumption|decide,by rw[hR,hq.1],hq.2⟩⟩
 .simp;have h0:vG a=0:=h0 (by omega)
  refine sR ?_;simp;refine sR ?_;simp;refine sD (graphValid_c b hb _ _) ?_;simp;by_cases hv:vG b=0
  .refine sR ?_;simp[hv];refine sC ?_;simp;refine sR ?_;simp[show IntKind.i64.wrap 2=2 from rfl];refine sE ?_;refine⟨2,⟨by omega,fun _=>h0,fun _=>hv⟩,by decide,wkA⟩
  .refine sR ?_;simp;refine sC ?_;simp[hv];refine sR ?_;simp;have hR:oR a b=([],vG b):=by simp[oR,hv,h0]
   refine sN ?_;refine AL.ret ?_;try simp only[AU]
   refine⟨by simp,(Fin.data (av:=.tup [.osl 0 [] .full,I (vG b)]) (by simp[resAs,resA];rfl) Hb rfl Ht (fun _ h=>h) (nr _) (by simp)).mono fun v m hq=>.inl ⟨by rw[hR];first|assumption|decide,by rw[hR,hq.1],hq.2⟩⟩
 .simp;refine sX ?_;simp only[AU,↓reduceIte];have hva:vG a=0:=h0 (by omega)
  have hvb:vG b=0:=h1 (by omega)
  have hw1:IntKind.i64.wrap (↑a.nodes.length+↑b.nodes.length)=(a.nodes.length:Int)+b.nodes.length:=wrap_in (by omega) (by omega)
  have hw2:IntKind.i64.wrap (↑a.edges.length+↑b.edges.length)=(a.edges.length:Int)+b.edges.length:=wrap_in (by omega) (by omega)
  have big:(40<a.nodes.length+b.nodes.length∨80<a.edges.length+b.edges.length)->∀{l loc},Fin prog ⟨nb,nb+58,58,box⟩ nt [ResultVar.tmp 4,ResultVar.tmp 5] (QOl a b box nb tok nt)
    ⟨tl ((5,I 3)::(4,.osl 0 [] .full)::l),lb nb box loc,tok,nt⟩:=fun hbig {l loc}=>by
   have hR:oR a b=([],3):=by simp[oR,hva,hvb,hbig]
   exact(Fin.data (av:=.tup [.osl 0 [] .full,I 3]) (by simp[resAs,resA];rfl) Hb rfl Ht (fun _ h=>h) (nr _) (by simp)).mono fun v m hq=>.inl ⟨by rw[hR];first|assumption|decide,by rw[hR,hq.1],hq.2⟩
  refine sR ?_;simp[hw1,hw2];first|refine Gd.dt (fun hs1=>?_) (fun hs1=>?_)|refine Gd.df (fun hs1=>?_) (fun hs1=>?_)|refine Gd.t (fun hs1=>?_) (fun hs1=>?_)|refine Gd.f (fun hs1=>?_) (fun hs1=>?_)
  .simp[hs1,hw1,hw2];refine sC ?_;simp;refine sR ?_;simp;refine sN ?_;refine AL.ret ?_;try simp only[AU]
   exact⟨by simp,big (by omega)⟩
  .simp[hs1,hw1,hw2];refine sC ?_;simp;refine⟨fun hs2=>?_,fun hs2=>?_⟩
   .refine sR ?_;simp;refine sN ?_;refine AL.ret ?_;try simp only[AU]
    exact⟨by simp,big (by omega)⟩
   .have hsm:¬(40<a.nodes.length+b.nodes.length∨80<a.edges.length+b.edges.length):=by omega
    refine sR ?_;simp;refine AL.weak (wM (l':=[(9,.ptr (nb+45) 0 0)]) (loc':=[(45,[ovRow a b [] .full])]) (nr _) rfl (by simp[ToL,lk]) (by simp[BoxL,lk])) ?_;refine AL.trans (Trans.opn (l':=[(9,.ptr (nb+45) 0 0)]) (loc':=[(45,[ovRowS a b [] nt])]) 6 (by simp[CvL]) ⟨rfl,cvRs_one (cvR_cons .same (cvR_cons .same (cvR_cons .same (cvR_cons .same (cvR_cons .nil cvR_nil))))),trivial⟩) ?_;refine sR ?_;simp;refine Stop.sub (args':=[.ptr (nb+45) 0 0,.d (ints [])]) ⟨Sub.refl _,Sub.nil _ _ _,trivial⟩ ?_;refine Stop.of_a (nodesS_c a b ⟨ha,hva,hb,validG_edges hvb⟩ b.nodes.length [] [] nt _ _ (nb+45) _ _ (by simp) (by simp) (uS _ _ _)) ?_;rintro v m' ⟨rfl,own1,tok1,nt1,rfl,hadv⟩;have hadv:Adv (upd tok nt true) (nt+1) (.tok nt) tok1 nt1 (.tok own1):=hadv
    simp;refine sR ?_;simp;refine sC ?_;simp;have hkeep:∀t,tok t=true->tok1 t=true:=fun t ht=>by
     have h1:=Ht t ht;exact hadv.keep t (by rw[uO _ _ (by omega)];exact ht) (by intro e;cases e;omega)
    have hne:∀t,tok t=true->t≠own1:=fun t ht e=>by
     have h1:=Ht t ht;rcases hadv.new with e2|⟨s,e2,hs⟩
     .cases e2;omega
     .cases e2;omega
    have hle:=hadv.le;have hlv:tok1 own1=true:=hadv.live
    have hlt:=hadv.lt;refine⟨fun hmany=>?_,fun hfew=>?_⟩
    .have hR:oR a b=([],3):=by
      have:2000<(ovN a b b.nodes.length [] []).length:=by omega
      simp[oR,hva,hvb,hsm,this]
     refine sR ?_;simp;refine sN ?_;refine AL.ret ?_;try simp only[AU]
     exact⟨by simp,(Fin.data (av:=.tup [.osl 0 [] .full,I 3]) (by simp[resAs,resA];rfl) Hb rfl Ht hkeep (by omega) (by simp)).mono fun v m hq=>.inl ⟨by rw[hR];first|assumption|decide,by rw[hR,hq.1],hq.2⟩⟩
    .have hR:oR a b=(ovN a b b.nodes.length [] [],0):=by
      have:¬2000<(ovN a b b.nodes.length [] []).length:=by omega
      simp[oR,hva,hvb,hsm,this]
     refine sR ?_;simp;refine sN ?_;refine AL.ret ?_;try simp only[AU]
     exact⟨by simp,(Fin.gen (av:=.tup [.stk own1 6 ((ovN a b b.nodes.length [] []).map Ov.cells),I 0]) (tok':=tok1) (nt':=nt1) (by simp[resAs,resA];rfl) Hb (by omega) (nr _) (fun t h=>⟨h,.inl rfl⟩) (fun k rows _ h=>.inl h) (by simp)).mono fun v m hq=>.inr ⟨by rw[hR],own1,tok1,nt1,by rw[hR,hq.1],hq.2,fun s hs=>⟨hkeep s hs,hne s hs⟩,by omega,hlv,hlt⟩⟩
def rowsO(ys:List Ov):List (List AV):=rowsD (ys.map Ov.cells)
theorem rowsO_get{ys:List Ov}{i:Nat}(h:i<ys.length)(R:List (List AV)):(rowsO ys++R)[i]?=some [.d (ints ys[i].g.nodes),.d (AM.edges ys[i].g.edges),.d (ints ys[i].l.nodes),.d (ints ys[i].l.edges),.d (ints ys[i].r.nodes),.d (ints ys[i].r.edges)]:=by
 rw[List.getElem?_append_left (by simp[rowsO,rowsD];exact h)];simp[rowsO,rowsD,h]
theorem rowsO_set(ys:List Ov)(i:Nat)(h:i<ys.length)(o:Ov)(R:List (List AV)):(rowsO ys++R).set i [.d (ints o.g.nodes),.d (AM.edges o.g.edges),.d (ints o.l.nodes),.d (ints o.l.edges),.d (ints o.r.nodes),.d (ints o.r.edges)]=rowsO (ys.set i o)++R:=by
 rw[List.set_append_left _ _ (by simp[rowsO,rowsD];exact h)];simp[rowsO,rowsD,List.map_set]
theorem rowsO_len(ys:List Ov):(rowsO ys).length=ys.length:=by simp[rowsO]
structure DelS where
 j:Nat
 i:Nat
 ys:List Ov
structure DelOk (xs:List Ov) (p:Ov->Bool) (x:DelS):Prop where
 ij:x.i<x.j
 jn:x.j<=xs.length
 len:x.ys.length=xs.length
 tk:x.ys.take x.i=(xs.take x.j).filter fun o=>!p o
 dr:x.ys.drop x.j=xs.drop x.j
theorem DelOk.at{xs:List Ov}{p:Ov->Bool}{x:DelS}(h:DelOk xs p x)(hj:x.j<xs.length):x.ys[x.j]'(by rw[h.len];exact hj)=xs[x.j]:=by
 have h1:x.ys[x.j]'(by rw[h.len];exact hj)=(x.ys.drop x.j)[0]'(by simp[h.len];omega):=by simp
 have h2:xs[x.j]=(xs.drop x.j)[0]'(by simp;omega):=by simp
 rw[h1,h2];simp only[h.dr]
theorem DelOk.skip{xs:List Ov}{p:Ov->Bool}{j i:Nat}{ys:List Ov}(h:DelOk xs p ⟨j,i,ys⟩)(hj:j<xs.length)(hp:p xs[j]=true):DelOk xs p ⟨j+1,i,ys⟩:=by
 obtain⟨h1,h2,h3,h4,h5⟩:=h;simp only at h1 h2 h3 h4 h5;refine⟨by simp only;omega,hj,h3,?_,?_⟩
 .simp only;rw[h4,<-List.take_append_getElem hj,List.filter_append];simp[hp]
 .simp only;rw[<-List.drop_drop,<-List.drop_drop,h5]
theorem DelOk.put{xs:List Ov}{p:Ov->Bool}{j i:Nat}{ys:List Ov}(h:DelOk xs p ⟨j,i,ys⟩)(hj:j<xs.length)(hp:p xs[j]=false):DelOk xs p ⟨j+1,i+1,ys.set i xs[j]⟩:=by
 obtain⟨h1,h2,h3,h4,h5⟩:=h;simp only at h1 h2 h3 h4 h5;refine⟨by simp only;omega,hj,by simp[h3],?_,?_⟩
 .simp only;have hi:i<(ys.set i xs[j]).length:=by simp;omega
  rw[<-List.take_append_getElem hi,<-List.take_append_getElem hj,List.filter_append,<-h4];simp[hp,List.take_set_of_le]
 .simp only;rw[List.drop_set_of_lt (by omega),<-List.drop_drop,<-List.drop_drop,h5]
theorem DelOk.end{xs:List Ov}{p:Ov->Bool}{i:Nat}{ys:List Ov}(h:DelOk xs p ⟨xs.length,i,ys⟩):ys.take i=xs.filter fun o=>!p o:=by
 have:=h.tk
 simpa using this
theorem DelOk.start{xs:List Ov}{p:Ov->Bool}(h:xs.any p=true):DelOk xs p ⟨xs.findIdx p+1,xs.findIdx p,xs⟩:=by
 have hlt:xs.findIdx p<xs.length:=by
  rw[List.findIdx_lt_length];simpa using h
 refine⟨Nat.lt_succ_self _,hlt,rfl,?_,rfl⟩;simp only;rw[<-List.take_append_getElem hlt,List.filter_append];have h1:p xs[xs.findIdx p]=true:=List.findIdx_getElem (w:=hlt)
 have h2:(xs.take (xs.findIdx p)).filter (fun o=>!p o)=xs.take (xs.findIdx p):=by
  refine List.filter_eq_self.2 fun a ha=>?_
  obtain⟨q,hq,rfl⟩:=List.getElem_of_mem ha;rw[List.getElem_take];have:=List.not_of_lt_findIdx (p:=p) (xs:=xs) (i:=q) (by simp at hq;omega)
  simpa using this
 rw[h2];simp[h1]
def stDf(n k:Nat)(f:FuncId)(nb:Nat)(box:Bxs)(tok:Tks)(nt:Nat)(R:List (List AV))(x:DelS):AS :=
 ⟨tl [(0,.msl (nb+8) 0 n 6),(1,.fn (.func f) [.ptr k 0 0]),(5,I x.i),(6,I x.j)],lb nb box [(8,rowsO x.ys++R)],tok,nt⟩
theorem deleteFuncO_c(xs:List Ov)(f:FuncId)(p:Ov->Bool)(hx:xs.length<=1000000)(row:List AV)(ds:List D)(k t:Nat)(box:Bxs)(nb:Nat)(tok:Tks)(nt:Nat)(hk:box k=some [row])(hcd:∀tok,CellDs tok row ds)(ht:tok t=true)(hf:∀x∈xs,∀tok nt,DCall prog f [x.av,.cptr ds 0] tok nt (B (p x)) tok nt):
  ACalls prog 42 [.stk t 6 (xs.map Ov.cells),.fn (.func f) [.ptr k 0 0]] ⟨box,nb,tok,nt⟩ fun v m=>v=.d (ovs (xs.filter fun x=>!p x))/\m=⟨box,nb,upd tok t false,nt⟩:=by
 have hix:∀tok,DCall prog 93 [.d (ovs xs),.fn (.func f) [.cptr ds 0]] tok nt (I (findI p xs)) tok nt:=fun tok box nb =>
  indexFuncO_c xs f [.cptr ds 0] p hx box nb tok nt (fun c hc=>by rw[List.mem_singleton.1 hc];exact .cptr) (fun x hx box' nb' _=>hf x hx tok nt box' nb')
 refine sI func42 ntmps42 fun Hb Ht=>?_
 have kn:=key_lt Hb hk;repeat first|simp|refine sR ?_
 refine Stop.of_r (RCall.lends rfl hix ⟨.stk ht,.fn1 (.ptr (by simp[lO kn,hk]) (hcd _)),trivial⟩) ?_;repeat first|simp|refine sR ?_
 by_cases hn:findI p xs = -1
 .have hb:(findI p xs == -1)=true:=by simp[hn]
  refine AL.stkD t ht ?_;simp only[List.map_cons,List.map_nil,AV.sdT,↓reduceIte];refine sC ?_;simp[hb];have hfl:(xs.filter fun x=>!p x)=xs:=by
   refine List.filter_eq_self.2 fun x hx'=>?_
   by_cases hany:xs.any p=true
   .simp only[findI,hany,↓reduceIte] at hn;omega
   .have:=List.any_eq_false.1 (by simpa using hany) x hx'
    simpa using this
  repeat first|simp|refine sR ?_
  refine sT ?_;try simp only[AU]
  refine⟨by simp,(Fin.gen (av:=.d (ovs xs)) (tok':=upd tok t false) (nt':=nt) (by simp[resAs,resA,lk];rfl) Hb (nr _) (nr _) (fun t ht=>⟨ht,.inl rfl⟩) (fun k rows _ h=>.inl h) (by simp)).mono fun v m hq=>?_⟩;rw[hfl];exact hq
 .have hany:xs.any p=true:=by
   by_cases h:xs.any p=true
   .exact h
   .exact absurd (by simp[findI,h]) hn
  have hne:xs.map Ov.cells≠[]:=by
   intro h;have:xs=[]:=by simpa using h
   rw[this] at hany;cases hany
  have hb:(findI p xs == -1)=false:=by simp[hn]
  have hfi:findI p xs=(xs.findIdx p:Nat):=by simp[findI,hany]
  refine sC ?_;simp[hb];refine AL.thawS (l':=[(12,.bot),(11,.bot),(5,I (findI p xs)),(10,.bot),(9,.bot),(8,.bot),(4,.bot),(0,.msl (nb+8) 0 xs.length 6),(1,.fn (.func f) [.ptr k 0 0])]) (loc':=[]) t 8 6 (xs.map Ov.cells) 0 rfl (show (8:Nat)<42 by decide) rfl ht hne rfl ?_ trivial ?_
  .simp[CvL]
  intro m;have hst:=DelOk.start hany;rw[hfi];generalize xs.findIdx p=i0 at *;generalize hRm:List.replicate m (List.replicate 6 AV.bot)=R;have hbt:∀t',upd tok t false t'=true->upd tok t false t'=true:=fun _ h=>h
  have hw0:IntKind.i64.wrap (↑i0+1)=((i0+1:Nat):Int):=by rw[wrap_in (by omega) (by have:=hst.jn;simp only at this;omega)];rfl
  have hfn:∀(loc:List (Nat × List (List AV))) (fz:Option (Nat × Nat × List (List D))),To (fun k=>lb nb box loc k≠none) (fun _=>True) fz (.fn (.func f) [.ptr k 0 0]) (.fn (.func f) [.ptr k 0 0]):=fun loc fz=>.same (okFn (fun c hc=>by rw[List.mem_singleton.1 hc];simp[hk]) Hb loc rfl rfl _)
  have hro:∀(ys:List Ov) (p q:Nat->Prop) (fz:Option (Nat × Nat × List (List D))),RowsTo p q fz (rowsO ys++R) (rowsO ys++R):=fun ys p q fz=>rowsTo_same fun r hr x hx=>by
   rcases List.mem_append.1 hr with hr|hr
   .obtain⟨e,_,rfl⟩:=List.mem_map.1 hr;obtain⟨d,_,rfl⟩:=List.mem_map.1 hx;exact .d
   .rw[<-hRm] at hr;rw[List.eq_of_mem_replicate hr] at hx;rw[List.eq_of_mem_replicate hx];exact .bot
  repeat first|simp[hw0]|refine sR ?_
  refine sN ?_;refine sL (stDf xs.length k f nb box (upd tok t false) nt R) (DelOk xs p) (fun x=>xs.length-x.j) ⟨i0+1,i0,xs⟩ hst (wM (nr _) rfl (by simp[ToL,lk,lb_at];exact hfn _ _) (by simp only[BoxL,lk_cons,↓reduceIte,and_true];exact⟨_,rfl,hro _ _ _ _⟩)) ?_;rintro⟨j,i,ys⟩ S hok hS;simp only[stDf] at hS;subst hS;have h1:=hok.ij;have h2:=hok.jn;have h3:=hok.len;simp only at h1 h2 h3;have hwj:=sW (i:=j) (by omega);have hwi:=sW (i:=i) (by omega);repeat first|simp|refine sR ?_|refine sC ?_
  refine⟨fun hlt=>?_,fun hge=>?_⟩
  .have hat:=hok.at hlt;simp only at hat;have hys:j<ys.length:=by omega
   have hyi:i<ys.length:=by omega
   have hget:=rowsO_get hys R;have hgi:=rowsO_get hyi R;have hset:=rowsO_set ys i hyi xs[j] R;have hsk:=fun h=>hok.skip hlt h
   have hpt:=fun h=>hok.put hlt h
   have hdel:=hf xs[j] (List.getElem_mem hlt);rw[hat] at hget;generalize xs[j]=x at *;repeat first|simp[hlt,hget]|refine sR ?_
   refine Stop.of_r (RCall.lends rfl (fun tok=>hdel tok nt) ⟨.same (by simp),.ptr (by simp[lO kn,hk]) (hcd _),trivial⟩) ?_;simp;cases hp:p x
   .repeat first|simp[hgi,hset,hwi,hwj]|refine sR ?_|refine sC ?_
    refine⟨by omega,?_⟩;repeat first|simp[hwi,hwj]|refine sR ?_
    refine sE ?_;exact⟨⟨j+1,i+1,ys.set i x⟩,hpt hp,by simp only;omega,wM (nr _) rfl (by simp[ToL,lk,lb_at];exact hfn _ _) (by simp only[BoxL,lk_cons,↓reduceIte,and_true];exact⟨_,rfl,hro _ _ _ _⟩)⟩
   .repeat first|simp[hwj]|refine sR ?_|refine sC ?_
    refine sE ?_;exact⟨⟨j+1,i,ys⟩,hsk hp,by simp only;omega,wM (nr _) rfl (by simp[ToL,lk,lb_at];exact hfn _ _) (by simp only[BoxL,lk_cons];simp;exact hro _ _ _ _)⟩
  .refine sX ?_;simp only[AU,↓reduceIte];have hj:j=xs.length:=by omega
   subst hj;have hend:=hok.end;have hil:i<xs.length:=by omega
   repeat first|simp[hil]|refine sR ?_
   refine⟨by omega,by rw[rowsO_len];omega,?_⟩;have hcut:List.take i (rowsO ys++R)=rowsO (ys.take i):=by
    rw[List.take_append_of_le_length (by rw[rowsO_len];omega)];simp[rowsO,rowsD,List.map_take]
   rw[hcut];obtain⟨rest,hrest⟩:∃rest,(List.replicate (xs.length-i) [AV.osl 0 [] .full,AV.osl 0 [] .full,AV.osl 0 [] .full,AV.osl 0 [] .full,AV.osl 0 [] .full,AV.osl 0 [] .full]++List.drop (i+(xs.length-i)) (rowsO ys++R))=rest:=⟨_,rfl⟩
   rw[hrest];have hrr:∀(p:Nat->Prop) (fz:Option (Nat × Nat × List (List D))),RowsTo p (fun _=>True) fz (rowsO (ys.take i)++rest) (rowsO (ys.take i)++rest):=fun p fz=>rowsTo_same fun r hr x hx=>by
    rcases List.mem_append.1 hr with hr|hr
    .obtain⟨e,_,rfl⟩:=List.mem_map.1 hr;obtain⟨d,_,rfl⟩:=List.mem_map.1 hx;exact .d
    .rw[<-hrest] at hr;rcases List.mem_append.1 hr with hr|hr
     .rw[List.eq_of_mem_replicate hr] at hx;simp at hx;rw[hx];exact .osl fun _ _=>trivial
     .rcases List.mem_append.1 (List.mem_of_mem_drop hr) with hr|hr
      .obtain⟨e,_,rfl⟩:=List.mem_map.1 hr;obtain⟨d,_,rfl⟩:=List.mem_map.1 hx;exact .d
      .rw[<-hRm] at hr;rw[List.eq_of_mem_replicate hr] at hx;rw[List.eq_of_mem_replicate hx];exact .bot
   have hes:((ys.take i).map Ov.cells).length=i:=by simp;omega
   repeat first|simp[hil]|refine sR ?_
   try refine⟨by omega,?_⟩
   refine AL.weak (wM (l':=[(4,.msl (nb+8) 0 i 6)]) (loc':=[(8,rowsO (ys.take i)++rest)]) (nr _) rfl (by simp[ToL,lk,lb_at]) (by simp only[BoxL,lk_cons,↓reduceIte,and_true];exact⟨_,rfl,hrr _ _⟩)) ?_;refine AL.trans (Trans.sealD (l':=[(4,.d (.sl 6 ((ys.take i).map Ov.cells)))]) (loc:=[]) (loc':=[]) 8 6 ((ys.take i).map Ov.cells) rest 4 rfl (fun e he=>by obtain⟨o,_,rfl⟩:=List.mem_map.1 he;rfl) (by rw[hes];rfl) rfl ⟨rfl,by have:=@SpTo.msl (nb+8) 6 ((ys.take i).map Ov.cells);rw[hes] at this;exact this,trivial⟩ trivial) ?_;rw[hend];refine sT ?_;try simp only[AU]
   refine⟨by simp,(Fin.gen (av:=.d (ovs (xs.filter fun x=>!p x))) (tok':=upd tok t false) (nt':=nt) (by simp[resAs,resA,lk];rfl) Hb (nr _) (nr _) (fun t ht=>⟨ht,.inl rfl⟩) (fun k rows _ h=>.inl h) (by simp))⟩
theorem ru_cds(r:Ru)(tok:Tks):CellDs tok r.row r.rowK:=⟨.d,.d,.d,.d,.d,.d,.d,.d,.d,.d,.d,.d,.d,.d,.d,.d,.d,.d,.d,.d,.d,.d,.d,.d,.d,trivial⟩
structure WaysOk (t:Ty) (r:Ru) (c:Co):Prop where
 n:(waysR t r c).1.length<=1000000
 fit:∀o∈(waysR t r c).1,o.Fit
theorem givP_ok{t:Ty}{r:Ru}{c:Co}(h:givP t r c=0):tyE t=0/\strR r=0/\shpE c=0:=by
 unfold givP at h;split at h
 .contradiction
 rename_i h1;split at h
 .contradiction
 rename_i h2;split at h
 .split at h
  .unfold cnE at h;split at h
   .contradiction
   split at h
   .contradiction
   rename_i h3;exact⟨by simpa using h1,by simpa using h2,by simpa using h3⟩
  .cases h
 .cases h
theorem ways_ok{t:Ty}{r:Ru}{c:Co}(hr:r.Fit)(hc:c.Fit):WaysOk t r c:=by
 obtain⟨W,hW⟩:∃W,waysR t r c=W:=⟨_,rfl⟩
 suffices h:W.1.length<=1000000/\∀o∈W.1,o.Fit by
  constructor
  .rw[hW];exact h.1
  .rw[hW];exact h.2
 unfold waysR at hW;split at hW
 .subst hW;simp
 .rename_i hg;have hg:=givP_ok (Decidable.not_not.1 hg);split at hW
  .split at hW
   .subst hW;simp
   .have hv:=(strR_zero hg.2.1).2.2;obtain⟨hok,hfit⟩:=ovs_ok hr.rg hv hc.g rfl;have hfew:=ovs_few (p:=c.g) hv rfl;subst hW;refine⟨Nat.le_trans (List.length_filter_le _ _) (by omega),fun o ho=>hfit o ((List.mem_filter.1 ho).1)⟩
  .subst hW;simp
set_option maxRecDepth 100000 in
theorem waysP_c(t:Ty)(ht:t.Fit)(r:Ru)(hr:r.Fit)(c:Co)(hc:c.Fit):DC 14 [t.av,r.av,c.av] (.tup [.d (ovs (waysR t r c).1),I (waysR t r c).2]):=by
 intro tok nt box nb;have h1:=givenP_c t ht r hr c hc;have hg:=@givP_ok t r c;have h2:=overlapsS_c r.rg c.g hr.rg hc.g;obtain⟨N,hN⟩:∃N,waysR t r c=N:=⟨_,rfl⟩
 rw[hN];unfold waysR at hN;generalize givP t r c=E at *;refine sI func14 ntmps14 fun Hb Ht=>?_
 repeat first|simp|refine sR ?_
 refine sD (h1 _ _) ?_;repeat first|simp|refine sR ?_
 by_cases e1:E=0
 .rw[if_neg (by simp[e1])] at hN;refine sC ?_;simp[e1];repeat first|simp|refine sR ?_
  by_cases e2:c.kind=1
  .rw[if_pos e2] at hN;have hv:=(strR_zero (hg e1).2.1).2.2;obtain⟨_,hfit⟩:=ovs_ok hr.rg hv hc.g rfl;have hfew:=ovs_few (p:=c.g) hv rfl;try (simp[e2])
   repeat (first|(refine sR ?_;simp[e2])|(refine sC ?_;simp[e2])|(refine sX ?_;simp only[AU,↓reduceIte]))
   refine Stop.of_a (h2 _ _ _ _) ?_;unfold QOl;generalize oR r.rg c.g=R at *;rintro v m' (⟨e3,rfl,rfl⟩|⟨e3,t',tok',nt',rfl,rfl,hkp,hle,hlv,hlt⟩)
   .rw[if_pos e3] at hN;have b3:(R.2 != 0)=true:=by simp[e3]
    try (simp[b3])
    repeat (first|(refine sR ?_;simp[b3])|(refine sC ?_;simp[b3])|(refine sX ?_;simp only[AU,↓reduceIte]))
    refine sT (sH Hb Ht ?_);simp[<-hN,ovs]
   .rw[if_neg (by simp[e3])] at hN;repeat first|simp|refine sR ?_
    refine sC ?_;repeat first|simp|refine sR ?_
    refine Stop.of_b (deleteFuncO_c R.1 43 (fun o=>!keepO r o) (by omega) r.row r.rowK (nb+4) t' _ _ _ _ (by simp[lb_at]) (ru_cds r) hlv (fun o ho tok nt=>ways1_c r hr o (hfit o ho) tok nt)) ?_;simp only[Bool.not_not];repeat first|simp|refine sR ?_
    refine sT ?_;try simp only[AU]
    refine⟨by simp,sF Hb Ht (fun s hs=>by rw[uO _ _ (hkp s hs).2];exact(hkp s hs).1) hle ?_⟩;simp[<-hN,ovs]
  .rw[if_neg e2] at hN;have b2:(c.kind != 1)=true:=by simp[e2]
   try (simp[b2])
   repeat (first|(refine sR ?_;simp[b2])|(refine sC ?_;simp[b2])|(refine sX ?_;simp only[AU,↓reduceIte]))
   refine sT (sH Hb Ht ?_);simp[<-hN,ovs]
 .rw[if_pos e1] at hN;have b1:(E != 0)=true:=by simp[e1]
  refine sC ?_;simp[b1];repeat first|simp|refine sR ?_
  refine sT (sH Hb Ht ?_);simp[<-hN,ovs]
theorem always_c:DC 36 [] (cdOf 1 []).av:=by
 intro tok nt box nb;refine sI func36 ntmps36 fun Hb Ht=>?_
 repeat first|simp|refine sR ?_
 refine sT (sH Hb Ht ?_);simp[cdOf,Cd.kind,Cd.kids,Cd.m,Cd.g,Cd.sl,Cd.vars,Cd.te,conds,ints,AM.edges,slots,tests]
def preN(l:List Ov):List Cd:=l.map fun o=>cdOf 2 [exP o]
theorem preN_succ(l:List Ov){i:Nat}(h:i<l.length):preN (l.take (i+1))=preN (l.take i)++[cdOf 2 [exP l[i]]]:=by
 unfold preN;rw[<-List.take_append_getElem h,List.map_append];rfl
theorem presC_fit{l:List Ov}(hn:l.length<=1000000)(h:∀o∈l,o.Fit):(presC l).Fit:=by
 have e0:∀k,(cdOf k []).Fit:=fun k=>cdOf_fit (by rw[kidN_eq];simp) (by simp)
 unfold presC;split
 .exact e0 _
 .refine cdOf_fit (by rw[kidN_eq,List.length_map];omega) fun x hx=>?_
  obtain⟨o,ho,rfl⟩:=List.mem_map.1 hx;have of:=h o ho;refine cdOf_fit (by rw[kidN_eq];simp) fun y hy=>?_
  rw[List.mem_singleton.1 hy];exact .mk (by rw[kidN_eq];simp[exP,Cd.kids]) of.l of.g (by rw[bigN_eq];simp[exP,Cd.sl]) (by rw[bigN_eq];simp[exP,Cd.te]) fun z hz=>by
   rw[show z=cdOf 1 [] by simpa[exP,Cd.kids] using hz];exact e0 _
def stPw(r:Ru)(l:List Ov)(nb:Nat)(box:Bxs)(x:Acc):AS :=
 ⟨tl [(28,I x.i),(27,I l.length),(26,.d (ovs l)),(10,.ptr (nb+10) 0 0),(8,.d (ovs l)),(6,.ptr (nb+6) 0 0),(4,.ptr (nb+4) 0 0)],
  lb nb box [(10,[[I 3,.osl 9 ((preN (l.take x.i)).map Cd.cells) x.own,nilS,nilS,nilS,nilS,nilS,z0i,nilS]]),(4,[r.row]),(6,[[z0i,nilS,nilS,nilS,nilS,nilS,nilS,z0i,nilS]])],x.tok,x.nt⟩
set_option maxRecDepth 100000 in
theorem preserveP_c(t:Ty)(ht:t.Fit)(r:Ru)(hr:r.Fit)(c:Co)(hc:c.Fit):DC 12 [t.av,r.av,c.av] (.tup [(presR t r c).1.av,I (presR t r c).2]):=by
 intro tok nt box nb;have h1:=waysP_c t ht r hr c hc;obtain⟨wn,wf⟩:=ways_ok (t:=t) hr hc;have h2:=leftP_c r (presC (waysR t r c).1) hr (presC_fit wn wf);obtain⟨N,hN⟩:∃N,presR t r c=N:=⟨_,rfl⟩
 rw[hN];unfold presR at hN;generalize waysR t r c=W at *;refine sI func12 ntmps12 fun Hb Ht=>?_
 repeat first|simp|refine sR ?_
 refine sD (h1 _ _) ?_;repeat first|simp|refine sR ?_
 by_cases e1:W.2=0
 .rw[if_neg (by simp[e1])] at hN;rw[hN] at h2;refine sC ?_;simp[e1];repeat first|simp|refine sR ?_
  refine sN ?_;have hal:=always_c;refine sL (stPw r W.1 nb box) (fun x=>x.i<=W.1.length/\TK tok nt x.tok x.nt [x.own]) (fun x=>W.1.length-x.i) ⟨0,.full,tok,nt⟩ ⟨Nat.zero_le _,(TK.start Ht).full⟩ (wM (nr _) rfl (by simp[ToL,lk]) (by simp[BoxL,lk,preN])) ?_;rintro⟨i,own,tok',nt'⟩ S ⟨hi,htk⟩ hS;simp only[stPw] at hS hi htk;subst hS;have hw:=sW (i:=i) (by omega);obtain⟨K,hK⟩:∃K,preN (W.1.take i)=K:=⟨_,rfl⟩
  have hKl:K.length<=i:=by rw[<-hK];simp[preN];omega
  rw[hK];repeat first|simp|refine sR ?_|refine sC ?_
  refine⟨fun hlt=>?_,fun hge=>?_⟩
  .have hstep:=preN_succ W.1 hlt;rw[hK] at hstep;repeat first|simp[hlt]|refine sR ?_
   refine sD (hal _ _) ?_;repeat first|simp|refine sR ?_
   refine⟨⟨by omega,htk.live⟩,?_⟩;repeat first|simp[hw]|refine sR ?_
   refine sE ?_;refine⟨⟨i+1,.tok nt',upd (own.kill tok') nt' true,nt'+1⟩,⟨hlt,htk.app⟩,by simp only;omega,?_⟩;simp only[stPw,hstep];refine wM htk.app.le rfl ?_ ?_
   .simp[ToL,lk]
   .simp[BoxL,lk];refine to_snoc ?_ _;simp[dsub_one,cdOf,exP,Cd.cells_eq,Cd.kind,Cd.kids,Cd.m,Cd.g,Cd.sl,Cd.vars,Cd.te,slots,tests,conds,ints,AM.edges]
  .refine sX ?_;simp only[AU,↓reduceIte];have:i=W.1.length:=by omega
   subst this;rw[List.take_length] at hK;have hK2:(W.1.map fun o=>cdOf 2 [exP o])=K:=hK
   have e6:(cdOf 3 K).row=[I 3,.d (conds K),.d (ints []),.d (ints []),.d (ints []),.d (AM.edges []),.d (slots []),z0i,.d (tests [])]:=rfl
   refine AL.weak (wM (l':=[(10,.ptr (nb+10) 0 0),(8,.d (ovs W.1)),(6,.ptr (nb+6) 0 0),(4,.ptr (nb+4) 0 0)]) (loc':=[(10,[(cdOf 3 K).row]),(4,[r.row]),(6,[[z0i,nilS,nilS,nilS,nilS,nilS,nilS,z0i,nilS]])]) htk.le rfl (by simp[ToL,lk]) (by simp[BoxL,lk,e6,ints,AM.edges,slots,tests])) ?_;unfold presC at h2;by_cases h0:W.1=[]
   .rw[if_pos h0] at h2;try (simp[h0])
    repeat (first|(refine sR ?_;simp[h0])|(refine sC ?_;simp[h0])|(refine sX ?_;simp only[AU,↓reduceIte]))
    refine sD (hal _ _) ?_;repeat first|simp|refine sR ?_
    refine sD (h2 _ _) ?_;repeat first|simp|refine sR ?_
    refine sT (sG Hb Ht htk.old htk.le ?_);simp[<-hN]
   .rw[if_neg h0,hK2] at h2;try (simp[h0])
    repeat (first|(refine sR ?_;simp[h0])|(refine sC ?_;simp[h0])|(refine sX ?_;simp only[AU,↓reduceIte]))
    refine sD (h2 _ _) ?_;repeat first|simp|refine sR ?_
    refine sT (sG Hb Ht htk.old htk.le ?_);simp[<-hN]
 .rw[if_pos e1] at hN;have b1:(W.2 != 0)=true:=by simp[e1]
  refine sC ?_;simp[b1];repeat first|simp|refine sR ?_
  refine sT (sH Hb Ht ?_);simp[<-hN,cdOf,conds,ints,AM.edges,slots,tests,Cd.kind,Cd.kids,Cd.m,Cd.g,Cd.sl,Cd.vars,Cd.te]
structure Ar where
 to:Gr
 m:Mo
abbrev Ar.av(x:Ar):AV:=.agg [.d (ints x.to.nodes),.d (AM.edges x.to.edges),.d (ints x.m.nodes),.d (ints x.m.edges)]
structure Ar.Big (x:Ar):Prop where
 n:x.m.nodes.length<=bigN
 e:x.m.edges.length<=bigN
def RS(n:Int)(s t:St2):Prop:=(s.2=0/\t.2=0/\s.1+t.1=2000/\0<=s.1/\s.1<=n)∨(s.2=3/\t.2=3)
theorem RS.zero{n:Int}{s t:St2}(h:RS n s t)(h0:s.2=0):t.2=0:=by
 rcases h with h|h
 .exact h.2.1
 .rw[h.1] at h0;cases h0
structure Ch where
 a:Dr
 b:List Int
 g:List Int
 c:List Int
structure Ch.U8 (x:Ch):Prop where
 a:x.a.U8
 b:U8s x.b
 g:U8s x.g
 c:U8s x.c
abbrev Ch.av(x:Ch):AV:=.agg [.d (.sl 1 (x.a.nodes.map fun n=>[u8 n])),.d (.sl 3 (x.a.edges.map fun e=>[u8 e.1,u8 e.2.1,u8 e.2.2])),.d (bytes x.b),.d (bytes x.g),.d (bytes x.c)]
def Ch.ok(x:Ch):Bool:=decide (x.a.nodes.length<=1/\x.a.edges.length<=1/\x.c.length<=12/\x.b.length<=10/\x.g.length<=10)
def Ch.A(x:Ch):Gr:=madeG x.a
def Ch.B(x:Ch):Gr:=growR x.A x.b 2
theorem Pre.le{a b:Gr}(h:Pre a b):a.nodes.length<=b.nodes.length/\a.edges.length<=b.edges.length:=by
 obtain⟨t,ht⟩:=h.n;obtain⟨u,hu⟩:=h.e;rw[ht,hu];simp
inductive Cd.Pl:Cd->Prop
 | mk {c:Cd} (hs:c.sl=[]) (hv:c.vars=0) (ht:c.te=[]) (h:∀x∈c.kids,Cd.Pl x):Cd.Pl c
theorem Cd.Pl.sl{c:Cd}(h:c.Pl):c.sl=[]:=by cases h;assumption
theorem Cd.Pl.te{c:Cd}(h:c.Pl):c.te=[]:=by cases h;assumption
theorem Cd.Pl.vars{c:Cd}(h:c.Pl):c.vars=0:=by cases h;assumption
theorem Cd.Pl.kid{c:Cd}(h:c.Pl):∀x∈c.kids,Cd.Pl x:=by cases h;assumption
structure Ac3 where
 own:Own
 tok:Nat->Bool
 nt:Nat
def Ac3.add(x:Ac3)(b:Bool):Ac3:=if b=true then ⟨.tok (x.nt+2),upd (x.own.kill (upd (upd (upd x.tok x.nt true) x.nt false) (x.nt+1) true)) (x.nt+2) true,x.nt+3⟩ else x
structure Ac3.Ok (x:Ac3) (tok:Tks) (nt:Nat):Prop where
 adv:Adv tok nt .full x.tok x.nt x.own
 lt:∀t,tok t=true->t<nt
theorem Ac3.Ok.add{x:Ac3}{tok:Nat->Bool}{nt:Nat}(h:x.Ok tok nt)(b:Bool):(x.add b).Ok tok nt:=by
 unfold Ac3.add;split
 .have had:=Adv.fresh h.adv.live h.adv.lt;exact⟨h.adv.trans h.lt (had.trans h.adv.lt (Adv.app had.live had.lt)),h.lt⟩
 .exact h
theorem Ac3.Ok.tk{x:Ac3}{tok:Nat->Bool}{nt:Nat}(h:x.Ok tok nt):TK tok nt x.tok x.nt [x.own] :=
 ⟨fun t ht=>h.adv.keep t ht (by simp),h.lt,h.adv.le,fun o ho t e=>by
  rw[List.mem_singleton] at ho;subst ho;have hl:=h.adv.live;rw[e] at hl;refine⟨hl,?_,h.adv.lt t hl⟩;rcases h.adv.new with e2|⟨s,e2,hs⟩
  .rw[e] at e2;cases e2
  .rw[e] at e2;cases e2;exact hs,List.pairwise_singleton _ _⟩
abbrev Gr.cells(g:Gr):List D:=[ints g.nodes,AM.edges g.edges]
theorem Ac3.Ok.start{tok:Nat->Bool}{nt:Nat}(h:∀t,tok t=true->t<nt):(Ac3.mk .full tok nt).Ok tok nt:=⟨Adv.refl trivial h,h⟩
theorem TK.adv{mtok:Nat->Bool}{nt0:Nat}{tok tok':Nat->Bool}{nt nt':Nat}{os:List Own}{own':Own}(h:TK mtok nt0 tok nt os)(ha:Adv tok nt .full tok' nt' own'):TK mtok nt0 tok' nt' (own'::os):=by
 have hnew:∀s,own'=.tok s->nt<=s/\tok' s=true:=fun s e=>by
  have hl:=ha.live;rw[e] at hl;rcases ha.new with e2|⟨s2,e2,hs⟩
  .rw[e] at e2;cases e2
  .rw[e] at e2;cases e2;exact⟨hs,hl⟩
 refine⟨fun t ht=>ha.keep t (h.old t ht) (by simp),h.lt,Nat.le_trans h.le ha.le,fun o ho t e=>?_,?_⟩
 .rcases List.mem_cons.1 ho with rfl|ho
  .obtain⟨h1,h2⟩:=hnew t e;exact⟨h2,Nat.le_trans h.le h1,ha.lt t h2⟩
  .obtain⟨h1,h2,h3⟩:=h.own o ho t e;exact⟨ha.keep t h1 (by simp),h2,Nat.lt_of_lt_of_le h3 ha.le⟩
 .refine List.pairwise_cons.2 ⟨fun b hb t e e2=>?_,h.ne⟩;obtain⟨h1,h2⟩:=hnew t e;obtain⟨_,_,h3⟩:=h.own b hb t e2;omega
def Ac3.ed(x:Ac3)(s:Nat):Ac3:=⟨.tok (x.nt+1),upd (x.own.kill (upd (upd x.tok s false) x.nt true)) (x.nt+1) true,x.nt+2⟩
def Ac3.nd(x:Ac3)(s:Nat):Ac3:=⟨x.own,upd (upd x.tok s false) x.nt true,x.nt+1⟩
def exT:Ty:=⟨[⟨⟨#[65,99,99,111,117,110,116]⟩, -1,true,[⟨⟨#[98,97,108,97,110,99,101]⟩, -1000,1000,[]⟩]⟩,⟨⟨#[67,97,115,104]⟩,0,false,[]⟩,⟨⟨#[76,111,97,110]⟩,0,false,[⟨⟨#[115,116,97,116,101]⟩,0,1,[⟨#[111,112,101,110]⟩,⟨#[99,108,111,115,101,100]⟩]⟩]⟩,⟨⟨#[80,101,114,115,111,110]⟩, -1,false,[]⟩],
 [⟨⟨#[111,119,110,115]⟩,3,0,0, -1,1,1⟩,⟨⟨#[112,97,121,115]⟩,1,1,0, -1,0, -1⟩]⟩
def payR:Ru:=⟨⟨#[112,97,121]⟩,⟨[1,1],[]⟩,[],0,[],⟨[1,1],[⟨1,0,1⟩]⟩,[],0,[],⟨[0,1],[]⟩,⟨[0,1],[]⟩,true,cdOf 1 []⟩
def dblC:Co:=⟨⟨#[100,111,117,98,108,101]⟩,1,⟨[1,1],[⟨1,0,1⟩,⟨1,0,1⟩]⟩,[]⟩
def slfC:Co:=⟨⟨#[115,101,108,102]⟩,1,⟨[1],[⟨1,0,0⟩]⟩,[]⟩
theorem aw43a:(waysR exT payR dblC).2=0/\(waysR exT payR dblC).1.length=2:=by decide +kernel
theorem aw43b:(waysR exT payR slfC).2=0/\(waysR exT payR slfC).1=[]:=by decide +kernel
theorem aw43c:(presR exT payR dblC).2=0/\(presR exT payR dblC).1.kind=3/\(presR exT payR dblC).1.kids.length=2:=by decide +kernel
theorem exT_fit:exT.Fit:=⟨by decide,by decide,by decide,by decide,by simp[exT];exact⟨⟨by decide,by decide,by decide⟩,⟨by decide,by decide,by decide⟩⟩⟩
theorem dss_nil:DSs [] []:=⟨rfl,fun i h=>by simp at h⟩
theorem dss_cons{x y:List D}{xs ys:List (List D)}:DSs (x::xs) (y::ys)↔DS1 x y/\DSs xs ys:=by
 constructor
 .rintro⟨h1,h2⟩;exact⟨h2 0 (by simp) (by simp),by simpa using h1,fun j g1 g2=>h2 (j+1) (by simpa using g1) (by simpa using g2)⟩
 .rintro⟨h1,h2,h3⟩;refine⟨by simp[h2],fun j g1 g2=>?_⟩
  match j with
  | 0=>exact h1
  | j+1=>exact h3 j (by simpa using g1) (by simpa using g2)
theorem dsub_all{sz:Nat}{es es':List (List D)}(h:DSs es es'):DSub (.sl sz es) (.sl sz es'):=h.sub sz
theorem to_dss{p q:Nat->Prop}{fz:Option (Nat × Nat × List (List D))}{sz:Nat}{es es':List (List D)}{o:Own}(h:DSs es es'):To p q fz (.osl sz es o) (.d (.sl sz es')):=.odsub (h.sub sz)
set_option maxRecDepth 100000 in
theorem example04_c:DC 31 [] exT.av:=by
 intro tok nt box nb;refine sI func31 ntmps31 fun Hb Ht=>?_
 repeat first|simp|refine sR ?_
 try refine⟨rfl,?_⟩
 repeat first|simp|refine sR ?_
 try refine⟨rfl,?_⟩
 repeat first|simp|refine sR ?_
 try refine⟨rfl,?_⟩
 repeat first|simp|refine sR ?_
 try refine⟨rfl,?_⟩
 repeat first|simp|refine sR ?_
 refine sT (sH Hb Ht ?_);simp[exT,nts,ets,atts,strs];exact to_dss (by simp[dss_cons,dss_nil,dsub_all,atts,strs])
set_option maxRecDepth 100000 in
theorem pay43_c:DC 32 [] payR.av:=by
 intro tok nt box nb;refine sI func32 ntmps32 fun Hb Ht=>?_
 repeat first|simp|refine sR ?_
 try refine⟨rfl,?_⟩
 repeat first|simp|refine sR ?_
 try refine⟨rfl,?_⟩
 repeat first|simp|refine sR ?_
 try refine⟨rfl,?_⟩
 repeat first|simp|refine sR ?_
 try refine⟨rfl,?_⟩
 repeat first|simp|refine sR ?_
 refine sT (sH Hb Ht ?_);simp[payR,cdOf,conds,ints,AM.edges,slots,tests,Cd.kind,Cd.kids,Cd.m,Cd.g,Cd.sl,Cd.vars,Cd.te,rI,rE]
set_option maxRecDepth 100000 in
theorem double43_c:DC 33 [] dblC.av:=by
 intro tok nt box nb;refine sI func33 ntmps33 fun Hb Ht=>?_
 repeat first|simp|refine sR ?_
 try refine⟨rfl,?_⟩
 repeat first|simp|refine sR ?_
 try refine⟨rfl,?_⟩
 repeat first|simp|refine sR ?_
 try refine⟨rfl,?_⟩
 repeat first|simp|refine sR ?_
 try refine⟨rfl,?_⟩
 repeat first|simp|refine sR ?_
 refine sT (sH Hb Ht ?_);simp[dblC,xts,cdOf,conds,ints,AM.edges,slots,tests,Cd.kind,Cd.kids,Cd.m,Cd.g,Cd.sl,Cd.vars,Cd.te]
theorem payR_fit:payR.Fit:=⟨⟨by decide,by decide⟩,⟨by decide,by decide⟩,⟨by decide,by decide⟩,⟨by decide,by decide⟩,by rw[bigN_eq];simp[payR],by rw[bigN_eq];simp[payR],by rw[bigN_eq];simp[payR],by rw[bigN_eq];simp[payR]⟩
theorem dblC_fit:dblC.Fit:=⟨by decide,⟨by decide,by decide⟩,by decide,by simp[dblC]⟩
theorem slfC_fit:slfC.Fit:=⟨by decide,⟨by decide,by decide⟩,by decide,by simp[slfC]⟩
set_option maxRecDepth 100000 in
theorem awake43_c:DC 10 [] (B true):=by
 intro tok nt box nb;have h1:=waysP_c exT exT_fit payR payR_fit dblC dblC_fit;have h2:=preserveP_c exT exT_fit payR payR_fit dblC dblC_fit;have h3:=waysP_c exT exT_fit payR payR_fit slfC slfC_fit;have hE:=example04_c;have hP:=pay43_c;have hD:=double43_c;obtain⟨a1,a2⟩:=aw43a;obtain⟨b1,b2⟩:=aw43b;obtain⟨c1,c2,c3⟩:=aw43c;generalize waysR exT payR dblC=L at *;generalize waysR exT payR slfC=M at *;generalize presR exT payR dblC=R at *;refine sI func10 ntmps10 fun Hb Ht=>?_
 repeat first|simp|refine sR ?_
 refine sD (hE _ _) ?_;repeat first|simp|refine sR ?_
 refine sD (hP _ _) ?_;repeat first|simp|refine sR ?_
 refine sD (hD _ _) ?_;repeat first|simp|refine sR ?_
 refine sD (h1 _ _) ?_;repeat first|simp|refine sR ?_
 refine sD (hD _ _) ?_;repeat first|simp|refine sR ?_
 refine sD (h2 _ _) ?_;repeat first|simp|refine sR ?_
 refine Stop.sub (args':=[exT.av,payR.av,slfC.av]) ⟨Sub.refl _,Sub.refl _,Sub.agg ⟨Sub.refl _,Sub.refl _,Sub.data _ _ _,Sub.data _ _ _,Sub.nil _ _ _,trivial⟩,trivial⟩ ?_;refine sD (h3 _ _) ?_;simp;try (simp[a1,a2,b1,b2,c1,c2,c3])
 repeat (first|(refine sR ?_;simp[a1,a2,b1,b2,c1,c2,c3])|(refine sC ?_;simp[a1,a2,b1,b2,c1,c2,c3])|(refine sX ?_;simp only[AU,↓reduceIte]))
 refine sT (sH Hb Ht ?_);simp[a1,a2,b1,b2,c1,c2,c3]
abbrev Co.cells(c:Co):List D:=[.raw (.string c.name),.raw (.int .i64 c.kind),ints c.g.nodes,AM.edges c.g.edges,xts c.exts]
end Go.AM
