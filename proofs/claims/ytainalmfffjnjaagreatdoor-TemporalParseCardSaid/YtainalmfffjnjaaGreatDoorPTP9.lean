/-
 Parts of the proof, as merged from many texts: a machine over data, what the functions compute, plain laws.
-/
import Derived.Test.YtainalmfffjnjaaGreatDoorPTP8
set_option linter.unusedSimpArgs false
set_option linter.unusedVariables false
namespace Go.AM
open Go
open Go.Proofs.Tryz
variable {P:Program}
section
variable (R:AV->AV->Prop)
def CvR(r r':List AV):Prop:=r.length=r'.length/\∀i (h1:i<r.length) (h2:i<r'.length),R r[i] r'[i]
def CvRs(r r':List (List AV)):Prop:=r.length=r'.length/\∀i (h1:i<r.length) (h2:i<r'.length),CvR R r[i] r'[i]
def CvL:List (Nat × AV)->List (Nat × AV)->Prop
 | [],[]=>True
 | (i,x)::a,(j,y)::b=>i=j/\R x y/\CvL a b
 | _,_=>False
def CvB:List (Nat × List (List AV))->List (Nat × List (List AV))->Prop
 | [],[]=>True
 | (i,x)::a,(j,y)::b=>i=j/\CvRs R x y/\CvB a b
 | _,_=>False
end
section
variable {R:AV->AV->Prop}
theorem CvL.at(h0:R .bot .bot):∀{l l':List (Nat × AV)},CvL R l l'->∀i,R (tl l i) (tl l' i)
 | [],[],_,i=>h0
 | (i,x)::a,(j,y)::b,h,q=>by
  obtain⟨rfl,h1,h2⟩:=h;rw[tl_cons,tl_cons];split
  .exact h1
  .exact CvL.at h0 h2 q
 | [],_::_,h,_=>h.elim
 | _::_,[],h,_=>h.elim
theorem CvB.at:∀{l l':List (Nat × List (List AV))},CvB R l l'->∀i,(lk l i=none/\lk l' i=none)∨∃r r',lk l i=some r/\lk l' i=some r'/\CvRs R r r'
 | [],[],_,i=>.inl ⟨rfl,rfl⟩
 | (i,x)::a,(j,y)::b,h,q=>by
  obtain⟨rfl,h1,h2⟩:=h;rw[lk_cons,lk_cons];split
  .exact .inr ⟨x,y,rfl,rfl,h1⟩
  .exact CvB.at h2 q
 | [],_::_,h,_=>h.elim
 | _::_,[],h,_=>h.elim
theorem CvRs.flat:∀{r r':List (List AV)},CvRs R r r'->CvR R r.flatten r'.flatten
 | [],[],_=>⟨rfl,fun i h=>by simp at h⟩
 | x::a,y::b,h=>by
  have h0:=h.2 0 (by simp) (by simp);have ih:CvR R a.flatten b.flatten:=CvRs.flat ⟨by simpa using h.1,fun i h1 h2=>h.2 (i+1) (by simpa using h1) (by simpa using h2)⟩
  simp only[List.getElem_cons_zero] at h0;refine⟨by simp[h0.1,ih.1],fun i h1 h2=>?_⟩;have hl:=h0.1;have hi2:=ih.1;simp only[List.flatten_cons] at h1 h2 ⊢;rw[List.length_append] at h1 h2;by_cases hi:i<x.length
  .have e1:(x++a.flatten)[i]'(by rw[List.length_append];omega)=x[i]:=List.getElem_append_left hi
   have e2:(y++b.flatten)[i]'(by rw[List.length_append];omega)=y[i]'(by omega):=List.getElem_append_left (by omega)
   rw[e1,e2];exact h0.2 i hi _
  .have e1:(x++a.flatten)[i]'(by rw[List.length_append];omega)=a.flatten[i-x.length]'(by omega):=List.getElem_append_right (by omega)
   have e2:(y++b.flatten)[i]'(by rw[List.length_append];omega)=b.flatten[i-y.length]'(by omega):=List.getElem_append_right (by omega)
   rw[e1,e2];have:=ih.2 (i-x.length) (by omega) (by omega)
   simp only[hl] at this ⊢;exact this
 | [],_::_,h=>by have:=h.1;simp at this
 | _::_,[],h=>by have:=h.1;simp at this
theorem CvR.vs{G:Gh}{w:World}(hto:∀x y v,R x y->RV G w x v->RV G w y v){xs ys:List AV}{vs:List Value}(h:CvR R xs ys)(hr:RVs G w xs vs):RVs G w ys vs :=
 ⟨h.1.symm.trans hr.1,fun i h1 h2=>hto _ _ _ (h.2 i (by rw[h.1];exact h1) h1) (hr.2 i _ h2)⟩
theorem RelM.rows{G:Gh}{w:World}{base nb nt:Nat}{out:Bxs}{loc loc':List (Nat × List (List AV))}{tok:Nat->Bool}(hto:∀x y v,R x y->RV G w x v->RV G w y v)(hb:CvB R loc loc')(hm:RelM G ⟨lb base out loc,nb,tok,nt⟩ w):RelM G ⟨lb base out loc',nb,tok,nt⟩ w:=by
 constructor
 case box =>
  intro k rows b z hk hbx;simp only at hk;by_cases hkb:k<base
  .rw[lO hkb] at hk;exact hm.box k rows b z (by simp only;rw[lO hkb];exact hk) hbx
  .have hkk:k=base+(k-base):=by omega
   rw[hkk,lb_at] at hk;rcases hb.at (k-base) with ⟨_,h2⟩|⟨r0,r',h1,h2,h3⟩
   .rw[h2] at hk;cases hk
   .rw[h2] at hk;cases hk;obtain⟨g1,cs,e,g2,g3,g4,g5⟩:=hm.box k r0 b z (by simp only;rw[hkk,lb_at];exact h1) hbx;refine⟨g1,cs,e,g2,fun q hq=>?_,h3.flat.vs hto g4,g5⟩;obtain⟨i,hi,rfl⟩:=List.getElem_of_mem hq;have hi0:i<r0.length:=by rw[h3.1];exact hi
    rw[<-(h3.2 i hi0 hi).1];exact g3 _ (List.getElem_mem _)
 case nobox =>
  intro k hk;refine hm.nobox k ?_;simp only at hk ⊢;by_cases hkb:k<base
  .rw[lO hkb] at hk ⊢;exact hk
  .have hkk:k=base+(k-base):=by omega
   rw[hkk,lb_at] at hk ⊢;rcases hb.at (k-base) with ⟨h1,_⟩|⟨r0,r',_,h2,_⟩
   .exact h1
   .rw[h2] at hk;cases hk
 case inj=>exact hm.inj
 case nb =>
  intro k hk;have h0:=hm.nb k hk;simp only at h0 ⊢;by_cases hkb:k<base
  .rw[lO hkb] at h0 ⊢;exact h0
  .have hkk:k=base+(k-base):=by omega
   rw[hkk,lb_at] at h0 ⊢;rcases hb.at (k-base) with ⟨_,h2⟩|⟨r0,r',h1,_,_⟩
   .exact h2
   .rw[h1] at h0;cases h0
 case nt=>exact hm.nt
 case toks=>exact hm.toks
 case tokb=>exact hm.tokb
 case tinj=>exact hm.tinj
 case tnt=>exact hm.tnt
 case glob=>exact hm.glob
 case fresh=>exact hm.fresh
end
inductive OpTo (t sz:Nat):AV->AV->Prop
 | bot {x}:OpTo t sz x .bot
 | same {x}:OpTo t sz x x
 | nil {n}:OpTo t sz (.osl n [] .full) (.stk t sz [])
theorem OpTo.rv{G:Gh}{w:World}{t sz:Nat}(ht:t<G.nt)(hk:G.tk t=some none){x y:AV}{v:Value}(h:OpTo t sz x y)(hr:RV G w x v):RV G w y v:=by
 cases h with
 | bot=>exact .bot
 | same=>exact hr
 | nil =>
  cases hr with
  | osl _ ho =>
   obtain⟨A,rfl,_⟩:=ho;refine .stk ⟨ht,A,0,rfl,nr _,Nat.zero_le _,fun x hx=>?_⟩;rw[hk] at hx;cases hx;rfl
theorem Trans.opn{cx:Cx}{nt0 nt:Nat}{l l':List (Nat × AV)}{out:Bxs}{loc loc':List (Nat × List (List AV))}{tok:Nat->Bool}(sz:Nat)(hl:CvL (OpTo nt sz) l l')(hb:CvB (OpTo nt sz) loc loc'):
  Trans cx nt0 ⟨tl l,lb cx.base out loc,tok,nt⟩ ⟨tl l',lb cx.base out loc',upd tok nt true,nt+1⟩:=by
 intro G0 w0 G a w he hn0 hS hL;have hm:=hS.mem;have hgnt:G.nt=nt:=hm.nt
 have hle:=Le.newtok (G:=G) (w:=w) none;have hm':=hm.newtok none (fun g h=>by cases h)
 have h1:nt<(G.newtok none).nt:=by simp only[Gh.newtok];omega
 have h2:(G.newtok none).tk nt=some none:=by simp only[Gh.newtok];rw[<-hgnt,uS]
 refine⟨G.newtok none,⟨hS.defers,hS.size,fun i=>(hl.at .bot i).rv h1 h2 ((hS.tmps i).mono hle),hm'.rows (fun x y v h hr=>h.rv h1 h2 hr) hb⟩,?_⟩;refine hL.step ⟨hle,fun k hkb hg=>⟨hg,?_⟩⟩;simp only;rw[lO hkb,lO hkb]
section
variable {t sz:Nat}
@[simp] theorem opTo_bot(x:AV):OpTo t sz x .bot:=.bot
@[simp] theorem opTo_same(x:AV):OpTo t sz x x:=.same
@[simp] theorem opTo_nil(n:Nat):OpTo t sz (.osl n [] .full) (.stk t sz []):=.nil
end
@[simp] theorem to_stk{p:Nat->Prop}{fz:Option (Nat × Nat × List (List D))}(t sz:Nat)(es:List (List D)):To p (fun _=>True) fz (.stk t sz es) (.stk t sz es):=.same (.stk trivial)
@[simp] theorem to_que{p:Nat->Prop}{fz:Option (Nat × Nat × List (List D))}(t sz:Nat)(es:List (List D)):To p (fun _=>True) fz (.que t sz es) (.que t sz es):=.same (.que trivial)
@[simp] theorem okIn_que{p q:Nat->Prop}{t sz:Nat}{es:List (List D)}:OkIn p q (.que t sz es)↔q t:=⟨fun h=>by cases h;assumption,.que⟩
@[simp] theorem okIn_stk{p q:Nat->Prop}{t sz:Nat}{es:List (List D)}:OkIn p q (.stk t sz es)↔q t:=⟨fun h=>by cases h;assumption,.stk⟩
theorem cvR_nil{R:AV->AV->Prop}:CvR R [] []:=⟨rfl,fun i h=>by simp at h⟩
theorem cvR_cons{R:AV->AV->Prop}{x y:AV}{a b:List AV}(h:R x y)(r:CvR R a b):CvR R (x::a) (y::b):=⟨by simp[r.1],fun i h1 h2=>by
 cases i with
 | zero=>exact h
 | succ i=>exact r.2 i (by simpa using h1) (by simpa using h2)⟩
theorem cvRs_one{R:AV->AV->Prop}{r r':List AV}(h:CvR R r r'):CvRs R [r] [r']:=⟨rfl,fun i h1 h2=>by
 have:i=0:=by simp at h1;omega
 subst this;exact h⟩
variable {P:Program}
inductive CellD (tok:Tks):AV->D->Prop
 | d {x}:CellD tok (.d x) x
 | osl {sz es o}:CellD tok (.osl sz es o) (.sl sz es)
 | stk {t sz es} (h:tok t=true):CellD tok (.stk t sz es) (.sl sz es)
def CellDs(tok:Tks):List AV->List D->Prop
 | [],[]=>True
 | x::a,y::b=>CellD tok x y/\CellDs tok a b
 | _,_=>False
theorem CellDs.at{tok:Nat->Bool}:∀{a:List AV} {b:List D},CellDs tok a b->a.length=b.length/\∀i (h1:i<a.length) (h2:i<b.length),CellD tok a[i] b[i]
 | [],[],_=>⟨rfl,fun i h=>by simp at h⟩
 | x::a,y::b,h=>by
  obtain⟨h1,h2⟩:=CellDs.at h.2;refine⟨by simp[h1],fun i g1 g2=>?_⟩;cases i with
  | zero=>exact h.1
  | succ i=>exact h2 i (by simpa using g1) (by simpa using g2)
 | [],_::_,h=>h.elim
 | _::_,[],h=>h.elim
inductive Lent (box:Bxs) (tok:Tks):AV->AV->Prop
 | same {x} (h:OkIn (fun _=>False) (fun _=>True) x):Lent box tok x x
 | stk {t sz es} (h:tok t=true):Lent box tok (.stk t sz es) (.d (.sl sz es))
 | ptr {k row ds} (hk:box k=some [row]) (h:CellDs tok row ds):Lent box tok (.ptr k 0 0) (.cptr ds 0)
 | fn {f} {caps caps':List AV} (hl:caps.length=caps'.length) (h:∀i (h1:i<caps.length) (h2:i<caps'.length),Lent box tok caps[i] caps'[i]):Lent box tok (.fn f caps) (.fn f caps')
def LentL(box:Bxs)(tok:Tks):List AV->List AV->Prop
 | [],[]=>True
 | x::a,y::b=>Lent box tok x y/\LentL box tok a b
 | _,_=>False
theorem Lent.ext{box box':Bxs}{tok:Nat->Bool}(he:Ext box box'){x y:AV}(h:Lent box tok x y):Lent box' tok x y:=by
 induction h with
 | same h=>exact .same h
 | stk h=>exact .stk h
 | ptr hk h=>exact .ptr (he _ _ hk) h
 | fn hl _ ih=>exact .fn hl ih
theorem LentL.ext{box box':Bxs}{tok:Nat->Bool}(he:Ext box box'):∀{a b:List AV},LentL box tok a b->LentL box' tok a b
 | [],[],_=>trivial
 | x::a,y::b,h=>⟨h.1.ext he,LentL.ext he h.2⟩
 | [],_::_,h=>h.elim
 | _::_,[],h=>h.elim
def Gh.lb(G:Gh)(b:Nat):Prop:=(∃k sz,G.bx k=some (b,sz))∨∃t,G.tk t=some (some b)/\G.kind b=.ex
def Gh.lt(G:Gh)(t:Nat):Prop:=∃g,G.tk t=some (some g)/\G.kind g=.ex
open Classical in
noncomputable def Gh.lent(G:Gh):Gh:={ bx:=fun _=>none,kind:=fun b=>if G.lb b then .whole else G.kind b,tk:=fun t=>if G.lt t then none else G.tk t,nt:=G.nt }
open Classical in
noncomputable def Gh.back(G G1:Gh):Gh:={ bx:=G.bx,kind:=fun b=>if G.lb b then G.kind b else G1.kind b,tk:=fun t=>if G.lt t then G.tk t else G1.tk t,nt:=G1.nt }
theorem lent_ps{G:Gh}{a:Addr}(h:G.ps a):G.lent.ps a:=by
 unfold Gh.ps at h ⊢;simp only[Gh.lent];by_cases e:G.lb a.block
 .simp[e]
 .simp only[e,↓reduceIte];exact h
theorem lent_tk{G:Gh}{t:Nat}{x:Option Nat}(h:G.lent.tk t=some x):G.tk t=some x/\¬G.lt t:=by
 simp only[Gh.lent] at h;split at h
 .cases h
 .rename_i hn;exact⟨h,hn⟩
theorem lent_cell{G:Gh}{m:AMem}{w:World}(hm:RelM G m w){x:AV}{y:D}{v:Value}(hc:CellD m.tok x y)(h:RV G w x v):RVd w.cell? G.lent.ps y v:=by
 have hcm:∀(a:Addr) (u:Value),G.ps a->w.cell? a=some u->G.lent.ps a/\w.cell? a=some u:=fun a u h1 h2=>⟨lent_ps h1,h2⟩
 cases hc with
 | d=>cases h with|d h1=>exact h1.mono hcm
 | osl=>cases h with|osl h1 _=>exact h1.mono hcm
 | @stk t sz es ht =>
  cases h with
  | stk hs =>
   obtain⟨_,A,cap,rfl,hcap,hmax,hst⟩:=hs;obtain⟨_,y,hy⟩:=hm.toks t ht;have hst:=hst y hy;cases y with
   | none =>
    have hes:es=[]:=List.eq_nil_of_length_eq_zero (by have:cap=0:=hst;omega)
    subst hes;exact .sl (es:=[]) (fun _ _=>default) (Nat.zero_le _) hmax (by simp) (by simp) (fun a _ i j hi _=>by simp at hi) (fun i j hi _=>by simp at hi)
   | some g =>
    obtain⟨hA,vs,sp,e,h1,h2,h3,h4,h5⟩:=hst;refine RVd.of_flat hcap hmax ⟨h4.len,fun a ha q u hq=>?_,h4.one,fun _=>⟨_,hA⟩,h4.each,fun i j hi hj=>?_⟩
    .rw[hA] at ha;cases ha;rw[add_none];refine⟨?_,?_⟩
     .have hl:G.lb g:=.inr ⟨t,hy,h1⟩
      simp[Gh.ps,Gh.lent,hl]
     .rw[cell_of_row w g _ _ e (0,0) h2,Nat.zero_add];simp only[List.getElem?_toArray];rw[List.getElem?_append_left (List.getElem?_eq_some_iff.1 hq).1];exact hq
    .obtain⟨u,hu,hr⟩:=h4.read i j hi hj;exact⟨u,hu,hr.mono hcm⟩
theorem lb_kind{G:Gh}{m:AMem}{w:World}(hm:RelM G m w){b:Nat}(h:G.lb b):b<w.heap.size/\(G.kind b=.box∨G.kind b=.ex):=by
 rcases h with ⟨k,sz,h⟩|⟨t,h1,h2⟩
 .have:=hm.blt h
  exact⟨this.1,.inl this.2⟩
 .obtain⟨f,cur,e,_,h3⟩:=hm.tokb t b h1;exact⟨heap_lt h3,.inr h2⟩
theorem RV.lent{G:Gh}{m:AMem}{w:World}(hm:RelM G m w){x:AV}{v:Value}(h:RV G w x v)(ho:OkIn (fun _=>False) (fun _=>True) x):RV G.lent w x v:=by
 have hc:∀(a:Addr) (u:Value),G.ps a->w.cell? a=some u->G.lent.ps a/\w.cell? a=some u:=fun a u h1 h2=>⟨lent_ps h1,h2⟩
 have hk:∀g f c,G.kind g=.part f c->G.lent.kind g=G.kind g:=fun g f c hg=>by
  simp only[Gh.lent];rw[if_neg fun e=>by rcases (lb_kind hm e).2 with h|h<;>rw[hg] at h<;>cases h]
 have hown:∀{sz n:Nat} {o:Own} {v:Value},OwnR G sz n o v->OwnR G.lent sz n o v:=by
  intro sz n o v h2;cases o with
  | full=>exact h2
  | tok t =>
   refine⟨h2.1,fun y hy=>?_⟩;have:=h2.2 y (lent_tk hy).1
   cases y with
   | none=>exact this
   | some g =>
    obtain⟨cap,hv,hg⟩:=this;exact⟨cap,hv,(hk g _ _ hg).trans hg⟩
 induction h with
 | bot=>exact .bot
 | d h1=>exact .d (h1.mono hc)
 | osl h1 h2=>exact .osl (h1.mono hc) (hown h2)
 | ptr h1=>cases ho with|ptr h=>exact h.elim
 | here h1 h2=>cases ho with|here h=>exact h.elim
 | buf h1 h2 h3 h4=>exact .buf (h1.mono hc) (hown h2) (fun e=>h3 (lent_tk e).1) (fun g hg=>h4 g (lent_tk hg).1)
 | cptr a u h1 h2=>exact .cptr a u (fun j hj=>hc _ _ (h1 j hj).1 (h1 j hj).2) fun j hj=>(h2 j hj).mono hc
 | msl h1=>cases ho with|msl h=>exact h.elim
 | fn hl _ ih=>cases ho with|fn h=>exact .fn hl fun i h1 h2=>ih i h1 h2 (h _ (List.getElem_mem h1))
 | agg hl _ hone ih=>cases ho with|agg h=>exact .agg hl (fun i h1 h2=>ih i h1 h2 (h _ (List.getElem_mem h1))) hone
 | tup hl _ ih=>cases ho with|tup h=>exact .tup hl fun i h1 h2=>ih i h1 h2 (h _ (List.getElem_mem h1))
 | ex h1 =>
  obtain⟨r1,r0,r2⟩:=h1;refine .ex ⟨r1,r0,fun y hy=>?_⟩;obtain⟨hy1,hn⟩:=lent_tk hy;obtain⟨g,cap,cs,e,rfl,h2,h3,h4,h5,_⟩:=r2 y hy1;exact absurd ⟨g,hy1,h5⟩ hn
 | stk h1 =>
  obtain⟨r1,A,cap,hv,hc1,hmx,r2⟩:=h1;refine .stk ⟨r1,A,cap,hv,hc1,hmx,fun y hy=>?_⟩;obtain⟨hy1,hn⟩:=lent_tk hy;have h0:=r2 y hy1;cases y with
  | none=>exact h0
  | some g =>
   obtain⟨hA,vs,sp,e,h5,_⟩:=h0;exact absurd ⟨g,hy1,h5⟩ hn
 | que h1 h2=>exact .que (h1.mono hc) (h2.imp h2.1 fun x hx=>⟨(lent_tk hx).1,fun g _ f c he=>(hk g f c he).trans he⟩)
 | mp h1 =>
  obtain⟨r1,r0,r,hv,r2⟩:=h1;refine .mp ⟨r1,r0,r,hv,fun y hy=>?_⟩;obtain⟨hy1,hn⟩:=lent_tk hy;obtain⟨rfl,h5,_⟩:=r2 y hy1;exact absurd ⟨r,hy1,h5⟩ hn
 | mpd h1=>exact .mpd (h1.imp hc fun r _ hk1=>⟨by simp only[Gh.lent];split;rfl;exact hk1,rfl⟩)
theorem Lent.rv{G:Gh}{m:AMem}{w:World}(hm:RelM G m w){x y:AV}{v:Value}(hb:Lent m.box m.tok x y)(h:RV G w x v):RV G.lent w y v:=by
 induction hb generalizing v with
 | fn hl _ ih =>
  cases h with
  | fn hl' hh=>exact .fn (hl.symm.trans hl') fun i h1 h2=>ih i (by omega) h1 (hh i (by omega) h2)
 | same ho=>exact h.lent hm ho
 | stk ht=>exact .d (lent_cell hm (.stk ht) h)
 | @ptr k row ds hk hd =>
  generalize hx:AV.ptr k 0 0=x at h;cases h with
  | @ptr k' i off b sz hbx =>
   cases hx;obtain⟨hkind,cs,e,hheap,hrows,hR,hone⟩:=hm.box k [row] b sz hk hbx;have hR:RVs G w row cs.toList:=by simpa using hR
   obtain⟨hl,hat⟩:=hd.at;have hlb:G.lb b:=.inl ⟨k,sz,hbx⟩
   have:=RV.cptr (G:=G.lent) (w:=w) (cs:=ds) (off:=0) ⟨b,0,none⟩ (fun j=>cs.getD j default) (fun j hj=>?_) (fun j hj=>?_)
   .rw[add_none] at this;simpa using this
   .rw[add_none];refine⟨by simp[Gh.ps,Gh.lent,hlb],?_⟩;rw[cell_of_row w b _ _ e (0,0) hheap,Nat.zero_add];have hjl:j<cs.size:=by have:=hR.1;simp at this;omega
    simp[hjl]
   .have hjl:j<cs.size:=by have:=hR.1;simp at this;omega
    have h1:=lent_cell hm (hat j (by omega) hj) (hR.2 j (by omega) (by simpa using hjl));simpa[hjl] using h1
  | _=>cases hx
theorem LentL.rvs{G:Gh}{m:AMem}{w:World}(hm:RelM G m w):∀{xs ys:List AV} {vs:List Value},LentL m.box m.tok xs ys->RVs G w xs vs->RVs G.lent w ys vs
 | [],[],vs,_,h=>⟨by have:=h.1;simpa using this,fun i h=>by simp at h⟩
 | x::a,y::b,vs,hb,h=>by
  obtain⟨v,us,rfl,h1,h2⟩:=h.uncons;exact RVs.cons (hb.1.rv hm h1) (LentL.rvs hm hb.2 h2)
 | [],_::_,_,h,_=>h.elim
 | _::_,[],_,h,_=>h.elim
theorem RCall.lends{f:FuncId}{args args':List AV}{box:Bxs}{tok:Nat->Bool}{nt:Nat}{u:Value}(hu:u.oneCell'=true)(h:∀tok,DCall P f args' tok nt (.d (.raw u)) tok nt)(hb:LentL box tok args args'):RCall P f args box tok nt (.d (.raw u)) tok nt:=by
 classical
 intro box' nb hext;have hb':=hb.ext hext
 refine⟨(h tok (fun _=>none) nb).1,fun G w vals hm hr=>?_⟩;obtain⟨_,hc⟩:=h (fun t=>tok t&&decide (¬G.lt t)) (fun _=>none) nb;have hlbk:=fun {b} (hb:G.lb b)=>lb_kind hm hb
 have hnl:∀t g,G.tk t=some (some g)->¬G.lt t->¬G.lb g:=fun t g ht hn hl=>by
  rcases hl with ⟨k,sz,hk⟩|⟨t2,h1,h2⟩
  .obtain⟨f',cur,e,h1,_⟩:=hm.tokb t g ht;rw[(hm.blt hk).2] at h1;rcases h1 with ⟨h1,_⟩|h1<;>cases h1
  .exact hn ⟨g,ht,h2⟩
 have hm1:RelM G.lent ⟨fun _=>none,nb,fun t=>tok t&&decide (¬G.lt t),nt⟩ w:=by
  constructor
  case box=>intro k rows b sz h1;cases h1
  case nobox=>intro k _;rfl
  case inj=>intro k k' b sz sz' h1;cases h1
  case nb=>intro k _;rfl
  case nt=>exact hm.nt
  case toks =>
   intro t ht;simp only[Bool.and_eq_true,decide_eq_true_eq] at ht;obtain⟨h1,x,h2⟩:=hm.toks t ht.1;exact⟨h1,x,by simp only[Gh.lent];rw[if_neg ht.2];exact h2⟩
  case tokb =>
   intro t g ht;obtain⟨h1,h2⟩:=lent_tk ht;obtain⟨f',cur,e,h3,h4⟩:=hm.tokb t g h1;refine⟨f',cur,e,?_,h4⟩;simp only[Gh.lent];rw[if_neg (hnl t g h1 h2)];exact h3
  case tinj=>exact fun t t' g h1 h2=>hm.tinj t t' g (lent_tk h1).1 (lent_tk h2).1
  case tnt=>exact fun t x h1=>hm.tnt t x (lent_tk h1).1
  case glob=>exact hm.glob.mono fun a u h1 h2=>⟨lent_ps h1,h2⟩
  case fresh =>
   intro b hb1;simp only[Gh.lent];split
   .rfl
   .exact hm.fresh b hb1
 refine Calls.mono (hc G.lent w vals hm1 (hb'.rvs hm hr)) ?_;rintro e w' ⟨v,av,m',G1,rfl,⟨rfl,rfl⟩,h3,h4,h5,h6,h7⟩;have hv:v=u:=by cases h5 with|d h=>cases h;rfl
 subst hv;have hkeep:∀b,G.lb b->G1.kind b=.whole/\w'.heap[b]?=w.heap[b]?:=fun b hb1=>h6.whole b (hlbk hb1).1 (by simp[Gh.lent,hb1])
 have hltb:∀t,G.lt t->∃g,G.tk t=some (some g)/\G.kind g=.ex/\G.lb g:=fun t ⟨g,h1,h2⟩=>⟨g,h1,h2,.inr ⟨t,h1,h2⟩⟩
 have hle:Le G w (G.back G1) w':=by
  refine⟨h6.os,h6.tape,h6.output,h6.size,fun b hb1 hk=>?_,fun b f' c hk=>?_,fun _ _ h=>h,h6.nt,fun t ht=>?_,?_⟩
  .have hn:¬G.lb b:=fun e=>by rcases (hlbk e).2 with h|h<;>rw[hk] at h<;>cases h
   obtain⟨a1,a2⟩:=h6.whole b hb1 (by simp only[Gh.lent];rw[if_neg hn];exact hk);exact⟨by simp only[Gh.back];rw[if_neg hn];exact a1,a2⟩
  .have hn:¬G.lb b:=fun e=>by rcases (hlbk e).2 with h|h<;>rw[hk] at h<;>cases h
   obtain⟨⟨f2,a1,a2⟩,a3⟩:=h6.part b f' c (by simp only[Gh.lent];rw[if_neg hn];exact hk);exact⟨⟨f2,a1,by simp only[Gh.back];rw[if_neg hn];exact a2⟩,a3⟩
  .by_cases hl:G.lt t
   .refine .inr ⟨by simp only[Gh.back];rw[if_pos hl],fun g hg=>?_⟩;obtain⟨g',h1,h2,h3⟩:=hltb t hl;rw[hg] at h1;cases h1;exact⟨by simp only[Gh.back];rw[if_pos h3],fun _=>(hkeep g h3).2⟩
   .have e1:(G.back G1).tk t=G1.tk t:=by simp only[Gh.back];rw[if_neg hl]
    have e2:G.lent.tk t=G.tk t:=by simp only[Gh.lent];rw[if_neg hl]
    rcases h6.tk t ht with a1|⟨a1,a2⟩
    .exact .inl (e1.trans a1)
    .refine .inr ⟨(e1.trans a1).trans e2,fun g hg=>?_⟩;have hn:=hnl t g hg hl;obtain⟨b1,b2⟩:=a2 g (e2.trans hg);simp only[Gh.lent] at b1 b2;rw[if_neg hn] at b1 b2;exact⟨by simp only[Gh.back];rw[if_neg hn];exact b1,b2⟩
  .exact h6.ty
 refine⟨v,_,_,G.back G1,rfl,⟨rfl,rfl⟩,rfl,?_,.d (.raw hu),hle,fun k hk=>⟨hk,rfl⟩⟩;have hG1:∀t g,¬G.lt t->(G.back G1).tk t=some (some g)->G1.tk t=some (some g)/\¬G.lb g:=fun t g hl ht=>by
  have e1:G1.tk t=some (some g):=by simp only[Gh.back] at ht;rw[if_neg hl] at ht;exact ht
  refine⟨e1,fun hpg=>?_⟩;obtain⟨f',cur,e,g1,_⟩:=h4.tokb t g e1;rw[(hkeep g hpg).1] at g1;rcases g1 with ⟨g1,_⟩|g1<;>cases g1
 have hG0:∀t,G.lt t->(G.back G1).tk t=G.tk t:=fun t hl=>by simp only[Gh.back];rw[if_pos hl]
 constructor
 case box =>
  intro k rows b sz hk hb1;obtain⟨g1,cs,e,g2,g3,g4,g5⟩:=hm.box k rows b sz hk hb1;have hpk:G.lb b:=.inl ⟨k,sz,hb1⟩
  exact⟨by simp only[Gh.back];rw[if_pos hpk];exact g1,cs,e,(hkeep b hpk).2.trans g2,g3,g4.mono hle,g5⟩
 case nobox=>exact hm.nobox
 case inj=>exact hm.inj
 case nb=>exact hm.nb
 case nt=>exact h4.nt
 case toks =>
  intro t ht;obtain⟨h1,x,h2⟩:=hm.toks t ht;refine⟨h1,?_⟩;by_cases hl:G.lt t
  .exact⟨x,(hG0 t hl).trans h2⟩
  .obtain⟨_,y,h3⟩:=h4.toks t (by simp only[Bool.and_eq_true,decide_eq_true_eq];exact⟨ht,hl⟩);exact⟨y,by simp only[Gh.back];rw[if_neg hl];exact h3⟩
 case tokb =>
  intro t g ht;by_cases hl:G.lt t
  .rw[hG0 t hl] at ht;obtain⟨g',h1,h2,h3⟩:=hltb t hl;rw[ht] at h1;cases h1;obtain⟨f',cur,e,g1,g2⟩:=hm.tokb t g ht;exact⟨f',cur,e,by simp only[Gh.back];rw[if_pos h3];exact g1,(hkeep g h3).2.trans g2⟩
  .obtain⟨h1,hn⟩:=hG1 t g hl ht;obtain⟨f',cur,e,g1,g2⟩:=h4.tokb t g h1;exact⟨f',cur,e,by simp only[Gh.back];rw[if_neg hn];exact g1,g2⟩
 case tinj =>
  intro t t' g ht ht';by_cases hl:G.lt t<;>by_cases hl':G.lt t'
  .rw[hG0 t hl] at ht;rw[hG0 t' hl'] at ht';exact hm.tinj t t' g ht ht'
  .rw[hG0 t hl] at ht;obtain⟨g',h1,_,h3⟩:=hltb t hl;rw[ht] at h1;cases h1;exact absurd h3 (hG1 t' g hl' ht').2
  .rw[hG0 t' hl'] at ht';obtain⟨g',h1,_,h3⟩:=hltb t' hl';rw[ht'] at h1;cases h1;exact absurd h3 (hG1 t g hl ht).2
  .exact h4.tinj t t' g (hG1 t g hl ht).1 (hG1 t' g hl' ht').1
 case tnt =>
  intro t x ht;by_cases hl:G.lt t
  .rw[hG0 t hl] at ht;have:=hm.tnt t x ht
   have e1:=hm.nt;have e2:=h4.nt;simp only[Gh.back];simp only at e1 e2;omega
  .simp only[Gh.back] at ht;rw[if_neg hl] at ht;exact h4.tnt t x ht
 case glob=>exact hm.glob.mono hle.cells
 case fresh =>
  intro b hb1;have:=h6.size
  have hn:¬G.lb b:=fun hpb1=>by have:=(hlbk hpb1).1;omega
  simp only[Gh.back];rw[if_neg hn];exact h4.fresh b hb1
variable {P:Program}
theorem Le.reKind{G:Gh}{w:World}{g:Nat}(k:BK)(hk:G.kind g=.ex)(ht:∀t,G.tk t≠some (some g)):Le G w (G.setKind g k) w where
 os:=rfl
 tape:=rfl
 output:=rfl
 size:=nr _
 whole b _ h:=⟨by simp only[Gh.setKind];rw[uO _ _ (fun e=>by subst e;rw[hk] at h;cases h)];exact h,rfl⟩
 part b f c h:=⟨⟨f,nr _,by simp only[Gh.setKind];rw[uO _ _ (fun e=>by subst e;rw[hk] at h;cases h)];exact h⟩,fun _ _ _=>rfl⟩
 bx _ _ h:=h
 nt:=nr _
 tk t _:=.inr ⟨rfl,fun j hj=>⟨by simp only[Gh.setKind];exact uO _ _ (fun e=>by subst e;exact ht t hj),fun _=>rfl⟩⟩
 ty _ cs T f h:=⟨cs,f,h⟩
theorem RelM.reKind{G:Gh}{m:AMem}{w:World}(h:RelM G m w){g:Nat}(k:BK)(hk:G.kind g=.ex)(ht:∀t,G.tk t≠some (some g))(hg:g<w.heap.size):RelM (G.setKind g k) m w:=by
 have hle:=Le.reKind (w:=w) k hk ht;constructor
 case box =>
  intro q rows b sz hq hb;obtain⟨h1,cs,e,h2,h3,h4,h5⟩:=h.box q rows b sz hq hb;refine⟨?_,cs,e,h2,h3,h4.mono hle,h5⟩;simp only[Gh.setKind];rw[uO _ _ (fun e=>by subst e;rw[hk] at h1;cases h1)];exact h1
 case nobox=>exact h.nobox
 case inj=>exact h.inj
 case nb=>exact h.nb
 case nt=>exact h.nt
 case toks=>exact h.toks
 case tokb =>
  intro t j hj;obtain⟨f0,cur0,e0,h1,h2⟩:=h.tokb t j hj;refine⟨f0,cur0,e0,?_,h2⟩;simp only[Gh.setKind];rw[uO _ _ (fun e=>by subst e;exact ht t hj)];exact h1
 case tinj=>exact h.tinj
 case tnt=>exact h.tnt
 case glob=>exact h.glob.mono hle.cells
 case fresh =>
  intro b hb;simp only[Gh.setKind];rw[uO _ _ (by omega)];exact h.fresh b hb
theorem kill_not{G:Gh}{m:AMem}{w:World}(hm:RelM G m w){t g:Nat}(hx:G.tk t=some (some g)):∀q,(G.kill (.tok t)).tk q≠some (some g):=by
 intro q hq;simp only[Gh.kill] at hq;by_cases e:q=t
 .subst e;simp[uS] at hq
 .rw[uO _ _ e] at hq;exact e (hm.tinj q t g hq hx)
inductive SdTo (t:Nat):AV->AV->Prop
 | bot {x}:SdTo t x .bot
 | same {x}:SdTo t x x
 | stk {sz es}:SdTo t (.stk t sz es) (.d (.sl sz es))
theorem Trans.stkD{cx:Cx}{nt0 nt:Nat}{l l':List (Nat × AV)}{out:Bxs}{loc loc':List (Nat × List (List AV))}{tok:Nat->Bool}(t:Nat)(ht:tok t=true)(hl:CvL (SdTo t) l l')(hb:CvB (SdTo t) loc loc'):
  Trans cx nt0 ⟨tl l,lb cx.base out loc,tok,nt⟩ ⟨tl l',lb cx.base out loc',upd tok t false,nt⟩:=by
 intro G0 w0 G a w he hn0 hS hL;have hm:=hS.mem;obtain⟨hlt,x,hx⟩:=hm.toks t ht;have hmk:=hm.kill (.tok t);have hlk:=Le.kill (G:=G) (w:=w) (.tok t);have hstk:∀{sz:Nat} {es:List (List D)} {v:Value},RV G w (.stk t sz es) v->StkR G w t sz es v:=fun h=>by cases h with|stk h=>exact h
 have fin:∀G',Le G w G' w->G'.bx=G.bx->RelM G' ⟨lb cx.base out loc,cx.nb,upd tok t false,nt⟩ w->(∀sz es v,StkR G w t sz es v->RVd w.cell? G'.ps (.sl sz es) v) ->
   ∃G',RelS cx.n cx.nb G' ⟨tl l',lb cx.base out loc',upd tok t false,nt⟩ a w/\LeC cx G0 w0 G' w ⟨tl l',lb cx.base out loc',upd tok t false,nt⟩:=by
  intro G' hle hbx hm' hd;have hto:∀x y v,SdTo t x y->RV G w x v->RV G' w y v:=fun x y v h hr=>by
   cases h with
   | bot=>exact .bot
   | same=>exact hr.mono hle
   | stk=>exact .d (hd _ _ v (hstk hr))
  refine⟨G',⟨hS.defers,hS.size,fun i=>hto _ _ _ (hl.at .bot i) (hS.tmps i),?_⟩,?_⟩
  .constructor
   case box =>
    intro k rows b z hk hbk;simp only at hk;by_cases hkb:k<cx.base
    .rw[lO hkb] at hk;exact hm'.box k rows b z (by simp only;rw[lO hkb];exact hk) hbk
    .have hkk:k=cx.base+(k-cx.base):=by omega
     rw[hkk,lb_at] at hk;rcases hb.at (k-cx.base) with ⟨_,h2⟩|⟨r0,r',h1,h2,h3⟩
     .rw[h2] at hk;cases hk
     .rw[h2] at hk;cases hk;obtain⟨_,cs,e,g2,g3,g4,g5⟩:=hm.box k r0 b z (by simp only;rw[hkk,lb_at];exact h1) (by rw[<-hbx];exact hbk);obtain⟨g1,_⟩:=hm'.box k r0 b z (by simp only;rw[hkk,lb_at];exact h1) hbk;refine⟨g1,cs,e,g2,fun q hq=>?_,⟨h3.flat.1.symm.trans g4.1,fun i h1 h2=>hto _ _ _ (h3.flat.2 i (by rw[h3.flat.1];exact h1) h1) (g4.2 i _ h2)⟩,g5⟩;obtain⟨i,hi,rfl⟩:=List.getElem_of_mem hq;have hi0:i<r0.length:=by rw[h3.1];exact hi
      rw[<-(h3.2 i hi0 hi).1];exact g3 _ (List.getElem_mem _)
   case nobox =>
    intro k hk;refine hm'.nobox k ?_;simp only at hk ⊢;by_cases hkb:k<cx.base
    .rw[lO hkb] at hk ⊢;exact hk
    .have hkk:k=cx.base+(k-cx.base):=by omega
     rw[hkk,lb_at] at hk ⊢;rcases hb.at (k-cx.base) with ⟨h1,_⟩|⟨r0,r',_,h2,_⟩
     .exact h1
     .rw[h2] at hk;cases hk
   case inj=>exact hm'.inj
   case nb =>
    intro k hk;have h0:=hm'.nb k hk;simp only at h0 ⊢;by_cases hkb:k<cx.base
    .rw[lO hkb] at h0 ⊢;exact h0
    .have hkk:k=cx.base+(k-cx.base):=by omega
     rw[hkk,lb_at] at h0 ⊢;rcases hb.at (k-cx.base) with ⟨_,h2⟩|⟨r0,r',h1,_,_⟩
     .exact h2
     .rw[h1] at h0;cases h0
   case nt=>exact hm'.nt
   case toks=>exact hm'.toks
   case tokb=>exact hm'.tokb
   case tinj=>exact hm'.tinj
   case tnt=>exact hm'.tnt
   case glob=>exact hm'.glob
   case fresh=>exact hm'.fresh
  .refine hL.step ⟨hle,fun k hkb hg=>⟨by rw[hbx];exact hg,?_⟩⟩;simp only;rw[lO hkb,lO hkb]
 cases x with
 | none =>
  refine fin (G.kill (.tok t)) hlk rfl hmk fun sz es v hv=>?_
  obtain⟨_,A,cap,rfl,hcap,hmax,hst⟩:=hv;have hc0:cap=0:=hst _ hx
  have hes:es=[]:=List.eq_nil_of_length_eq_zero (by omega)
  subst hes;exact .sl (es:=[]) (fun _ _=>default) (Nat.zero_le _) hmax (by simp) (by simp) (fun a _ i j hi _=>by simp at hi) (fun i j hi _=>by simp at hi)
 | some g =>
  obtain⟨f,cur,e,hkg,hg⟩:=hm.tokb t g hx;by_cases hex:G.kind g=.ex
  .have hnot:=kill_not hm hx;have hlr:=Le.reKind (G:=G.kill (.tok t)) (w:=w) .whole hex hnot;refine fin ((G.kill (.tok t)).setKind g .whole) (hlk.trans hlr) rfl (hmk.reKind .whole hex hnot (heap_lt hg)) fun sz es v hv=>?_
   obtain⟨_,A,cap,rfl,hcap,hmax,hst⟩:=hv;obtain⟨hA,vs,sp,e,h1,h2,h3,h4,h5⟩:=hst _ hx;refine RVd.of_flat hcap hmax ⟨h4.len,fun a ha q u hq=>?_,h4.one,fun _=>⟨_,hA⟩,h4.each,fun i j hi hj=>?_⟩
   .rw[hA] at ha;cases ha;rw[add_none];refine⟨by simp[Gh.ps,Gh.setKind,uS],?_⟩;rw[cell_of_row w g _ _ e (0,0) h2,Nat.zero_add];simp only[List.getElem?_toArray];rw[List.getElem?_append_left (List.getElem?_eq_some_iff.1 hq).1];exact hq
   .obtain⟨u,hu,hr⟩:=h4.read i j hi hj;exact⟨u,hu,hr.mono (hlk.trans hlr).cells⟩
  .refine fin (G.kill (.tok t)) hlk rfl hmk fun sz es v hv=>?_
   obtain⟨_,A,cap,rfl,hcap,hmax,hst⟩:=hv;obtain⟨_,vs,sp,e,h1,_⟩:=hst _ hx;exact absurd h1 hex
def AV.sdT(t:Nat):AV->AV
 | .stk t' sz es=>if t'=t then .d (.sl sz es) else .stk t' sz es
 | x=>x
theorem sdT_to(t:Nat)(x:AV):SdTo t x (x.sdT t):=by
 cases x with
 | stk t' sz es =>
  simp only[AV.sdT];split
  .rename_i h;subst h;exact .stk
  .exact .same
 | _=>exact .same
theorem cvL_map{R:AV->AV->Prop}{f:AV->AV}(h:∀x,R x (f x)):∀l:List (Nat × AV),CvL R l (l.map fun q=>(q.1,f q.2))
 | []=>trivial
 | (i,x)::l=>⟨rfl,h x,cvL_map h l⟩
theorem cvB_map{R:AV->AV->Prop}{f:AV->AV}(h:∀x,R x (f x)):∀l:List (Nat × List (List AV)),CvB R l (l.map fun q=>(q.1,q.2.map fun r=>r.map f))
 | []=>trivial
 | (i,x)::l=>⟨rfl,⟨by simp,fun i h1 h2=>⟨by simp,fun j g1 g2=>by simp only[List.getElem_map];exact h _⟩⟩,cvB_map h l⟩
theorem AL.stkD{cx:Cx}{nt0 nt:Nat}{K:Exit->AS->Prop}{q:List CI}{x:Code}{l:List (Nat × AV)}{out:Bxs}{loc:List (Nat × List (List AV))}{tok:Nat->Bool}(t:Nat)(ht:tok t=true)(h:AL P cx nt0 K (.c x::q) ⟨tl (l.map fun q=>(q.1,q.2.sdT t)),lb cx.base out (loc.map fun q=>(q.1,q.2.map fun r=>r.map (AV.sdT t))),upd tok t false,nt⟩):AL P cx nt0 K (.c x::q) ⟨tl l,lb cx.base out loc,tok,nt⟩ :=
 AL.trans (Trans.stkD t ht (cvL_map (sdT_to t) l) (cvB_map (sdT_to t) loc)) h
variable {P:Program}
theorem FlatV.rvs{G:Gh}{w:World}{sz:Nat}:∀{es:List (List D)} {vs:List Value},FlatV w.cell? G.ps sz es vs->RVs G w (es.flatten.map AV.d) vs
 | [],vs,h=>by
  have hv:vs=[]:=List.eq_nil_of_length_eq_zero (by simpa using h.len)
  subst hv;exact⟨rfl,fun i h=>by simp at h⟩
 | e::es,vs,h=>by
  have he:e.length=sz:=h.each e (by simp)
  have hl:=h.len;rw[List.length_cons,Nat.add_mul] at hl;have h1:FlatV w.cell? G.ps sz es (vs.drop sz):=by
   refine⟨by rw[List.length_drop];omega,fun u hu=>h.one u (List.mem_of_mem_drop hu),fun q hq=>h.each q (by simp[hq]),fun i j hi hj=>?_⟩;obtain⟨u,hu,hr⟩:=h.read (i+1) j (by simpa using hi) (by simpa using hj);refine⟨u,?_,by simpa using hr⟩;rw[List.getElem?_drop,<-hu];congr 1
   rw[Nat.add_mul];omega
  have ih:=FlatV.rvs h1;have h2:RVs G w (e.map AV.d) (vs.take sz):=by
   refine⟨by rw[List.length_map,List.length_take];omega,fun j g1 g2=>?_⟩;have hj:j<e.length:=by simpa using g1
   obtain⟨u,hu,hr⟩:=h.read 0 j (by simp) (by simpa using hj);simp only[List.getElem_map,List.getElem_take];obtain⟨hlt,rfl⟩:=List.getElem?_eq_some_iff.1 hu;simp only[Nat.zero_mul,Nat.zero_add] at hr ⊢;exact .d (by simpa using hr)
  have:=h2.append ih
  rw[List.take_append_drop] at this;simpa using this
inductive TsTo (t k sz:Nat) (es:List (List D)):AV->AV->Prop
 | bot {x}:TsTo t k sz es x .bot
 | same {x}:TsTo t k sz es x x
 | stk:TsTo t k sz es (.stk t sz es) (.msl k 0 es.length sz)
theorem AT.thawS{cx:Cx}{nt0 nt:Nat}{c:Code}{K:Exit->AS->Prop}{l l':List (Nat × AV)}{out:Bxs}{loc loc':List (Nat × List (List AV))}{tok:Nat->Bool}(t s sz:Nat)(es:List (List D))(r:Nat)(hn:cx.nb=cx.base+cx.n)(hs:s<cx.n)(hk:lk loc s=none)(ht:tok t=true)(hne:es≠[])(hr:tl l r=.stk t sz es)(hl:CvL (TsTo t (cx.base+s) sz es) l l')(hb:CvB (TsTo t (cx.base+s) sz es) loc loc')(h:∀m,AT P cx nt0 c ⟨tl l',lb cx.base out ((s,rowsD es++List.replicate m (List.replicate sz .bot))::loc'),upd tok t false,nt⟩ K):AT P cx nt0 c ⟨tl l,lb cx.base out loc,tok,nt⟩ K:=by
 intro G0 w0 hen hnt G a w hS hL;have hm:=hS.mem;obtain⟨hlt,x,hx⟩:=hm.toks t ht;have hstk:∀{v:Value},RV G w (.stk t sz es) v->StkR G w t sz es v:=fun h=>by cases h with|stk h=>exact h
 have hwit:=hS.tmps r;simp only at hwit;rw[hr] at hwit;obtain⟨_,A,cap,hv,hcap,hmax,hst⟩:=hstk hwit;have hst:=hst x hx;cases x with
 | none =>
  have hc0:cap=0:=hst
  exact absurd (List.eq_nil_of_length_eq_zero (by omega)) hne
 | some g =>
  obtain⟨hA,vs,sp,e,hkg,hheap,hlen,hf,hsp⟩:=hst;have hboxk:lb cx.base out loc (cx.base+s)=none:=by rw[lb_at];exact hk
  have hbxk:G.bx (cx.base+s)=none:=hm.nobox _ hboxk
  have hnb:∀{k b z},G.bx k=some (b,z)->b≠g:=fun h e=>by
   have:=(hm.blt h).2
   rw[e,hkg] at this;cases this
  have hmk:=hm.kill (.tok t);have hnot:=kill_not hm hx;have hm1:=hmk.reKind .box hkg hnot (heap_lt hheap)
  let G1:Gh:=(G.kill (.tok t)).setKind g .box
  let G':Gh:={ G1 with bx:=upd G.bx (cx.base+s) (some (g,sz)) }
  have hle1:Le G w G1 w:=(Le.kill (.tok t)).trans (Le.reKind .box hkg hnot)
  have hle2:Le G1 w G' w:=⟨rfl,rfl,rfl,nr _,fun _ _ h=>⟨h,rfl⟩,fun _ f _ h=>⟨⟨f,nr _,h⟩,fun _ _ _=>rfl⟩,fun k x hk=>by
   simp only[G'];rw[uO _ _ (fun e=>by
    have hk:G.bx k=some x:=hk
    rw[e,hbxk] at hk;cases hk)]
   exact hk,nr _,fun t _=>.inr ⟨rfl,fun _ _=>⟨rfl,fun _=>rfl⟩⟩,fun _ cs T f h=>⟨cs,f,h⟩⟩
  have hle:=hle1.trans hle2;have hto:∀x y v,TsTo t (cx.base+s) sz es x y->RV G w x v->RV G' w y v:=fun x y v h hr=>by
   cases h with
   | bot=>exact .bot
   | same=>exact hr.mono hle
   | stk =>
    obtain⟨_,A',cap',rfl,hc1,hc2,h2⟩:=hstk hr;obtain⟨hA',_⟩:=h2 _ hx;subst hA';have:=RV.msl (G:=G') (w:=w) (k:=cx.base+s) (off:=0) (n:=es.length) (b:=g) (sz:=sz) (cap:=cap') (by simp[G',uS]) hc1 hc2
    simpa using this
  have hf':=hf.mono hle.cells
  have hvl:=hf.len;obtain⟨m,hmm⟩:∃m,cap=es.length+m:=⟨cap-es.length,by omega⟩
  have hspl:sp.length=m*sz:=by
   rw[List.length_append,hvl,hmm,Nat.add_mul] at hlen;omega
  refine h m G0 w0 hen hnt G' a w ⟨hS.defers,hS.size,fun i=>hto _ _ _ (hl.at .bot i) (hS.tmps i),?_⟩ ?_
  .constructor
   case box =>
    intro k rows b z hk' hb';by_cases e1:k=cx.base+s
    .subst e1;simp only[lb_at,lk_cons,↓reduceIte,Option.some.injEq] at hk';simp only[G',uS,Option.some.injEq,Prod.mk.injEq] at hb';obtain⟨rfl,rfl⟩:=hb';subst hk';refine⟨by simp[G',G1,Gh.setKind,uS],_,e,hheap,fun q hq=>?_,?_,fun v hv=>?_⟩
     .rcases List.mem_append.1 hq with hq|hq
      .obtain⟨p,hp,rfl⟩:=List.mem_map.1 hq;simpa using hf.each p hp
      .rw[List.eq_of_mem_replicate hq];simp
     .rw[List.flatten_append,rowsD_flat];have h2:RVs G' w (List.replicate m (List.replicate sz AV.bot)).flatten sp:=by
       refine⟨by rw[hspl];simp[List.length_flatten],fun i g1 g2=>?_⟩;have hmem:(List.replicate m (List.replicate sz AV.bot)).flatten[i]∈(List.replicate m (List.replicate sz AV.bot)).flatten:=List.getElem_mem _
       obtain⟨q,hq,hiq⟩:=List.mem_flatten.1 hmem;rw[List.eq_of_mem_replicate hq] at hiq;rw[List.eq_of_mem_replicate hiq];exact .bot
      simpa using hf'.rvs.append h2
     .have hv:v∈vs++sp:=by simpa using hv
      rcases List.mem_append.1 hv with hv|hv
      .exact hf.one v hv
      .exact hsp v hv
    .simp only[G'] at hb';rw[uO _ _ e1] at hb';have hold:∃rows0,lb cx.base out loc k=some rows0/\(rows0=rows∨CvRs (TsTo t (cx.base+s) sz es) rows0 rows):=by
      by_cases hkb:k<cx.base
      .refine⟨rows,?_,.inl rfl⟩;simp only at hk';rw[lO hkb] at hk' ⊢;exact hk'
      .have hkk:k=cx.base+(k-cx.base):=by omega
       simp only at hk';rw[hkk,lb_at] at hk' ⊢;rw[lk_cons,if_neg (by omega)] at hk';rcases hb.at (k-cx.base) with ⟨_,h2⟩|⟨r0,r',h1,h2,h3⟩
       .rw[h2] at hk';cases hk'
       .rw[h2] at hk';cases hk'
        exact⟨r0,h1,.inr h3⟩
     obtain⟨rows0,h1,h2⟩:=hold;obtain⟨g1,cs',e',g2,g3,g4,g5⟩:=hm.box k rows0 b z h1 hb';refine⟨by simp only[G',G1,Gh.setKind];rw[uO _ _ (hnb hb')];exact g1,cs',e',g2,?_,?_,g5⟩
     .rcases h2 with rfl|h2
      .exact g3
      .intro q hq;obtain⟨i,hi,rfl⟩:=List.getElem_of_mem hq;have hi0:i<rows0.length:=by rw[h2.1];exact hi
       rw[<-(h2.2 i hi0 hi).1];exact g3 _ (List.getElem_mem _)
     .rcases h2 with rfl|h2
      .exact g4.mono hle
      .exact⟨h2.flat.1.symm.trans g4.1,fun i k1 k2=>hto _ _ _ (h2.flat.2 i (by rw[h2.flat.1];exact k1) k1) (g4.2 i _ k2)⟩
   case nobox =>
    intro k hk';have hne:k≠cx.base+s:=fun e=>by subst e;simp[lb_at,lk_cons] at hk'
    simp only[G'];rw[uO _ _ hne];refine hm.nobox k ?_;simp only at hk' ⊢;by_cases hkb:k<cx.base
    .rw[lO hkb] at hk' ⊢;exact hk'
    .have hkk:k=cx.base+(k-cx.base):=by omega
     rw[hkk,lb_at] at hk' ⊢;rw[lk_cons,if_neg (by omega)] at hk';rcases hb.at (k-cx.base) with ⟨h1,_⟩|⟨r0,r',_,h2,_⟩
     .exact h1
     .rw[h2] at hk';cases hk'
   case inj =>
    intro j j' b z z' hj hj';simp only[G'] at hj hj';by_cases e1:j=cx.base+s<;>by_cases e2:j'=cx.base+s
    .exact e1.trans e2.symm
    .subst e1;rw[uS] at hj;rw[uO _ _ e2] at hj';cases hj;exact absurd rfl (hnb hj')
    .subst e2;rw[uS] at hj';rw[uO _ _ e1] at hj;cases hj'
     exact absurd rfl (hnb hj)
    .rw[uO _ _ e1] at hj;rw[uO _ _ e2] at hj';exact hm.inj j j' b z z' hj hj'
   case nb =>
    intro k hk';have h0:=hm.nb k hk';simp only at h0 ⊢;have hkb:¬k<cx.base:=by simp only at hk';omega
    have hkk:k=cx.base+(k-cx.base):=by omega
    rw[hkk,lb_at] at h0 ⊢;rw[lk_cons,if_neg (by simp only at hk';omega)];rcases hb.at (k-cx.base) with ⟨_,h2⟩|⟨r0,r',h1,_,_⟩
    .exact h2
    .rw[h1] at h0;cases h0
   case nt=>exact hm1.nt
   case toks=>exact hm1.toks
   case tokb=>exact hm1.tokb
   case tinj=>exact hm1.tinj
   case tnt=>exact hm1.tnt
   case glob=>exact hm.glob.mono hle.cells
   case fresh=>exact hm1.fresh
  .refine hL.step ⟨hle,fun k hkb hg=>⟨?_,?_⟩⟩
   .simp only[G'];rw[uO _ _ (by omega)];exact hg
   .simp only;rw[lO hkb,lO hkb]
theorem AL.thawS{cx:Cx}{nt0 nt:Nat}{K:Exit->AS->Prop}{q:List CI}{x:Code}{l l':List (Nat × AV)}{out:Bxs}{loc loc':List (Nat × List (List AV))}{tok:Nat->Bool}(t s sz:Nat)(es:List (List D))(r:Nat)(hn:cx.nb=cx.base+cx.n)(hs:s<cx.n)(hk:lk loc s=none)(ht:tok t=true)(hne:es≠[])(hr:tl l r=.stk t sz es)(hl:CvL (TsTo t (cx.base+s) sz es) l l')(hb:CvB (TsTo t (cx.base+s) sz es) loc loc')(h:∀m,AL P cx nt0 K (.c x::q) ⟨tl l',lb cx.base out ((s,rowsD es++List.replicate m (List.replicate sz .bot))::loc'),upd tok t false,nt⟩):AL P cx nt0 K (.c x::q) ⟨tl l,lb cx.base out loc,tok,nt⟩:=by
 simp only[AL] at h ⊢;exact AT.thawS t s sz es r hn hs hk ht hne hr hl hb h
section
variable {t k sz:Nat} {es:List (List D)}
@[simp] theorem tsTo_bot(x:AV):TsTo t k sz es x .bot:=.bot
@[simp] theorem tsTo_same(x:AV):TsTo t k sz es x x:=.same
@[simp] theorem tsTo_stk{n:Nat}:TsTo t k sz es (.stk t sz es) (.msl k 0 n sz)↔n=es.length:=⟨fun h=>by cases h;rfl,fun h=>by subst h;exact .stk⟩
end
variable {P:Program}
theorem FlatV.of_rvs{G:Gh}{w:World}{sz:Nat}:∀{es:List (List D)} {vs:List Value},(∀e∈es,e.length=sz)->RVs G w (es.flatten.map AV.d) vs->(∀v∈vs,v.oneCell'=true)->FlatV w.cell? G.ps sz es vs
 | [],vs,_,h,_=>by
  have hv:vs=[]:=List.eq_nil_of_length_eq_zero (by have:=h.1;simpa using this.symm)
  subst hv;exact FlatV.none_ _ _ _
 | e::es,vs,hs,h,h1=>by
  have he:=hs e (by simp);rw[List.flatten_cons,List.map_append] at h;have hl:=h.1;rw[List.length_append,List.length_map,List.length_map] at hl;have ha:=h.take e.length;have hb:=h.drop e.length;rw[List.take_append_of_le_length (by simp),List.take_of_length_le (by simp)] at ha;rw[List.drop_append,List.drop_of_length_le (by simp),List.nil_append,List.length_map,Nat.sub_self,List.drop_zero] at hb;have f1:FlatV w.cell? G.ps sz [e] (vs.take e.length):=by
   refine⟨by rw[List.length_take];simp;omega,fun u hu=>h1 u (List.mem_of_mem_take hu),fun q hq=>by simp at hq;rw[hq];exact he,fun i j hi hj=>?_⟩;have hi0:i=0:=by simp at hi;omega
   subst hi0;simp only[List.getElem_cons_zero] at hj ⊢;have hj2:j<(vs.take e.length).length:=by rw[List.length_take];omega
   have h3:=ha.2 j (by simpa using hj) hj2;simp only[List.getElem_map] at h3;refine⟨(vs.take e.length)[j],by rw[Nat.zero_mul,Nat.zero_add];exact List.getElem?_eq_getElem hj2,?_⟩;cases h3 with
   | d h4=>exact h4
  have f2:=FlatV.of_rvs (fun q hq=>hs q (by simp[hq])) hb (fun v hv=>h1 v (List.mem_of_mem_drop hv));have:=f1.append f2
  rw[List.take_append_drop] at this;exact this
inductive SpTo (k sz:Nat) (es:List (List D)):AV->AV->Prop
 | bot {x}:SpTo k sz es x .bot
 | same {x} (h:OkIn (· ≠ k) (fun _=>True) x):SpTo k sz es x x
 | msl:SpTo k sz es (.msl k 0 es.length sz) (.d (.sl sz es))
theorem Trans.sealD{cx:Cx}{nt0 nt:Nat}{l l':List (Nat × AV)}{out:Bxs}{loc loc':List (Nat × List (List AV))}{tok:Nat->Bool}(s sz:Nat)(es:List (List D))(rest:List (List AV))(r:Nat)(ho:out=cx.B0)(hsz:∀e∈es,e.length=sz)(hr:tl l r=.msl (cx.base+s) 0 es.length sz)(hk':lk loc' s=none)(hl:CvL (SpTo (cx.base+s) sz es) l l')(hb:CvB (SpTo (cx.base+s) sz es) loc loc'):
  Trans cx nt0 ⟨tl l,lb cx.base out ((s,rowsD es++rest)::loc),tok,nt⟩ ⟨tl l',lb cx.base out loc',tok,nt⟩:=by
 intro G0 w0 G a w he hn0 hS hL;have hm:=hS.mem;have hgnt:G.nt=nt:=hm.nt
 have hwit:=hS.tmps r;simp only at hwit;rw[hr] at hwit;obtain⟨b,hbk⟩:∃b,G.bx (cx.base+s)=some (b,sz):=by
  generalize hq:(AV.msl (cx.base+s) 0 es.length sz)=q at hwit;generalize a.tmps.getD r undef=v0 at hwit;cases hwit with
  | msl h1 h2 h3=>cases hq;exact⟨_,h1⟩
  | _=>cases hq
 have hboxk:lb cx.base out ((s,rowsD es++rest)::loc) (cx.base+s)=some (rowsD es++rest):=by rw[lb_at,lk_cons,if_pos rfl]
 obtain⟨hkind,cs,e,hheap,hrows,hR,hone⟩:=hm.box _ _ b sz hboxk hbk
 let G1:Gh:={ bx:=G.bx,kind:=upd G.kind b .whole,tk:=G.tk,nt:=G.nt }
 let G':Gh:={ bx:=upd G.bx (cx.base+s) none,kind:=upd G.kind b .whole,tk:=G.tk,nt:=G.nt }
 have hne:∀{q j},G.tk q=some (some j)->j≠b:=fun h e=>by
  obtain⟨f,cur,e',h1,_⟩:=hm.tokb _ _ h;rw[e,hkind] at h1;rcases h1 with ⟨h1,_⟩|h1<;>cases h1
 have hle:Le G w G1 w:=by
  refine⟨rfl,rfl,rfl,nr _,fun b' _ hb'=>⟨?_,rfl⟩,fun b' f c hb'=>⟨⟨f,nr _,?_⟩,fun _ _ _=>rfl⟩,fun k x hk=>hk,nr _,fun q hq=>?_,fun _ _ _ _ h=>⟨_,_,h⟩⟩
  .simp only[G1];rw[uO _ _ (fun e=>by rw[e,hkind] at hb';cases hb')];exact hb'
  .simp only[G1];rw[uO _ _ (fun e=>by rw[e,hkind] at hb';cases hb')];exact hb'
  .refine .inr ⟨rfl,fun j hj=>⟨?_,fun _=>rfl⟩⟩;simp only[G1];exact uO _ _ (hne hj)
 have hcells:∀(q:Addr) (u:Value),G.ps q->w.cell? q=some u->G'.ps q/\w.cell? q=some u:=fun q u h1 h2=>hle.cells q u h1 h2
 -- what does not speak of the box
 have hok:∀{x:AV} {v:Value},OkIn (· ≠ cx.base+s) (fun _=>True) x->RV G w x v->RV G' w x v:=by
  intro x v hx h;have h1:=h.mono hle;clear h;induction h1 with
  | bot=>exact .bot
  | d h2=>exact .d h2
  | osl h2 h3=>exact .osl h2 h3
  | ptr h2=>cases hx with|ptr hp=>exact .ptr (by simp only[G'];rw[uO _ _ hp];exact h2)
  | buf h2 h3 h4 h5=>exact .buf h2 h3 h4 h5
  | here h2 h3=>cases hx with|here hp=>exact .here (by simp only[G'];rw[uO _ _ hp];exact h2) h3
  | cptr q u hc hr=>exact .cptr q u hc hr
  | msl h2 h3 h4=>cases hx with|msl hp=>exact .msl (by simp only[G'];rw[uO _ _ hp];exact h2) h3 h4
  | fn hl _ ih=>cases hx with|fn hp=>exact .fn hl fun i h1 h2=>ih i h1 h2 (hp _ (List.getElem_mem h1))
  | agg hl _ hone ih=>cases hx with|agg hp=>exact .agg hl (fun i h1 h2=>ih i h1 h2 (hp _ (List.getElem_mem h1))) hone
  | tup hl _ ih=>cases hx with|tup hp=>exact .tup hl fun i h1 h2=>ih i h1 h2 (hp _ (List.getElem_mem h1))
  | ex h2=>exact .ex h2
  | stk h2=>exact .stk h2
  | que h2 h3=>exact .que h2 h3
  | mp h2=>exact .mp h2
  | mpd h2=>exact .mpd h2
 have hto:∀x y v,SpTo (cx.base+s) sz es x y->RV G w x v->RV G' w y v:=by
  intro x y v hxy h;cases hxy with
  | bot=>exact .bot
  | same h1=>exact hok h1 h
  | msl =>
   generalize hq:(AV.msl (cx.base+s) 0 es.length sz)=q at h;cases h with
   | msl h1 h2 h3 =>
    cases hq;rw[hbk] at h1;cases h1;rw[List.flatten_append,rowsD_flat] at hR;have hR1:=hR.take (es.flatten.map AV.d).length;rw[List.take_append_of_le_length (nr _),List.take_length] at hR1;have hfv:=FlatV.of_rvs hsz hR1 (fun v hv=>hone v (List.mem_of_mem_take hv));refine .d (RVd.of_flat h2 h3 ⟨hfv.len,fun a ha q u hq=>?_,hfv.one,fun _=>⟨_,rfl⟩,hfv.each,fun i j hi hj=>?_⟩)
    .cases ha;rw[add_none];refine⟨by simp[Gh.ps,G',uS],?_⟩;rw[cell_of_row w b _ _ e (0,0) hheap];obtain⟨hlt,rfl⟩:=List.getElem?_eq_some_iff.1 hq;rw[List.getElem_take];have hl2:q<cs.size:=by rw[List.length_take] at hlt;simp at hlt;omega
     have e0:0*sz+q=q:=by omega
     rw[e0];simp[hl2]
    .obtain⟨u,hu,hr⟩:=hfv.read i j hi hj;exact⟨u,hu,hr.mono hcells⟩
   | _=>cases hq
 have hRVs:∀{xs ys:List AV} {vs:List Value},CvR (SpTo (cx.base+s) sz es) xs ys->RVs G w xs vs->RVs G' w ys vs:=fun h hr=>⟨h.1.symm.trans hr.1,fun i h1 h2=>hto _ _ _ (h.2 i (by rw[h.1];exact h1) h1) (hr.2 i _ h2)⟩
 refine⟨G',⟨hS.defers,hS.size,fun i=>hto _ _ _ (hl.at .bot i) (hS.tmps i),?_⟩,?_,?_⟩
 .constructor
  case box =>
   intro k rows b' z hk hb';have e1:k≠cx.base+s:=fun e=>by
    subst e;simp only at hk;rw[lb_at,hk'] at hk;cases hk
   simp only[G'] at hb';rw[uO _ _ e1] at hb';have hbne:b'≠b:=fun e=>by subst e;exact e1 (hm.inj _ _ _ _ _ hb' hbk)
   by_cases hkb:k<cx.base
   .simp only at hk;rw[lO hkb] at hk;obtain⟨g1,cs',e',g2,g3,g4,g5⟩:=hm.box k rows b' z (by simp only;rw[lO hkb];exact hk) hb';refine⟨by simp only[G'];rw[uO _ _ hbne];exact g1,cs',e',g2,g3,⟨g4.1,fun i h1 h2=>?_⟩,g5⟩;have hmem:rows.flatten[i]∈rows.flatten:=List.getElem_mem _
    obtain⟨q,hq,hxq⟩:=List.mem_flatten.1 hmem;have hG0:G0.bx k≠none:=by rw[<-hL.1.bx k hkb,hb'];simp
    have:=he k rows hkb (by rw[<-ho];exact hk) hG0 q hq _ hxq
    exact hok (this.imp (fun j hj=>by omega) fun _ _=>trivial) (g4.2 i h1 h2)
   .have hkk:k=cx.base+(k-cx.base):=by omega
    simp only at hk;rw[hkk,lb_at] at hk;rcases hb.at (k-cx.base) with ⟨_,h2⟩|⟨r0,r',h1,h2,h3⟩
    .rw[h2] at hk;cases hk
    .rw[h2] at hk;cases hk;obtain⟨g1,cs',e',g2,g3,g4,g5⟩:=hm.box k r0 b' z (by simp only;rw[hkk,lb_at,lk_cons,if_neg (by omega)];exact h1) hb';refine⟨by simp only[G'];rw[uO _ _ hbne];exact g1,cs',e',g2,fun q hq=>?_,hRVs h3.flat g4,g5⟩;obtain⟨i,hi,rfl⟩:=List.getElem_of_mem hq;have hi0:i<r0.length:=by rw[h3.1];exact hi
     rw[<-(h3.2 i hi0 hi).1];exact g3 _ (List.getElem_mem _)
  case nobox =>
   intro k hk;simp only[G'];by_cases e1:k=cx.base+s
   .subst e1;simp[uS]
   .rw[uO _ _ e1];refine hm.nobox k ?_;simp only at hk ⊢;by_cases hkb:k<cx.base
    .rw[lO hkb] at hk ⊢;exact hk
    .have hkk:k=cx.base+(k-cx.base):=by omega
     rw[hkk,lb_at] at hk ⊢;rw[lk_cons,if_neg (by omega)];rcases hb.at (k-cx.base) with ⟨h1,_⟩|⟨r0,r',_,h2,_⟩
     .exact h1
     .rw[h2] at hk;cases hk
  case inj =>
   intro j j' b' z z' hj hj';simp only[G'] at hj hj';by_cases e1:j=cx.base+s
   .subst e1;simp[uS] at hj
   .by_cases e2:j'=cx.base+s
    .subst e2;simp[uS] at hj'
    .rw[uO _ _ e1] at hj;rw[uO _ _ e2] at hj';exact hm.inj j j' b' z z' hj hj'
  case nb =>
   intro k hk;have h0:=hm.nb k hk;simp only at h0 ⊢;by_cases hkb:k<cx.base
   .rw[lO hkb] at h0 ⊢;exact h0
   .have hkk:k=cx.base+(k-cx.base):=by omega
    rw[hkk,lb_at] at h0 ⊢;by_cases e1:k-cx.base=s
    .rw[e1];exact hk'
    .rw[lk_cons,if_neg e1] at h0;rcases hb.at (k-cx.base) with ⟨_,h2⟩|⟨r0,r',h1,_,_⟩
     .exact h2
     .rw[h1] at h0;cases h0
  case nt=>exact hm.nt
  case toks=>exact hm.toks
  case tokb =>
   intro q j hq;obtain⟨f,cur,e',g1,g2⟩:=hm.tokb q j hq;refine⟨f,cur,e',?_,g2⟩;simp only[G'];rw[uO _ _ (hne hq)];exact g1
  case tinj=>exact hm.tinj
  case tnt=>exact hm.tnt
  case glob=>exact hm.glob.mono hcells
  case fresh =>
   intro b' hb';have:=heap_lt hheap
   simp only[G'];rw[uO _ _ (by omega)];exact hm.fresh b' hb'
 .refine hL.1.trans ⟨rfl,rfl,rfl,nr _,hle.whole,hle.part,fun k hk=>?_,hle.nt,hle.tk,hle.ty⟩;simp only[G'];exact uO _ _ (by omega)
 .intro k hkb hg;have:=hL.2 k hkb hg
  simp only at this ⊢;rw[lO hkb] at this ⊢;exact this
section
variable {k sz:Nat} {es:List (List D)}
@[simp] theorem spTo_bot(x:AV):SpTo k sz es x .bot:=.bot
@[simp] theorem spTo_d(x:D):SpTo k sz es (.d x) (.d x):=.same .d
@[simp] theorem spTo_osl(n:Nat)(xs:List (List D))(o:Own):SpTo k sz es (.osl n xs o) (.osl n xs o):=.same (.osl fun _ _=>trivial)
@[simp] theorem spTo_msl:SpTo k sz es (.msl k 0 es.length sz) (.d (.sl sz es)):=.msl
end
variable {P:Program}
theorem wpOps_glue{ops ops':Array Oper}{Q:Exit->Act->World->Prop}{l2:List Nat}:∀(l:List Nat),(∀i∈l,∃o,ops[i]?=some o/\ops'[i]?=some o/\o.guard=none)->∀(a:Act) (w:World),
  wpOps P ops' (fun e a w=>match e with|.normal=>wpOps P ops Q l2 a w|e=>Q e a w) l a w->wpOps P ops Q (l++l2) a w
 | [],_,a,w,h=>h
 | i::l,hl,a,w,h=>by
  obtain⟨o,h1,h2,h3⟩:=hl i (by simp);have ih:=wpOps_glue (Q:=Q) (l2:=l2) l fun j hj=>hl j (by simp[hj])
  rw[List.cons_append];unfold wpOps at h ⊢;rw[h2] at h;rw[h1];have hw:∀y,Region.wanted o y=true:=fun y=>by unfold Region.wanted;rw[h3]
  simp only[hw,↓reduceIte] at h ⊢;have hlo:LetsOut (fun e a w=>match e with|.normal=>wpOps P ops Q l2 a w|e=>Q e a w)->LetsOut Q:=fun ⟨a,w,h⟩=>⟨a,w,h⟩
  rcases h with h|⟨h,k⟩
  .left;unfold Oper.wp at h ⊢;generalize (execOp a.eval o).run P w=r at *;cases r with
   | ok n w' =>
    cases n<;>simp only[Oper.upon] at h ⊢ <;>
     first
      | exact ih _ _ h
      | exact Calls.mono h (fun e w'' he=>by cases e<;>first|exact ih _ _ he|exact hlo he|exact he)
      | exact Rows.mono h (fun _ _ he=>ih _ _ he)
   | halt x w'=>cases x<;>simp only[Oper.upon] at h ⊢<;>first|exact h|exact hlo h
  .exact .inr ⟨h,hlo k⟩
def IdxK(P:Program)(T E:TypeId)(x i:Operand)(d1 d2:Tmp)(K:AS->Prop)(S:AS):Prop:=match S.ev x,S.ev i with
 | .stk t sz es,.d (.raw (.int k q))=>match es[q.toNat]? with
  | some [.raw v]=>0<=q/\S.tok t=true/\K ⟨putT (putT S.tmps (some d1) .bot) (some d2) (.d (.raw v)),S.box,S.tok,S.nt⟩
  | _=>False
 | _,_=>False
theorem pend_no{base:Nat}{o:Oper}{G:Gh}{box:Bxs}(h:isAlloc o.op=false):Pend P base o G box:=by
 unfold Pend;split
 .rename_i h1 _;rw[h1] at h;cases h
 .trivial
theorem Op1.mono{cx:Cx}{o:Oper}{S:AS}{K K':AS->Prop}(hk:∀S,K S->K' S)(h:Op1 P cx o S K):Op1 P cx o S K':=by
 unfold Op1 at h ⊢;split at h
 .exact h.mono fun _ _ q=>hk _ q
 .rcases h with ⟨S1,a,b⟩|⟨t,es,a,b⟩
  .exact .inl ⟨S1,a,hk _ b⟩
  .exact .inr ⟨t,es,a,fun x y=>hk _ (b x y)⟩
theorem AOps.mono{cx:Cx}{ops:Array Oper}{K K':AS->Prop}(hk:∀S,K S->K' S):∀(l:List Oper) (S:AS),AOps P cx ops l S K->AOps P cx ops l S K'
 | [],S,h=>hk S h
 | o::r,S,h=>by
  unfold AOps at h ⊢;split at h
  .exact h.mono fun S1 q=>AOps.mono hk r S1 q
  .split at h
   .exact⟨fun e=>(h.1 e).mono fun S1 q=>AOps.mono hk r S1 q,fun e=>AOps.mono hk r _ (h.2 e)⟩
   .exact h
theorem IdxK.mono{T E:TypeId}{x i:Operand}{d1 d2:Tmp}{K K':AS->Prop}(hk:∀S,K S->K' S){S:AS}(h:IdxK P T E x i d1 d2 K S):IdxK P T E x i d1 d2 K' S:=by
 unfold IdxK at h ⊢;split at h
 .split at h
  .exact⟨h.1,h.2.1,hk _ h.2.2⟩
  .exact h
 .exact h
theorem wpOps_glueG{ops ops':Array Oper}{Q:Exit->Act->World->Prop}{l2:List Nat}:∀(l:List Nat),(∀i∈l,∃o,ops[i]?=some o/\ops'[i]?=some o/\∀tm,Region.wanted o (yielded ops' tm)=Region.wanted o (yielded ops tm))->∀(a:Act) (w:World),
  wpOps P ops' (fun e a w=>match e with|.normal=>wpOps P ops Q l2 a w|e=>Q e a w) l a w->wpOps P ops Q (l++l2) a w
 | [],_,a,w,h=>h
 | i::l,hl,a,w,h=>by
  obtain⟨o,h1,h2,h3⟩:=hl i (by simp);have ih:=wpOps_glueG (Q:=Q) (l2:=l2) l fun j hj=>hl j (by simp[hj])
  rw[List.cons_append];unfold wpOps at h ⊢;rw[h2] at h;rw[h1];simp only at h ⊢;rw[h3] at h;have hlo:LetsOut (fun e a w=>match e with|.normal=>wpOps P ops Q l2 a w|e=>Q e a w)->LetsOut Q:=fun ⟨a,w,h⟩=>⟨a,w,h⟩
  split at h
  .rename_i hw;rw[if_pos hw];rcases h with h|⟨h,k⟩
   .left;unfold Oper.wp at h ⊢;generalize (execOp a.eval o).run P w=r at *;cases r with
    | ok n w' =>
     cases n<;>simp only[Oper.upon] at h ⊢ <;>
      first
       | exact ih _ _ h
       | exact Calls.mono h (fun e w'' he=>by cases e<;>first|exact ih _ _ he|exact hlo he|exact he)
       | exact Rows.mono h (fun _ _ he=>ih _ _ he)
    | halt x w'=>cases x<;>simp only[Oper.upon] at h ⊢<;>first|exact h|exact hlo h
   .exact .inr ⟨h,hlo k⟩
  .rename_i hw;rw[if_neg hw];exact ih _ _ h
def Seg(P:Program)(cx:Cx)(ops:Array Oper)(k:Nat)(K:AS->Prop)(S:AS):Prop:=∀(G0:Gh) (w0:World) (Q:Exit->Act->World->Prop),(∀S a w G,K S->RelS cx.n cx.nb G S a w->LeC cx G0 w0 G w S->Q .normal a w) ->
 ∀G a w,RelS cx.n cx.nb G S a w->LeC cx G0 w0 G w S->wpOps P ops Q (List.range' k (ops.size-k)) a w
def noAl(ops:Array Oper):Bool:=ops.toList.all fun o=>!isAlloc o.op
theorem noAl_spec{ops:Array Oper}(h:noAl ops=true){o:Oper}(ho:o∈ops):isAlloc o.op=false:=by
 have:=List.all_eq_true.1 h o (by simpa using ho)
 simpa using this
theorem regOk_two{n:Nat}{ops:Array Oper}(h:regionOk n ops false=true):allocOk ops=true/\dstOk n ops=true:=by
 simpa[regionOk] using h
theorem Seg.fin{cx:Cx}{ops:Array Oper}{k:Nat}{K:AS->Prop}{S:AS}(hnb:cx.base+cx.n<=cx.nb)(hok:regionOk cx.n ops false=true)(hna:noAl ops=true){post:List Oper}(hp:ops.toList.drop k=post)(h:FOps P cx ops false post K S):Seg P cx ops k K S:=by
 subst hp;intro G0 w0 Q hQ G a w hr hl;have:=aops_sound (ops:=ops) (G0:=G0) (w0:=w0) (K:=K) (Q:=Q) (dstOk_spec (regOk_two hok).2) hnb (regOk_two hok).1 (fun S' a' w' G' q1 q2 q3=>hQ S' a' w' G' q1 q2 q3) (ops.toList.drop k) k S a w G rfl (fun o ho=>pend_no (noAl_spec hna (by simpa using List.mem_of_mem_drop ho))) hr hl (fOps_false _ _ h)
 simpa using this
def gdOk(ops:Array Oper)(p:Nat):Bool:=(ops.toList.take p).all fun o=>match o.guard with|none=>true|some (j,_)=>decide (j<p)
theorem Seg.pre{cx:Cx}{ops:Array Oper}{k:Nat}{K:AS->Prop}{S:AS}(p:Nat)(hkp:k<=p)(hps:p<=ops.size)(hnb:cx.base+cx.n<=cx.nb)(hok:regionOk cx.n (ops.extract 0 p) false=true)(hna:noAl ops=true)(hg:gdOk ops p=true){ops':Array Oper}{mid:List Oper}(hx:ops.extract 0 p=ops')(hm:ops'.toList.drop k=mid)(h:FOps P cx ops' false mid (Seg P cx ops p K) S):Seg P cx ops k K S:=by
 subst hx hm;intro G0 w0 Q hQ G a w hr hl;have hsplit:List.range' k (ops.size-k)=List.range' k (p-k)++List.range' p (ops.size-p):=by
  rw[show ops.size-k=(p-k)+(ops.size-p) by omega,<-List.range'_append_1,show k+(p-k)=p by omega]
 rw[hsplit];have hlook:∀j,j<p->(ops.extract 0 p)[j]?=ops[j]?:=fun j hj=>by
  rw[Array.getElem?_extract];have:j<min p ops.size:=by omega
  simp[this]
 refine wpOps_glueG (ops':=ops.extract 0 p) (List.range' k (p-k)) (fun j hj=>?_) a w ?_
 .have hj':j<p:=by simp at hj;omega
  have hjs:j<ops.size:=by omega
  refine⟨ops[j],by simp[hjs],by rw[hlook j hj'];simp[hjs],fun tm=>?_⟩;have h5:=List.all_eq_true.1 hg ops[j] (by rw[List.mem_take_iff_getElem];exact⟨j,by simp;omega,by simp⟩);unfold Region.wanted;cases hgu:ops[j].guard with
  | none=>rfl
  | some g =>
   obtain⟨q,want⟩:=g;rw[hgu] at h5;have hq:q<p:=by simpa using h5
   simp only;unfold yielded;rw[hlook q hq]
 have hmem:∀o,o∈(ops.extract 0 p).toList.drop k->o∈ops:=fun o ho=>by
  have:=List.mem_of_mem_drop ho
  rw[Array.toList_extract,List.extract_eq_take_drop] at this;simpa using List.mem_of_mem_take this
 have:=aops_sound (ops:=ops.extract 0 p) (G0:=G0) (w0:=w0) (K:=Seg P cx ops p K) (Q:=fun e a' w'=>match e with|.normal=>wpOps P ops Q (List.range' p (ops.size-p)) a' w'|e=>Q e a' w')
  (dstOk_spec (regOk_two hok).2) hnb (regOk_two hok).1 (fun S1 a1 w1 G1 hK hr1 hl1=>hK G0 w0 Q hQ G1 a1 w1 hr1 hl1) ((ops.extract 0 p).toList.drop k) k S a w G rfl (fun o ho=>pend_no (noAl_spec hna (hmem o ho))) hr hl (fOps_false _ _ h)
 have hlen:((ops.extract 0 p).toList.drop k).length=p-k:=by simp;omega
 rw[hlen] at this;exact this
theorem AL.seg{cx:Cx}{nt0 id:Nat}{ops:Array Oper}{S:AS}{K:Exit->AS->Prop}{r:List CI}(h:Seg P cx ops 0 (AL P cx nt0 K r) S):AL P cx nt0 K (.c (.region id ops false)::r) S:=by
 simp only[AL];intro G0 w0 he hn G a w hr hl;refine wp_region ?_;rw[List.range_eq_range'];exact h G0 w0 _ (fun S' a' w' G' q1 q2 q3=>⟨S',G',q1,q2,q3⟩) G a w hr hl
variable {P:Program}
theorem upon_exits{o:Oper}{a:Act}{next:Act->World->Prop}{Q Q':Exit->Act->World->Prop}(h:∀e a w,e≠.normal->Q e a w->Q' e a w)(r:Result Next)(hh:o.upon P a next Q r):o.upon P a next Q' r:=by
 have hl:LetsOut Q->LetsOut Q':=fun ⟨a,w,h1⟩=>⟨a,w,h _ _ _ (by simp) h1⟩
 cases r with
 | ok n w' =>
  cases n<;>simp only[Oper.upon] at hh ⊢ <;>
   first
    | exact hh
    | exact Calls.mono hh (fun e w'' he=>by
      cases e
      .exact he
      .exact h _ _ _ (by simp) he
      .exact hl he)
 | halt x w'=>cases x<;>simp only[Oper.upon] at hh ⊢<;>first|exact h _ _ _ (by simp) hh|exact hh
theorem wpOp_exits{ops:Array Oper}{i:Nat}{K:Act->World->Prop}{Q Q':Exit->Act->World->Prop}{a:Act}{w:World}(h:∀e a w,e≠.normal->Q e a w->Q' e a w)(hh:wpOp P ops Q i K a w):wpOp P ops Q' i K a w:=by
 have hl:LetsOut Q->LetsOut Q':=fun ⟨a,w,h1⟩=>⟨a,w,h _ _ _ (by simp) h1⟩
 unfold wpOp at *;split
 .rename_i ho;simpa only[ho] using hh
 .rename_i o ho;simp only[ho] at hh;split
  .rename_i hw;rw[if_pos hw] at hh;exact hh.imp (upon_exits h _) fun ⟨h1,h2⟩=>⟨h1,hl h2⟩
  .rename_i hw;rw[if_neg hw] at hh;exact hh
def tiedAll(L:Array Oper)(m:Nat):Bool:=(List.range m).all fun j=>(List.range (m+1)).any fun i=>decide (j<i)&&(match L[i]? with|some x=>(direct x).contains j|none=>false)
def downOk(L:Array Oper):Bool:=(List.range L.size).all fun i=>match L[i]? with|some o=>(direct o).all fun j=>decide (j<i)|none=>true
theorem tiedAll_spec{L:Array Oper}{m:Nat}(h:tiedAll L m=true){j:Nat}(hj:j<m):∃i x,j<i/\i<=m/\L[i]?=some x/\j∈direct x:=by
 unfold tiedAll at h;have h1:=List.all_eq_true.1 h j (by simpa using hj);obtain⟨i,hi,h2⟩:=List.any_eq_true.1 h1;simp only[Bool.and_eq_true,decide_eq_true_eq] at h2;obtain⟨h2,h3⟩:=h2;split at h3
 .rename_i x hx;exact⟨i,x,h2,by simp at hi;omega,hx,by simpa using h3⟩
 .cases h3
theorem downOk_spec{L:Array Oper}(h:downOk L=true){i:Nat}{o:Oper}(ho:L[i]?=some o):∀j∈direct o,j<i:=by
 unfold downOk at h;have hi:=(Array.getElem?_eq_some_iff.1 ho).1;have h1:=List.all_eq_true.1 h i (by simpa using hi);rw[ho] at h1;intro j hj;simpa using List.all_eq_true.1 h1 j hj
theorem ready_mem{L:Array Oper}{listed:Array Bool}{i:Nat}:i∈Region.ready .any L listed↔i<L.size/\listed.getD i true=false/\∃o,L[i]?=some o/\∀j∈direct o,listed.getD j false=true:=by
 unfold Region.ready;rw[List.mem_filter];simp only[List.mem_range,Bool.and_eq_true,Bool.not_eq_true'];constructor
 .rintro⟨h1,h2,h3⟩;refine⟨h1,h2,L[i],by simp[h1],?_⟩;simp only[h1,Array.getElem?_eq_getElem,Option.map_some,Option.getD_some,Array.all_eq_true'] at h3;intro j hj;unfold direct at hj;obtain⟨e,he,rfl⟩:=List.mem_map.1 hj;obtain⟨he1,he2⟩:=List.mem_filter.1 he;have:=h3 e (by simpa using he1)
  simpa[he2] using this
 .rintro⟨h1,h2,o,h3,h4⟩;refine⟨h1,h2,?_⟩;rw[h3];simp only[Option.map_some,Option.getD_some,Array.all_eq_true'];intro e he;by_cases hb:Region.binds .any e=true
  .have:=h4 e.on (by unfold direct;exact List.mem_map.2 ⟨e,List.mem_filter.2 ⟨by simpa using he,hb⟩,rfl⟩)
   simp[this]
  .simp[hb]
theorem getD_some{l:Array Bool}{i:Nat}{d v:Bool}(h:l[i]?=some v):l.getD i d=v:=by simp[Array.getD_eq_getD_getElem?,h]
def guardOk(ops:Array Oper):Bool:=ops.all fun o=>match o.guard with|some (j,_)=>decide (j<ops.size)|none=>true
theorem of_getD{l:Array Bool}{i:Nat}(h:l.getD i false=true):l[i]?=some true:=by
 rw[Array.getD_eq_getD_getElem?] at h;cases e:l[i]? with
 | none=>rw[e] at h;cases h
 | some v=>rw[e] at h;simp at h;rw[h]
theorem wpAny_split{ops:Array Oper}{o:Oper}{Q Qm:Exit->Act->World->Prop}(hdown:downOk (ops.push o)=true)(htied:tiedAll (ops.push o) ops.size=true)(hgo:guardOk ops=true)(hg:o.guard=none)(hq:∀e a w,e≠.normal->Qm e a w->Q e a w)(hn:∀a w,Qm .normal a w->o.wp P a w (Q .normal) Q∨(o.asks P a w/\LetsOut Q)):
  ∀(fuel:Nat) (listed l':Array Bool),listed.size=ops.size+1->l'.size=ops.size->(∀i,i<ops.size->l'[i]?=listed[i]?)->listed[ops.size]?=some false ->
   (∀i x,(ops.push o)[i]?=some x->listed.getD i false=true->∀j∈direct x,listed.getD j false=true) ->
   ∀a w,wpAny P .any ops Qm fuel l' a w->wpAny P .any (ops.push o) Q (fuel+1) listed a w:=by
 have hsL:(ops.push o).size=ops.size+1:=Array.size_push _
 have hat:∀i,i<ops.size->(ops.push o)[i]?=ops[i]?:=fun i hi=>by rw[Array.getElem?_push,if_neg (by omega)]
 have hlast:(ops.push o)[ops.size]?=some o:=by rw[Array.getElem?_push,if_pos rfl]
 have fin:∀(listed:Array Bool),listed.size=ops.size+1->(∀i,i<ops.size->listed[i]?=some true)->listed[ops.size]?=some false->∀a w,Qm .normal a w->∀n,wpAny P .any (ops.push o) Q (n+1) listed a w:=by
  intro listed hsz hall hls a w hQ n;have hm:ops.size∈Region.ready .any (ops.push o) listed:=ready_mem.2 ⟨by omega,getD_some hls,o,hlast,fun j hj=>getD_some (hall j (downOk_spec hdown hlast j hj))⟩
  refine⟨fun h0=>absurd hm (by rw[h0];simp),fun i hi=>?_⟩;have him:i=ops.size:=by
   obtain⟨h1,h2,_⟩:=ready_mem.1 hi;rcases Nat.lt_or_ge i ops.size with h|h
   .rw[getD_some (hall i h)] at h2;cases h2
   .omega
  subst him;have hall2:Region.ready .any (ops.push o) (listed.setIfInBounds ops.size true)=[]:=by
   rw[List.eq_nil_iff_forall_not_mem];intro i hi;obtain⟨h1,h2,_⟩:=ready_mem.1 hi;have:(listed.setIfInBounds ops.size true)[i]?=some true:=by
    rw[Array.getElem?_setIfInBounds];by_cases e:ops.size=i
    .rw[if_pos e,if_pos (by omega)]
    .rw[if_neg e];exact hall i (by omega)
   rw[getD_some this] at h2;cases h2
  have hK:∀a w,Q .normal a w->wpAny P .any (ops.push o) Q n (listed.setIfInBounds ops.size true) a w:=by
   intro a w hq;cases n with
   | zero=>exact⟨hall2,hq⟩
   | succ n=>exact⟨fun _=>hq,fun i hi=>by rw[hall2] at hi;cases hi⟩
  unfold wpOp;rw[hlast];simp only;rw[if_pos (by simp[Region.wanted,hg])];exact(hn a w hQ).imp (Oper.wp_mono hK) id
 intro fuel;induction fuel with
 | zero =>
  intro listed l' hsz hsz' hll hls hcl a w h;obtain⟨h1,h2⟩:=h;refine fin listed hsz ?_ hls a w h2 0;have hC:∀n i,i<n->i<ops.size->listed[i]?=some true:=by
   intro n;induction n with
   | zero=>intro i hi;omega
   | succ n ihn =>
    intro i hi him;cases e:listed[i]? with
    | none=>rw[Array.getElem?_eq_none_iff] at e;omega
    | some v =>
     cases v with
     | true=>rfl
     | false =>
      exfalso
      have:i∈Region.ready .any ops l':=ready_mem.2 ⟨him,getD_some ((hll i him).trans e),ops[i],by simp[him],fun j hj=>by
       have hji:=downOk_spec hdown (by rw[hat i him];simp[him]) j hj;exact getD_some ((hll j (by omega)).trans (ihn j (by omega) (by omega)))⟩
      rw[h1] at this;cases this
  exact fun i hi=>hC (i+1) i (Nat.lt_succ_self _) hi
 | succ k ih =>
  intro listed l' hsz hsz' hll hls hcl a w h;obtain⟨h1,h2⟩:=h;have hval:∀i,i<ops.size->listed[i]?=some true∨listed[i]?=some false:=fun i hi=>by
   cases e:listed[i]? with
   | none=>rw[Array.getElem?_eq_none_iff] at e;omega
   | some v=>cases v<;>simp
  have hrd:∀i,i<ops.size->(i∈Region.ready .any (ops.push o) listed↔i∈Region.ready .any ops l'):=by
   intro i hi;have hd:∀x,ops[i]?=some x->((∀j∈direct x,listed.getD j false=true)↔∀j∈direct x,l'.getD j false=true):=fun x hx=>by
    have hj:=downOk_spec hdown ((hat i hi).trans hx);constructor
    .exact fun h j hj'=>getD_some ((hll j (by have:=hj j hj';omega)).trans (of_getD (h j hj')))
    .exact fun h j hj'=>getD_some ((hll j (by have:=hj j hj';omega)).symm.trans (of_getD (h j hj')))
   rw[ready_mem,ready_mem,hat i hi];have hg2:listed.getD i true=l'.getD i true:=by rw[Array.getD_eq_getD_getElem?,Array.getD_eq_getD_getElem?,hll i hi]
   constructor
   .rintro⟨_,g2,x,g3,g4⟩;exact⟨hi,hg2 ▸ g2,x,g3,(hd x g3).1 g4⟩
   .rintro⟨_,g2,x,g3,g4⟩;exact⟨by omega,hg2.symm ▸ g2,x,g3,(hd x g3).2 g4⟩
  by_cases hall:∀i,i<ops.size->listed[i]?=some true
  .refine fin listed hsz hall hls a w (h1 ?_) (k+1);rw[List.eq_nil_iff_forall_not_mem];intro i hi;obtain⟨g1,g2,_⟩:=ready_mem.1 hi;rw[getD_some ((hll i g1).trans (hall i g1))] at g2;cases g2
  .have hnm:ops.size∉Region.ready .any (ops.push o) listed:=by
    intro hm;refine hall ?_;obtain⟨_,_,x,hx,hx2⟩:=ready_mem.1 hm;rw[hlast] at hx;cases hx;have hD:∀n j,ops.size-j<=n->j<ops.size->listed[j]?=some true:=by
     intro n;induction n with
     | zero=>intro j h;omega
     | succ n ihn =>
      intro j hj hjm;obtain⟨i,x,hji,him,hx,hjx⟩:=tiedAll_spec htied hjm;by_cases e:i=ops.size
      .subst e;rw[hlast] at hx;cases hx;exact of_getD (hx2 j hjx)
      .exact of_getD (hcl i x hx (getD_some (ihn i (by omega) (by omega))) j hjx)
    exact fun i hi=>hD _ i (nr _) hi
   refine⟨fun h0=>?_,fun i hi=>?_⟩
   .exfalso
    refine hall ?_;have hC:∀n i,i<n->i<ops.size->listed[i]?=some true:=by
     intro n;induction n with
     | zero=>intro i hi;omega
     | succ n ihn =>
      intro i hi him;rcases hval i him with e|e
      .exact e
      .exfalso
       have:i∈Region.ready .any (ops.push o) listed:=ready_mem.2 ⟨by omega,getD_some e,ops[i],by rw[hat i him];simp[him],fun j hj=>by
        have hji:=downOk_spec hdown (by rw[hat i him];simp[him]) j hj;exact getD_some (ihn j (by omega) (by omega))⟩
       rw[h0] at this;cases this
    exact fun i hi=>hC (i+1) i (Nat.lt_succ_self _) hi
   .have him:i<ops.size:=by
     obtain⟨g1,_⟩:=ready_mem.1 hi;rcases Nat.lt_or_ge i ops.size with h|h
     .exact h
     .exfalso
      have:i=ops.size:=by omega
      subst this;exact hnm hi
    have h3:=wpOp_exits hq (h2 i ((hrd i him).1 hi));obtain⟨_,g2,x,g3,g4⟩:=ready_mem.1 hi;have hx:ops[i]?=some x:=(hat i him).symm.trans g3
    have hIH:∀a w,wpAny P .any ops Qm k (l'.setIfInBounds i true) a w->wpAny P .any (ops.push o) Q (k+1) (listed.setIfInBounds i true) a w:=by
     intro a w hh;refine ih _ _ (by simpa using hsz) (by simpa using hsz') ?_ ?_ ?_ a w hh
     .intro j hj;rw[Array.getElem?_setIfInBounds,Array.getElem?_setIfInBounds];by_cases e:i=j
      .rw[if_pos e,if_pos e,if_pos (by omega),if_pos (by omega)]
      .rw[if_neg e,if_neg e];exact hll j hj
     .rw[Array.getElem?_setIfInBounds,if_neg (by omega)];exact hls
     .intro i2 y hy hl2 j hj;have hset:∀q,(listed.setIfInBounds i true)[q]?=some true↔(q=i∨listed[q]?=some true):=by
       intro q;rw[Array.getElem?_setIfInBounds];by_cases e:i=q
       .rw[if_pos e,if_pos (by omega)];simp[e]
       .rw[if_neg e];constructor
        .exact .inr
        .rintro(h|h)
         .exact absurd h.symm e
         .exact h
      refine getD_some ((hset j).2 ?_);rcases (hset i2).1 (of_getD hl2) with e|e
      .subst e;rw[g3] at hy;cases hy;exact .inr (of_getD (g4 j hj))
      .exact .inr (of_getD (hcl i2 y hy (getD_some e) j hj))
    unfold wpOp at h3 ⊢;rw[hx] at h3;rw[g3];simp only at h3 ⊢;have hwan:Region.wanted x (yielded (ops.push o) a.tmps)=Region.wanted x (yielded ops a.tmps):=by
     unfold Region.wanted;cases hgx:x.guard with
     | none=>rfl
     | some jw =>
      obtain⟨j,want⟩:=jw;have hj:j<ops.size:=by
       unfold guardOk at hgo;have:=Array.all_eq_true'.1 hgo x (Array.mem_of_getElem? hx)
       rw[hgx] at this;simpa using this
      simp only[yielded,hat j hj]
    rw[hwan];split
    .rename_i hw;rw[if_pos hw] at h3;exact h3.imp (Oper.wp_mono hIH) id
    .rename_i hw;rw[if_neg hw] at h3;exact hIH _ _ h3
def splitOk(n:Nat)(ops:Array Oper)(o:Oper):Bool:=regionOk n ops true&&(regionOk n #[o] false&&(downOk (ops.push o)&&(tiedAll (ops.push o) ops.size&&(guardOk ops&&o.guard.isNone))))
theorem AL.split{cx:Cx}{nt0:Nat}{K:Exit->AS->Prop}{r:List CI}{S:AS}{id:Nat}{L ops:Array Oper}{o:Oper}(hL:L=ops.push o)(hf:P.follows .mixedOrders=true)(hnb:cx.base+cx.n<=cx.nb)(hok:splitOk cx.n ops o=true)(h:FReg P cx ops true (fun S'=>FReg P cx #[o] false (AL P cx nt0 K r) S') S):AL P cx nt0 K (.c (.region id L true)::r) S:=by
 subst hL;unfold splitOk at hok;simp only[Bool.and_eq_true,regionOk,Bool.or_eq_true,Bool.not_eq_true',Option.isNone_iff_eq_none] at hok;obtain⟨⟨⟨hal,hdst⟩,hreg⟩,⟨⟨hal1,hdst1⟩,_⟩,hdown,htied,hgo,hgn⟩:=hok;have hreg':regOk ops=true:=by simpa using hreg
 have h:=fReg_sound h;simp only[AL];intro G0 w0 he hn G a w hr hl;have hd:=dstOk_spec hdst;obtain⟨b,hb,hr1,hp,hkeep⟩:=preB_sound hnb ops.toList S.box (S:=S) hr (fun o ho d hod=>hd o d (by simpa using ho) hod) (allocOk_nodup hal) h;have hl1:LeC cx G0 w0 G w { S with box:=b }:=⟨hl.1,fun k hk hg=>by
  rw[<-hl.2 k hk hg];refine hkeep k fun hm=>?_
  obtain⟨o,ho,he⟩:=List.mem_filterMap.1 hm;split at he
  .rename_i T s h1 h2;simp only[Option.some.injEq] at he;subst he;exact absurd hk (by simp)
  .cases he⟩
 simp only at hb;obtain⟨S',hrun,hK⟩:=hb;refine wp_region_any hf ?_;have hrd:RelS cx.n cx.nb G { S with box:=b } a w.drew:=hr1.drew
 have hld:LeC cx G0 w0 G w.drew { S with box:=b }:=hl1.step ⟨Le.drew,fun k _ hg=>⟨hg,rfl⟩⟩
 rw[Array.size_push];refine wpAny_split (Qm:=fun e a' w'=>match e with
  | .normal=>o.wp P a' w' (fun a w=>∃S' G',AL P cx nt0 K r S'/\RelS cx.n cx.nb G' S' a w/\LeC cx G0 w0 G' w S') (fun e a' w'=>∃S' G',(match e with|.normal=>AL P cx nt0 K r S'|e=>AU P cx nt0 K r e S')/\RelS cx.n cx.nb G' S' a' w'/\LeC cx G0 w0 G' w' S')∨(o.asks P a' w'/\LetsOut (fun e a' w'=>∃S' G',(match e with|.normal=>AL P cx nt0 K r S'|e=>AU P cx nt0 K r e S')/\RelS cx.n cx.nb G' S' a' w'/\LeC cx G0 w0 G' w' S'))
  | e=>False) hdown htied hgo hgn (fun e a w hne hh=>by cases e<;>first|exact absurd rfl hne|exact hh.elim) (fun a w hh=>?_) ops.size _ (Array.replicate ops.size false) (by simp) (by simp) (fun i hi=>by simp[Array.getElem?_replicate,hi];omega) (by simp[Array.getElem?_replicate]) ?_ a w.drew ?_
 .exact hh
 .intro i x hx hl2;have:=of_getD hl2
  rw[Array.getElem?_replicate] at this;split at this
  .cases this
  .cases this
 .refine any_sound (n:=cx.n) (nb:=cx.nb) (base:=cx.base) (Sf:=S') (G0:=G) (w0:=w.drew) (b0:=b) hreg' hal hdst hnb (fun a' w' G' h1 h2=>?_) ops.size (Array.replicate ops.size false) (List.range ops.size) { S with box:=b } a w.drew G (by simp) ?_ (by simp) ?_ (IRun.of_all hrun) hrd ?_ (LeK.refl _ _ _ _)
  .have hl2:=hld.step h2;have hK2:=fReg_sound hK;obtain⟨b2,hb2,hr2,hp2,hkeep2⟩:=preB_sound hnb (#[o]:Array Oper).toList S'.box (S:=S') h1 (fun o ho d hod=>dstOk_spec hdst1 o d (by simpa using ho) hod) (allocOk_nodup hal1) hK2;have hl3:LeC cx G0 w0 G' w' { S' with box:=b2 }:=⟨hl2.1,fun k hk hg=>by
    rw[<-hl2.2 k hk hg];refine hkeep2 k fun hm=>?_
    obtain⟨o,ho,he⟩:=List.mem_filterMap.1 hm;split at he
    .rename_i T s h1 h2;simp only[Option.some.injEq] at he;subst he;exact absurd hk (by simp)
    .cases he⟩
   simp only at hb2;have hfin:=aops_sound (cx:=cx) (ops := #[o]) (Q:=fun e a' w'=>∃S' G',(match e with|.normal=>AL P cx nt0 K r S'|e=>AU P cx nt0 K r e S')/\RelS cx.n cx.nb G' S' a' w'/\LeC cx G0 w0 G' w' S') (K:=AL P cx nt0 K r) (G0:=G0) (w0:=w0) (fun o d ho hod=>dstOk_spec hdst1 o d ho hod) hnb hal1 (fun S' a' w' G' h1 h2 h3=>⟨S',G',h1,h2,h3⟩) (#[o]:Array Oper).toList 0 { S' with box:=b2 } a' w' G' (by simp) hp2 hr2 hl3 hb2;rw[show (#[o]:Array Oper).toList.length=1 from rfl,show List.range' 0 1=[0] from rfl,wpOps_cons] at hfin;unfold wpOp at hfin;rw[show (#[o]:Array Oper)[0]?=some o from rfl] at hfin;simp only at hfin;rw[if_pos (by simp[Region.wanted,hgn])] at hfin;exact hfin
  .rw[List.filter_eq_self.2];intro i hi;simp at hi;simp[Array.getD,hi]
  .intro i o ho hlst;have hi:=(Array.getElem?_eq_some_iff.1 ho).1;simp[Array.getD,hi] at hlst
  .intro i _ o ho;exact hp o (by simpa using Array.mem_of_getElem? ho)
variable {P:Program}
theorem RelM.conv{R:AV->AV->Prop}{G G':Gh}{w w':World}{base nb nt nt':Nat}{out:Bxs}{loc loc':List (Nat × List (List AV))}{tok tok':Nat->Bool}(hm:RelM G ⟨lb base out loc,nb,tok,nt⟩ w)(hm':RelM G' ⟨lb base out loc,nb,tok',nt'⟩ w')(hbx:G'.bx=G.bx)(hto:∀x y v,R x y->RV G w x v->RV G' w' y v)(hh:∀b,G.kind b=.box->w'.heap[b]?=w.heap[b]?)(hb:CvB R loc loc'):
  RelM G' ⟨lb base out loc',nb,tok',nt'⟩ w':=by
 constructor
 case box =>
  intro k rows b z hk hbk;simp only at hk;by_cases hkb:k<base
  .rw[lO hkb] at hk;exact hm'.box k rows b z (by simp only;rw[lO hkb];exact hk) hbk
  .have hkk:k=base+(k-base):=by omega
   rw[hkk,lb_at] at hk;rcases hb.at (k-base) with ⟨_,h2⟩|⟨r0,r',h1,h2,h3⟩
   .rw[h2] at hk;cases hk
   .rw[h2] at hk;cases hk;obtain⟨g0,cs,e,g2,g3,g4,g5⟩:=hm.box k r0 b z (by simp only;rw[hkk,lb_at];exact h1) (by rw[<-hbx];exact hbk);obtain⟨g1,_⟩:=hm'.box k r0 b z (by simp only;rw[hkk,lb_at];exact h1) hbk;refine⟨g1,cs,e,(hh b g0).trans g2,fun q hq=>?_,⟨h3.flat.1.symm.trans g4.1,fun i h1 h2=>hto _ _ _ (h3.flat.2 i (by rw[h3.flat.1];exact h1) h1) (g4.2 i _ h2)⟩,g5⟩;obtain⟨i,hi,rfl⟩:=List.getElem_of_mem hq;have hi0:i<r0.length:=by rw[h3.1];exact hi
    rw[<-(h3.2 i hi0 hi).1];exact g3 _ (List.getElem_mem _)
 case nobox =>
  intro k hk;refine hm'.nobox k ?_;simp only at hk ⊢;by_cases hkb:k<base
  .rw[lO hkb] at hk ⊢;exact hk
  .have hkk:k=base+(k-base):=by omega
   rw[hkk,lb_at] at hk ⊢;rcases hb.at (k-base) with ⟨h1,_⟩|⟨r0,r',_,h2,_⟩
   .exact h1
   .rw[h2] at hk;cases hk
 case inj=>exact hm'.inj
 case nb =>
  intro k hk;have h0:=hm'.nb k hk;simp only at h0 ⊢;by_cases hkb:k<base
  .rw[lO hkb] at h0 ⊢;exact h0
  .have hkk:k=base+(k-base):=by omega
   rw[hkk,lb_at] at h0 ⊢;rcases hb.at (k-base) with ⟨_,h2⟩|⟨r0,r',h1,_,_⟩
   .exact h2
   .rw[h1] at h0;cases h0
 case nt=>exact hm'.nt
 case toks=>exact hm'.toks
 case tokb=>exact hm'.tokb
 case tinj=>exact hm'.tinj
 case tnt=>exact hm'.tnt
 case glob=>exact hm'.glob
 case fresh=>exact hm'.fresh
def AV.mpF(t:Nat):AV->AV
 | .mp t' es=>if t'=t then .mpd (mpE es) else .mp t' es
 | x=>x
theorem Trans.mapD{cx:Cx}{nt0 nt:Nat}{l:List (Nat × AV)}{out:Bxs}{loc:List (Nat × List (List AV))}{tok:Nat->Bool}(t:Nat)(ht:tok t=true):
  Trans cx nt0 ⟨tl l,lb cx.base out loc,tok,nt⟩ ⟨tl (l.map fun q=>(q.1,q.2.mpF t)),lb cx.base out (loc.map fun q=>(q.1,q.2.map fun r=>r.map (AV.mpF t))),upd tok t false,nt⟩:=by
 intro G0 w0 G a w he hn0 hS hL;have hm:=hS.mem;obtain⟨hlt,x,hx⟩:=hm.toks t ht;have hmk:=hm.kill (.tok t);have hlk:=Le.kill (G:=G) (w:=w) (.tok t);have fin:∀G',Le G w G' w->G'.bx=G.bx->RelM G' ⟨lb cx.base out loc,cx.nb,upd tok t false,nt⟩ w->(∀es v,MpR G w t es v->MpD G' w (mpE es) v) ->
   ∃G',RelS cx.n cx.nb G' ⟨tl (l.map fun q=>(q.1,q.2.mpF t)),lb cx.base out (loc.map fun q=>(q.1,q.2.map fun r=>r.map (AV.mpF t))),upd tok t false,nt⟩ a w/\LeC cx G0 w0 G' w ⟨tl (l.map fun q=>(q.1,q.2.mpF t)),lb cx.base out (loc.map fun q=>(q.1,q.2.map fun r=>r.map (AV.mpF t))),upd tok t false,nt⟩:=by
  intro G' hle hbx hm' hd;have hto:∀x y v,y=AV.mpF t x->RV G w x v->RV G' w y v:=fun x y v h hr=>by
   subst h;cases x with
   | mp t' es =>
    simp only[AV.mpF];split
    .rename_i h;subst h;cases hr with|mp hr=>exact .mpd (hd _ _ hr)
    .exact hr.mono hle
   | _=>exact hr.mono hle
  refine⟨G',⟨hS.defers,hS.size,fun i=>hto _ _ _ ?_ (hS.tmps i),hm.conv hm' hbx hto (fun _ _=>rfl) (cvB_map (R:=fun x y=>y=AV.mpF t x) (fun _=>rfl) loc)⟩,?_⟩
  .exact CvL.at (R:=fun x y=>y=AV.mpF t x) rfl (cvL_map (R:=fun x y=>y=AV.mpF t x) (fun _=>rfl) l) i
  .refine hL.step ⟨hle,fun k hkb hg=>⟨by rw[hbx];exact hg,?_⟩⟩;simp only;rw[lO hkb,lO hkb]
 cases x with
 | none =>
  refine fin (G.kill (.tok t)) hlk rfl hmk fun es v hv=>?_
  obtain⟨_,_,r,_,hst⟩:=hv;cases (hst _ hx).1
 | some g =>
  obtain⟨f,cur,e,hkg,hg⟩:=hm.tokb t g hx;by_cases hex:G.kind g=.ex
  .have hnot:=kill_not hm hx;have hlr:=Le.reKind (G:=G.kill (.tok t)) (w:=w) .whole hex hnot;refine fin ((G.kill (.tok t)).setKind g .whole) (hlk.trans hlr) rfl (hmk.reKind .whole hex hnot (heap_lt hg)) fun es v hv=>?_
   obtain⟨_,_,r,rfl,hst⟩:=hv;obtain⟨h1,h2,en,k,h3,h4,_⟩:=hst _ hx;cases h1;exact⟨g,rfl,by simp[Gh.setKind,uS],en,k,h3,h4.mono (hlk.trans hlr).cells⟩
  .refine fin (G.kill (.tok t)) hlk rfl hmk fun es v hv=>?_
   obtain⟨_,_,r,rfl,hst⟩:=hv;obtain⟨h1,h2,_⟩:=hst _ hx;cases h1;exact absurd h2 hex
theorem AL.mapD{cx:Cx}{nt0 nt:Nat}{K:Exit->AS->Prop}{q:List CI}{x:Code}{l:List (Nat × AV)}{out:Bxs}{loc:List (Nat × List (List AV))}{tok:Nat->Bool}(t:Nat)(ht:tok t=true)(h:AL P cx nt0 K (.c x::q) ⟨tl (l.map fun q=>(q.1,q.2.mpF t)),lb cx.base out (loc.map fun q=>(q.1,q.2.map fun r=>r.map (AV.mpF t))),upd tok t false,nt⟩):AL P cx nt0 K (.c x::q) ⟨tl l,lb cx.base out loc,tok,nt⟩ :=
 AL.trans (Trans.mapD t ht) h
def World.setMap(w:World)(r:Nat)(en:Array MapEntry)(k:Nat):World:={ w with heap:=w.heap.setIfInBounds r (.map en k) }
theorem setMap_same{w:World}{r:Nat}{o:Obj}(h:w.heap[r]?=some o)(en:Array MapEntry)(k:Nat):(World.setMap w r en k).heap[r]?=some (.map en k):=by
 have:=heap_lt h
 simp[World.setMap,this]
theorem setMap_other{w:World}{r b:Nat}(h:b≠r)(en:Array MapEntry)(k:Nat):(World.setMap w r en k).heap[b]?=w.heap[b]?:=by
 simp[World.setMap,Ne.symm h]
theorem setMap_size(w:World)(r:Nat)(en:Array MapEntry)(k:Nat):(World.setMap w r en k).heap.size=w.heap.size:=by simp[World.setMap]
theorem Le.setMap{G:Gh}{w:World}{r:Nat}(hk:G.kind r=.ex)(ht:∀t,G.tk t≠some (some r)){en0:Array MapEntry}{k0:Nat}(hg:w.heap[r]?=some (.map en0 k0))(en:Array MapEntry)(k:Nat):Le G w G (World.setMap w r en k) where
 os:=rfl
 tape:=rfl
 output:=rfl
 size:=by rw[setMap_size];exact nr _
 whole b hb h:=⟨h,setMap_other (fun e=>by subst e;rw[hk] at h;cases h) en k⟩
 part b f0 c0 h:=⟨⟨f0,nr _,h⟩,fun a ha _=>World.cell?_of_block (setMap_other (fun e=>by
  have:G.kind r=.part f0 c0:=by rw[<-e,ha];exact h
  rw[hk] at this;cases this) en k)⟩
 bx _ _ h:=h
 nt:=nr _
 tk t _:=.inr ⟨rfl,fun j hj=>⟨rfl,fun _=>setMap_other (fun e=>by subst e;exact ht t hj) en k⟩⟩
 ty b c0 T f0 hb:=⟨c0,f0,by rw[setMap_other (fun e=>by subst e;rw[hg] at hb;cases hb) en k];exact hb⟩
theorem RelM.setMap{G:Gh}{m:AMem}{w:World}(h:RelM G m w){r:Nat}(hk:G.kind r=.ex)(ht:∀t,G.tk t≠some (some r)){en0:Array MapEntry}{k0:Nat}(hg:w.heap[r]?=some (.map en0 k0))(en:Array MapEntry)(k:Nat):RelM G m (World.setMap w r en k):=by
 have hle:=Le.setMap hk ht hg en k;constructor
 case box =>
  intro q rows b sz hkk hb;obtain⟨h1,cs,e',h2,h3,h4,h5⟩:=h.box q rows b sz hkk hb;exact⟨h1,cs,e',(setMap_other (fun e=>by subst e;rw[hk] at h1;cases h1) en k).trans h2,h3,h4.mono hle,h5⟩
 case nobox=>exact h.nobox
 case inj=>exact h.inj
 case nb=>exact h.nb
 case nt=>exact h.nt
 case toks=>exact h.toks
 case tokb =>
  intro t j hj;obtain⟨f0,cur0,e0,h1,h2⟩:=h.tokb t j hj;exact⟨f0,cur0,e0,h1,(setMap_other (fun e=>by subst e;exact ht t hj) en k).trans h2⟩
 case tinj=>exact h.tinj
 case tnt=>exact h.tnt
 case glob=>exact h.glob.mono hle.cells
 case fresh =>
  intro b hb;exact h.fresh b (by rw[setMap_size] at hb;exact hb)
def mpPut(es:List (ByteArray × List (List D) × Own))(s:ByteArray)(xs:List (List D))(o:Own):List (ByteArray × List (List D) × Own):=match es.findIdx? fun e=>decide (e.1=s) with
 | some i=>es.set i (s,xs,o)
 | none=>es++[(s,xs,o)]
theorem sameBits_str(n:Nat)(s:ByteArray):Instr.sameBits n (.string s) (.string s)=true:=by
 cases n<;>simp[Instr.sameBits,bs_dec]
theorem run_mapUpdate_str{w:World}{T:TypeId}{r:Nat}{en:Array MapEntry}{k:Nat}{c:Addr->Option Value}{ps:Addr->Prop}{es:List (ByteArray × List (List D))}(hT:mapT P T=true)(hb:w.heap[r]?=some (.map en k))(he:EnR c ps es en)(s:ByteArray)(v:Value):
  ∃en' k',(Instr.mapUpdate T (.map (some r)) (.string s) v).run P w=.ok () (World.setMap w r en' k')/\(match es.findIdx? fun e=>decide (e.1=s) with
   | some i=>en'.size=en.size/\(∀j (h:j<en'.size) (h2:j<en.size),j≠i->en'[j].key=en[j].key/\en'[j].val=en[j].val)/\∀h:i<en'.size,en'[i].key=.string s/\en'[i].val=v
   | none=>en'.size=en.size+1/\(∀j (h:j<en'.size) (h2:j<en.size),en'[j].key=en[j].key/\en'[j].val=en[j].val)/\∀h:en.size<en'.size,en'[en.size].key=.string s/\en'[en.size].val=v):=by
 obtain⟨kt,et,h1,h2,h3⟩:=mapT_spec hT;have hf:=findNow_str s en.toList (es.map (·.1)) 0 he.keys;have hc:(Instr.checkKey false 10000 kt (.string s)).run P w=.ok () w:=MapKept.run_checkKey (k:=.string s) h2 (by simp[MapKept.IsKey]) _ 9999
 have hk:=MapKept.run_findKey (w:=w) h2 hf;rw[find_map] at hk;cases hi:es.findIdx? fun e=>decide (e.1=s) with
 | none =>
  rw[hi] at hk;simp only[Option.bind_none] at hk;refine⟨en.push { key:=.string s,val:=v,born:=k },k+1,?_,by simp,fun j h h2=>?_,fun h=>by simp⟩
  .simp[Instr.mapUpdate,run_underlying h1,MapKept.run_getObj_map hb,hc,hk,MapKept.run_setObj_map _ hb,Result.andThen,World.setMap]
  .rw[Array.getElem_push_lt h2];exact⟨rfl,rfl⟩
 | some i =>
  have hlt:i<en.size:=by
   have:=(List.findIdx?_eq_some_iff_getElem.1 hi).1
   rw[he.1] at this;exact this
  have hkey:en[i].key=.string s:=by
   obtain⟨g1,g2,_⟩:=List.findIdx?_eq_some_iff_getElem.1 hi;rw[(he.2 i g1 hlt).1];simp at g2;rw[g2]
  rw[hi] at hk;have hg:en.toList[i]?=some en[i]:=by simp[hlt]
  simp only[Option.bind_some,hg,Option.map_some,Nat.zero_add] at hk;refine⟨en.modify i fun e=>{ e with key:=.string s,val:=v },k,?_,by simp,fun j h h2 hne=>?_,fun h=>?_⟩
  .simp[Instr.mapUpdate,run_underlying h1,MapKept.run_getObj_map hb,hc,hk,hlt,hkey,Instr.keyThatStays,sameBits_str,MapKept.run_setObj_map _ hb,Result.andThen,World.setMap]
  .rw[Array.getElem_modify,if_neg (Ne.symm hne)];exact⟨rfl,rfl⟩
  .rw[Array.getElem_modify,if_pos rfl];exact⟨rfl,rfl⟩
def AV.mpU(t nt:Nat)(es':List (ByteArray × List (List D) × Own)):AV->AV
 | .mp t' es=>if t'=t then .mp nt es' else .mp t' es
 | x=>x
def LastK(P:Program)(cx:Cx)(o:Oper)(S:AS)(K:AS->Prop):Prop:=∀(G0:Gh) (w0:World) (Q:Act->World->Prop) (E:Exit->Act->World->Prop),(∀S a w G,K S->RelS cx.n cx.nb G S a w->LeC cx G0 w0 G w S->Q a w) ->
 ∀G a w,RelS cx.n cx.nb G S a w->LeC cx G0 w0 G w S->o.wp P a w Q E
theorem LastK.put{cx:Cx}{o:Oper}{K:AS->Prop}{l:List (Nat × AV)}{out:Bxs}{loc:List (Nat × List (List AV))}{tok:Nat->Bool}{nt:Nat}{T:TypeId}{m k v:Operand}(t:Nat)(es:List (ByteArray × List (List D) × Own))(s:ByteArray)(xs:List (List D))(own:Own)(ho:o.op=.mapUpdate T m k v)(hd:o.dst=none)(hT:mapT P T=true)(ht:tok t=true)(hmv:AS.ev ⟨tl l,lb cx.base out loc,tok,nt⟩ m=.mp t es)(hkv:AS.ev ⟨tl l,lb cx.base out loc,tok,nt⟩ k=.d (.raw (.string s)))(hvv:AS.ev ⟨tl l,lb cx.base out loc,tok,nt⟩ v=.osl 1 xs own)(h:K ⟨tl (l.map fun q=>(q.1,q.2.mpU t nt (mpPut es s xs own))),lb cx.base out (loc.map fun q=>(q.1,q.2.map fun r=>r.map (AV.mpU t nt (mpPut es s xs own)))),upd (upd tok t false) nt true,nt+1⟩):
  LastK P cx o ⟨tl l,lb cx.base out loc,tok,nt⟩ K:=by
 intro G0 w0 Q E hQ G a w hS hL;have hm:=hS.mem;have hmr:=hS.ev m;have hkr:=hS.ev k;have hvr:=hS.ev v;rw[hmv] at hmr;rw[hkv] at hkr;rw[hvv] at hvr;generalize hmx:a.eval m=mx at hmr;generalize hkx:a.eval k=kx at hkr;generalize hvx:a.eval v=vx at hvr;have hk1:kx=.string s:=by cases hkr with|d h=>cases h;rfl
 subst hk1;cases hmr with
 | mp hmr =>
  obtain⟨htl,hts,r,rfl,hmr⟩:=hmr;obtain⟨_,x,hx⟩:=hm.toks t ht;obtain⟨rfl,hkr2,en,k0,hh,he,how⟩:=hmr x hx;obtain⟨en',k',hrun,hen⟩:=run_mapUpdate_str (P:=P) hT hh he s vx;have hnot:=kill_not hm hx;have hmk:=hm.kill (.tok t);have hlk:=Le.kill (G:=G) (w:=w) (.tok t);have hms:=hmk.setMap hkr2 hnot hh en' k';have hls:=Le.setMap (G:=G.kill (.tok t)) hkr2 hnot hh en' k';have hhe:(World.setMap w r en' k').heap[r]?=some (.map en' k'):=setMap_same hh en' k'
  have hmn:=hms.newtok (some r) (fun g hg=>by cases hg;exact⟨hnot,0, #[],_,.inr hkr2,hhe⟩);have hln:=Le.newtok (G:=G.kill (.tok t)) (w:=World.setMap w r en' k') (some r);have hle:=(hlk.trans hls).trans hln;have hgnt:G.nt=nt:=hm.nt
  have hvd:RVd w.cell? G.ps (.sl 1 xs) vx/\OwnR G 1 xs.length own vx:=by cases hvr with|osl h1 h2=>exact⟨h1,h2⟩
  have hown1:∀t',own=.tok t'->t'<G.nt:=fun t' e=>by subst e;exact hvd.2.1
  have hmp:MpR ((G.kill (.tok t)).newtok (some r)) (World.setMap w r en' k') nt (mpPut es s xs own) (.map (some r)):=by
   refine⟨by simp only[Gh.newtok,Gh.kill];omega,fun e he' t' e1=>?_,r,rfl,fun y hy=>?_⟩
   .have:t'<G.nt:=by
     unfold mpPut at he';split at he'
     .rcases List.mem_or_eq_of_mem_set he' with h5|h5
      .exact hts e h5 t' e1
      .subst h5;exact hown1 t' e1
     .rcases List.mem_append.1 he' with h5|h5
      .exact hts e h5 t' e1
      .simp at h5;subst h5;exact hown1 t' e1
    simp only[Gh.newtok,Gh.kill];omega
   .simp only[Gh.newtok,Gh.kill,hgnt,uS,Option.some.injEq] at hy;subst hy;refine⟨rfl,hkr2,en',k',hhe,?_⟩;have hfi:(mpE es).findIdx? (fun e=>decide (e.1=s))=es.findIdx? fun e=>decide (e.1=s):=by
     rw[mpE,List.findIdx?_map];rfl
    rw[hfi] at hen;have hsz:es.length=en.size:=by have:=he.1;simpa[mpE] using this
    cases hi:es.findIdx? fun e=>decide (e.1=s) with
    | some i =>
     rw[hi] at hen;simp only at hen;obtain⟨e1,e2,e3⟩:=hen;have hp:mpPut es s xs own=es.set i (s,xs,own):=by simp only[mpPut,hi]
     rw[hp];refine⟨⟨by simp[mpE,e1,hsz],fun j h1 h2=>?_⟩,fun j h1 h2=>?_⟩
     .have hj:j<es.length:=by simpa[mpE] using h1
      by_cases hji:j=i
      .subst hji;simp only[mpE,List.getElem_map,List.getElem_set_self];exact⟨(e3 h2).1,by rw[(e3 h2).2];exact hvd.1.mono hle.cells⟩
      .simp only[mpE,List.getElem_map,List.getElem_set_ne (Ne.symm hji)];obtain⟨q1,q2⟩:=e2 j h2 (by omega) hji;have:=he.2 j (by simpa[mpE] using hj) (by omega)
       simp only[mpE,List.getElem_map] at this;rw[q1,q2];exact⟨this.1,this.2.mono hle.cells⟩
     .have hj:j<es.length:=by simpa using h1
      by_cases hji:j=i
      .subst hji;simp only[List.getElem_set_self];rw[(e3 h2).2];exact hvd.2.mono hle
      .simp only[List.getElem_set_ne (Ne.symm hji)];rw[(e2 j h2 (by omega) hji).2];exact(how j hj (by omega)).mono hle
    | none =>
     rw[hi] at hen;simp only at hen;obtain⟨e1,e2,e3⟩:=hen;have hp:mpPut es s xs own=es++[(s,xs,own)]:=by simp only[mpPut,hi]
     rw[hp];have hval:∀j (h1:j<(es++[(s,xs,own)]).length),(es++[(s,xs,own)])[j]=if h:j<es.length then es[j] else (s,xs,own):=fun j h1=>by
      by_cases h:j<es.length
      .rw[dif_pos h,List.getElem_append_left h]
      .rw[dif_neg h];simp at h1;have:j=es.length:=by omega
       subst this;simp
     refine⟨⟨by simp[mpE,e1,hsz],fun j h1 h2=>?_⟩,fun j h1 h2=>?_⟩
     .simp only[mpE,List.getElem_map];rw[hval j (by simpa[mpE] using h1)];by_cases h:j<es.length
      .rw[dif_pos h];obtain⟨q1,q2⟩:=e2 j h2 (by omega);have:=he.2 j (by simpa[mpE] using h) (by omega)
       simp only[mpE,List.getElem_map] at this;rw[q1,q2];exact⟨this.1,this.2.mono hle.cells⟩
      .rw[dif_neg h];have:j=en.size:=by omega
       subst this;exact⟨(e3 h2).1,by rw[(e3 h2).2];exact hvd.1.mono hle.cells⟩
     .rw[hval j h1];by_cases h:j<es.length
      .rw[dif_pos h];rw[(e2 j h2 (by omega)).2];exact(how j h (by omega)).mono hle
      .rw[dif_neg h];have:j=en.size:=by omega
       subst this;rw[(e3 h2).2];exact hvd.2.mono hle
  have hto:∀x y v,y=AV.mpU t nt (mpPut es s xs own) x->RV G w x v->RV ((G.kill (.tok t)).newtok (some r)) (World.setMap w r en' k') y v:=fun x y v h hr=>by
   subst h;cases x with
   | mp t' es0 =>
    simp only[AV.mpU];split
    .rename_i h;subst h;cases hr with
     | mp hr =>
      obtain⟨_,_,r2,rfl,hr⟩:=hr;have:=(hr _ hx).1
      cases this;exact .mp hmp
    .exact hr.mono hle
   | _=>exact hr.mono hle
  have hS':RelS cx.n cx.nb ((G.kill (.tok t)).newtok (some r)) ⟨tl (l.map fun q=>(q.1,q.2.mpU t nt (mpPut es s xs own))),lb cx.base out (loc.map fun q=>(q.1,q.2.map fun r=>r.map (AV.mpU t nt (mpPut es s xs own)))),upd (upd tok t false) nt true,nt+1⟩ a (World.setMap w r en' k') :=
   ⟨hS.defers,hS.size,fun i=>hto _ _ _ (CvL.at (R:=fun x y=>y=AV.mpU t nt (mpPut es s xs own) x) rfl (cvL_map (R:=fun x y=>y=AV.mpU t nt (mpPut es s xs own) x) (fun _=>rfl) l) i) (hS.tmps i),
    hm.conv hmn rfl hto (fun b hb=>setMap_other (fun e=>by subst e;rw[hkr2] at hb;cases hb) en' k') (cvB_map (R:=fun x y=>y=AV.mpU t nt (mpPut es s xs own) x) (fun _=>rfl) loc)⟩
  unfold Oper.wp;have hex:(execOp a.eval o).run P w=.ok .skip (World.setMap w r en' k'):=by
   simp only[execOp,ho,hmx,hkx,hvx,Sem.run_bind,hrun,Result.andThen_ok,Sem.run_pure]
  rw[hex];simp only[Oper.upon,hd,Act.put];exact hQ _ _ _ _ h hS' (hL.step ⟨hle,fun k hkb hg=>⟨hg,by simp only;rw[lO hkb,lO hkb]⟩⟩)
theorem AL.splitG{cx:Cx}{nt0:Nat}{K:Exit->AS->Prop}{r:List CI}{S:AS}{id:Nat}{L ops:Array Oper}{o:Oper}(hL:L=ops.push o)(hf:P.follows .mixedOrders=true)(hnb:cx.base+cx.n<=cx.nb)(hok:splitOk cx.n ops o=true)(h:FReg P cx ops true (fun S'=>LastK P cx o S' (AL P cx nt0 K r)) S):AL P cx nt0 K (.c (.region id L true)::r) S:=by
 subst hL;unfold splitOk at hok;simp only[Bool.and_eq_true,regionOk,Bool.or_eq_true,Bool.not_eq_true',Option.isNone_iff_eq_none] at hok;obtain⟨⟨⟨hal,hdst⟩,hreg⟩,⟨⟨hal1,hdst1⟩,_⟩,hdown,htied,hgo,hgn⟩:=hok;have hreg':regOk ops=true:=by simpa using hreg
 have h:=fReg_sound h;simp only[AL];intro G0 w0 he hn G a w hr hl;have hd:=dstOk_spec hdst;obtain⟨b,hb,hr1,hp,hkeep⟩:=preB_sound hnb ops.toList S.box (S:=S) hr (fun o ho d hod=>hd o d (by simpa using ho) hod) (allocOk_nodup hal) h;have hl1:LeC cx G0 w0 G w { S with box:=b }:=⟨hl.1,fun k hk hg=>by
  rw[<-hl.2 k hk hg];refine hkeep k fun hm=>?_
  obtain⟨o,ho,he⟩:=List.mem_filterMap.1 hm;split at he
  .rename_i T s h1 h2;simp only[Option.some.injEq] at he;subst he;exact absurd hk (by simp)
  .cases he⟩
 simp only at hb;obtain⟨S',hrun,hK⟩:=hb;refine wp_region_any hf ?_;have hrd:RelS cx.n cx.nb G { S with box:=b } a w.drew:=hr1.drew
 have hld:LeC cx G0 w0 G w.drew { S with box:=b }:=hl1.step ⟨Le.drew,fun k _ hg=>⟨hg,rfl⟩⟩
 rw[Array.size_push];refine wpAny_split (Qm:=fun e a' w'=>match e with
  | .normal=>o.wp P a' w' (fun a w=>∃S' G',AL P cx nt0 K r S'/\RelS cx.n cx.nb G' S' a w/\LeC cx G0 w0 G' w S') (fun e a' w'=>∃S' G',(match e with|.normal=>AL P cx nt0 K r S'|e=>AU P cx nt0 K r e S')/\RelS cx.n cx.nb G' S' a' w'/\LeC cx G0 w0 G' w' S')∨(o.asks P a' w'/\LetsOut (fun e a' w'=>∃S' G',(match e with|.normal=>AL P cx nt0 K r S'|e=>AU P cx nt0 K r e S')/\RelS cx.n cx.nb G' S' a' w'/\LeC cx G0 w0 G' w' S'))
  | e=>False) hdown htied hgo hgn (fun e a w hne hh=>by cases e<;>first|exact absurd rfl hne|exact hh.elim) (fun a w hh=>?_) ops.size _ (Array.replicate ops.size false) (by simp) (by simp) (fun i hi=>by simp[Array.getElem?_replicate,hi];omega) (by simp[Array.getElem?_replicate]) ?_ a w.drew ?_
 .exact hh
 .intro i x hx hl2;have:=of_getD hl2
  rw[Array.getElem?_replicate] at this;split at this
  .cases this
  .cases this
 .refine any_sound (n:=cx.n) (nb:=cx.nb) (base:=cx.base) (Sf:=S') (G0:=G) (w0:=w.drew) (b0:=b) hreg' hal hdst hnb (fun a' w' G' h1 h2=>?_) ops.size (Array.replicate ops.size false) (List.range ops.size) { S with box:=b } a w.drew G (by simp) ?_ (by simp) ?_ (IRun.of_all hrun) hrd ?_ (LeK.refl _ _ _ _)
  .have hl2:=hld.step h2;exact .inl (hK G0 w0 _ _ (fun S a w G q1 q2 q3=>⟨S,G,q1,q2,q3⟩) G' a' w' h1 hl2)
  .rw[List.filter_eq_self.2];intro i hi;simp at hi;simp[Array.getD,hi]
  .intro i o ho hlst;have hi:=(Array.getElem?_eq_some_iff.1 ho).1;simp[Array.getD,hi] at hlst
  .intro i _ o ho;exact hp o (by simpa using Array.mem_of_getElem? ho)
theorem AL.splitLG{cx:Cx}{nt0:Nat}{K:Exit->AS->Prop}{r:List CI}{S:AS}{id:Nat}{L:List Oper}{o:Oper}(hl:L.getLast?=some o)(hL:L=L.dropLast++[o])(hf:P.follows .mixedOrders=true)(hnb:cx.base+cx.n<=cx.nb)(hok:splitOk cx.n L.dropLast.toArray o=true)(h:FReg P cx L.dropLast.toArray true (fun S'=>LastK P cx o S' (AL P cx nt0 K r)) S):AL P cx nt0 K (.c (.region id L.toArray true)::r) S:=by
 refine AL.splitG (ops:=L.dropLast.toArray) (o:=o) ?_ hf hnb hok h;rw[List.push_toArray,<-hL]
inductive QuTo (t sz:Nat):AV->AV->Prop
 | bot {x}:QuTo t sz x .bot
 | same {x}:QuTo t sz x x
 | nil {n}:QuTo t sz (.osl n [] .full) (.que t sz [])
 | tok {t' s es}:QuTo t sz (.osl s es (.tok t')) (.que t' s es)
theorem QuTo.rv{G:Gh}{w:World}{t sz:Nat}(ht:t<G.nt)(hk:G.tk t=some none){x y:AV}{v:Value}(h:QuTo t sz x y)(hr:RV G w x v):RV G w y v:=by
 cases h with
 | bot=>exact .bot
 | same=>exact hr
 | nil =>
  cases hr with
  | osl _ ho =>
   obtain⟨A,rfl,_⟩:=ho;exact .que (.sl (es:=[]) (fun _ _=>default) (nr _) (Nat.zero_le _) (by simp) (by simp) (fun a _ i j hi _=>by simp at hi) (fun i j hi _=>by simp at hi)) ⟨ht,fun x hx=>.inl ⟨A,rfl⟩⟩
 | tok =>
  cases hr with
  | osl h1 ho =>
   refine .que h1 ⟨ho.1,fun x hx=>?_⟩;have:=ho.2 x hx
   cases x with
   | none=>exact .inl this
   | some g =>
    obtain⟨cap,hv,hk⟩:=this;exact .inr ⟨g,0,cap,rfl,hv,by simpa using hk⟩
theorem Trans.que{cx:Cx}{nt0 nt:Nat}{l l':List (Nat × AV)}{out:Bxs}{loc loc':List (Nat × List (List AV))}{tok:Nat->Bool}(sz:Nat)(hl:CvL (QuTo nt sz) l l')(hb:CvB (QuTo nt sz) loc loc'):
  Trans cx nt0 ⟨tl l,lb cx.base out loc,tok,nt⟩ ⟨tl l',lb cx.base out loc',upd tok nt true,nt+1⟩:=by
 intro G0 w0 G a w he hn0 hS hL;have hm:=hS.mem;have hgnt:G.nt=nt:=hm.nt
 have hle:=Le.newtok (G:=G) (w:=w) none;have hm':=hm.newtok none (fun g h=>by cases h)
 have h1:nt<(G.newtok none).nt:=by simp only[Gh.newtok];omega
 have h2:(G.newtok none).tk nt=some none:=by simp only[Gh.newtok];rw[<-hgnt,uS]
 refine⟨G.newtok none,⟨hS.defers,hS.size,fun i=>(hl.at .bot i).rv h1 h2 ((hS.tmps i).mono hle),hm'.rows (fun x y v h hr=>h.rv h1 h2 hr) hb⟩,?_⟩;refine hL.step ⟨hle,fun k hkb hg=>⟨hg,?_⟩⟩;simp only;rw[lO hkb,lO hkb]
section
variable {t sz:Nat}
@[simp] theorem quTo_bot(x:AV):QuTo t sz x .bot:=.bot
@[simp] theorem quTo_same(x:AV):QuTo t sz x x:=.same
@[simp] theorem quTo_nil(n:Nat):QuTo t sz (.osl n [] .full) (.que t sz []):=.nil
@[simp] theorem quTo_tok(t' s:Nat)(es:List (List D)):QuTo t sz (.osl s es (.tok t')) (.que t' s es):=.tok
end
section
variable {p:Nat->Prop} {fz:Option (Nat × Nat × List (List D))}
@[simp] theorem to_mp(t:Nat)(es:List (ByteArray × List (List D) × Own)):To p (fun _=>True) fz (.mp t es) (.mp t es):=.same (.mp trivial fun _ _ _ _=>trivial)
@[simp] theorem to_mpd{q:Nat->Prop}(es:List (ByteArray × List (List D))):To p q fz (.mpd es) (.mpd es):=.same .mpd
@[simp] theorem okIn_mpd{q:Nat->Prop}{es:List (ByteArray × List (List D))}:OkIn p q (.mpd es):=.mpd
end
attribute [simp] fM AV.mpF AV.mpU
variable {P:Program}
theorem Seg.opn{cx:Cx}{ops:Array Oper}{k nt:Nat}{K:AS->Prop}{l l':List (Nat × AV)}{out:Bxs}{loc loc':List (Nat × List (List AV))}{tok:Nat->Bool}(sz:Nat)(hl:CvL (OpTo nt sz) l l')(hb:CvB (OpTo nt sz) loc loc')(h:Seg P cx ops k K ⟨tl l',lb cx.base out loc',upd tok nt true,nt+1⟩):Seg P cx ops k K ⟨tl l,lb cx.base out loc,tok,nt⟩:=by
 intro G0 w0 Q hQ G a w hS hL;have hm:=hS.mem;have hgnt:G.nt=nt:=hm.nt
 have hle:=Le.newtok (G:=G) (w:=w) none;have hm':=hm.newtok none (fun g h=>by cases h)
 have h1:nt<(G.newtok none).nt:=by simp only[Gh.newtok];omega
 have h2:(G.newtok none).tk nt=some none:=by simp only[Gh.newtok];rw[<-hgnt,uS]
 refine h G0 w0 Q hQ (G.newtok none) a w ⟨hS.defers,hS.size,fun i=>(hl.at .bot i).rv h1 h2 ((hS.tmps i).mono hle),hm'.rows (fun x y v h hr=>h.rv h1 h2 hr) hb⟩ ?_;refine hL.step ⟨hle,fun k hkb hg=>⟨hg,?_⟩⟩;simp only;rw[lO hkb,lO hkb]
open Go Go.Proofs
open Go.Proofs.Tryz
inductive Fo where
 | mk (kind:Int) (name:ByteArray) (kids:List Fo)
 deriving Inhabited
def Fo.kind:Fo->Int|.mk k _ _=>k
def Fo.name:Fo->ByteArray|.mk _ s _=>s
def Fo.kids:Fo->List Fo|.mk _ _ c=>c
mutual
def Fo.cells:Fo->List D
 | .mk k s c=>[.raw (.int .i64 k),.raw (.string s),.sl 3 (Fo.rows c)]
def Fo.rows:List Fo->List (List D)
 | []=>[]
 | x::r=>Fo.cells x::Fo.rows r
end
theorem Fo.rows_map:∀l:List Fo,Fo.rows l=l.map Fo.cells
 | []=>by simp[Fo.rows]
 | x::r=>by simp[Fo.rows,Fo.rows_map r]
abbrev fos(l:List Fo):D:=.sl 3 (l.map Fo.cells)
theorem Fo.cells_eq(c:Fo):c.cells=[.raw (.int .i64 c.kind),.raw (.string c.name),fos c.kids]:=by
 cases c;simp[Fo.cells,Fo.rows_map,Fo.kind,Fo.name,Fo.kids]
abbrev Fo.row(c:Fo):List AV:=[I c.kind,Sb c.name,.d (fos c.kids)]
abbrev Fo.av(c:Fo):AV:=.agg c.row
theorem Fo.get{l:List Fo}{i:Nat}(h:i<l.length):(l.map Fo.cells)[i]?=some [.raw (.int .i64 l[i].kind),.raw (.string l[i].name),fos l[i].kids]:=by
 simp[h,Fo.cells_eq l[i]]
mutual
def Fo.size:Fo->Nat
 | .mk _ _ c=>1+Fo.sizeL c
def Fo.sizeL:List Fo->Nat
 | []=>0
 | x::r=>Fo.size x+Fo.sizeL r
end
mutual
def Fo.depth:Fo->Nat
 | .mk _ _ c=>1+Fo.depthL c
def Fo.depthL:List Fo->Nat
 | []=>0
 | x::r=>max (Fo.depth x) (Fo.depthL r)
end
theorem Fo.size_eq(c:Fo):c.size=1+Fo.sizeL c.kids:=by cases c;simp[Fo.size,Fo.kids]
theorem Fo.depth_eq(c:Fo):c.depth=1+Fo.depthL c.kids:=by cases c;simp[Fo.depth,Fo.kids]
theorem Fo.size_pos(c:Fo):1<=c.size:=by rw[c.size_eq];omega
theorem Fo.sizeL_app:∀a b:List Fo,Fo.sizeL (a++b)=Fo.sizeL a+Fo.sizeL b
 | [],b=>by simp[Fo.sizeL]
 | x::r,b=>by simp[Fo.sizeL,Fo.sizeL_app r b];omega
theorem Fo.depthL_app:∀a b:List Fo,Fo.depthL (a++b)=max (Fo.depthL a) (Fo.depthL b)
 | [],b=>by simp[Fo.depthL]
 | x::r,b=>by simp[Fo.depthL,Fo.depthL_app r b]
theorem Fo.sizeL_mem:∀{l:List Fo} {x:Fo},x∈l->x.size<=Fo.sizeL l
 | y::r,x,h=>by
  simp only[Fo.sizeL];rcases List.mem_cons.1 h with rfl|h
  .omega
  .have:=Fo.sizeL_mem h;omega
theorem Fo.len_le:∀l:List Fo,l.length<=Fo.sizeL l
 | []=>by simp[Fo.sizeL]
 | x::r=>by have:=Fo.len_le r;have:=x.size_pos;simp[Fo.sizeL];omega
theorem Fo.depth_le_size:∀(n:Nat) (c:Fo),c.size<n->c.depth<=c.size
 | 0,c,h=>absurd h (Nat.not_lt_zero _)
 | n+1,c,h=>by
  have hk:∀l:List Fo,Fo.sizeL l<n->Fo.depthL l<=Fo.sizeL l:=by
   intro l;induction l with
   | nil=>intro _;simp[Fo.depthL]
   | cons x r ih =>
    intro hl;simp only[Fo.sizeL] at hl;have h1:=Fo.depth_le_size n x (by omega);have h2:=ih (by omega);simp only[Fo.sizeL,Fo.depthL];omega
  rw[c.size_eq] at h ⊢;rw[c.depth_eq];have:=hk c.kids (by omega)
  omega
theorem Fo.kid_size{c x:Fo}(h:x∈c.kids):x.size<c.size:=by
 have:=Fo.sizeL_mem h
 rw[c.size_eq];omega
theorem Fo.sizeL_take{l:List Fo}{i:Nat}(h:i<l.length):Fo.sizeL (l.take (i+1))=Fo.sizeL (l.take i)+l[i].size:=by
 rw[List.take_succ_eq_append_getElem h,Fo.sizeL_app];simp[Fo.sizeL]
theorem Fo.depthL_take{l:List Fo}{i:Nat}(h:i<l.length):Fo.depthL (l.take (i+1))=max (Fo.depthL (l.take i)) l[i].depth:=by
 rw[List.take_succ_eq_append_getElem h,Fo.depthL_app];simp[Fo.depthL]
theorem Fo.sizeL_take_le(l:List Fo)(i:Nat):Fo.sizeL (l.take i)<=Fo.sizeL l:=by
 conv=>rhs;rw[<-List.take_append_drop i l]
 rw[Fo.sizeL_app];omega
theorem Fo.depthL_take_le(l:List Fo)(i:Nat):Fo.depthL (l.take i)<=Fo.depthL l:=by
 conv=>rhs;rw[<-List.take_append_drop i l]
 rw[Fo.depthL_app];omega
theorem Fo.kids_len(c:Fo):c.kids.length<c.size:=by have:=Fo.len_le c.kids;rw[c.size_eq];omega
def stTm(c:Fo)(nb:Nat)(box:Bxs)(tok:Tks)(nt:Nat)(i:Nat):AS :=
 ⟨tl [(11,.d (fos c.kids)),(12,I c.kids.length),(13,I i),(4,I (1+Fo.sizeL (c.kids.take i):Nat)),(5,I (Fo.depthL (c.kids.take i))),(1,.ptr (nb+1) 0 0)],lb nb box [(1,[c.row])],tok,nt⟩
theorem measureT_c:∀(n:Nat) (c:Fo),c.size<n->c.size<=1000000->∀(tok:Tks) (nt:Nat),DCall prog 150 [c.av] tok nt (.tup [I c.size,I c.depth]) tok nt
 | 0,c,hn,_,tok,nt=>absurd hn (Nat.not_lt_zero _)
 | n+1,c,hn,hb,tok,nt=>by
  intro box nb;have ih:=fun x (hx:x∈c.kids)=>measureT_c n x (by have:=Fo.kid_size hx;omega) (by have:=Fo.kid_size hx;omega)
  have hkl:=c.kids_len;have hs:=c.size_eq;have hd:=c.depth_eq;have hds:=c.depth_le_size _ (Nat.lt_succ_self _);refine sI func150 ntmps150 fun Hb Ht=>?_
  repeat first|simp|refine sR ?_
  refine sN ?_;refine sL (stTm c nb box tok nt) (fun i=>i<=c.kids.length) (fun i=>c.kids.length-i) 0 (Nat.zero_le _) (wM (nr _) rfl (by simp[ToL,lk,Fo.sizeL,Fo.depthL]) (by simp[BoxL,lk])) ?_;rintro i S hi hS;simp only[stTm] at hS;subst hS;have hw:=sW (i:=i) (by omega);repeat first|simp|refine sR ?_|refine sC ?_
  refine⟨fun hlt=>?_,fun hge=>?_⟩
  .have h1:=Fo.sizeL_take hlt;have h2:=Fo.depthL_take hlt;have h3:=Fo.sizeL_take_le c.kids (i+1);have h4:=Fo.depthL_take_le c.kids (i+1);have ihx:=ih _ (List.getElem_mem hlt);have hw2:IntKind.i64.wrap (1+(Fo.sizeL (c.kids.take i):Int)+(c.kids[i].size:Int))=((1+Fo.sizeL (c.kids.take (i+1)):Nat):Int):=by rw[wrap_in (by omega) (by omega)];omega
   have hm:max (Fo.depthL (c.kids.take i):Int) (c.kids[i].depth:Int)=((Fo.depthL (c.kids.take (i+1)):Nat):Int):=by omega
   repeat first|simp[hlt,Fo.cells_eq]|refine sR ?_
   generalize c.kids[i]=x at *;repeat first|simp|refine sR ?_
   refine sD (ihx _ _) ?_;simp;repeat first|simp[hw2,hm]|refine sR ?_
   repeat first|simp[hw]|refine sR ?_
   refine sE ?_;exact⟨i+1,hlt,by omega,wkA⟩
  .refine sX ?_;simp only[AU,↓reduceIte];have:i=c.kids.length:=by omega
   subst this;rw[List.take_length];have hw3:IntKind.i64.wrap ((Fo.depthL c.kids:Int)+1)=((c.depth:Nat):Int):=by rw[wrap_in (by omega) (by omega)];omega
   have hs2:(1+(Fo.sizeL c.kids:Int))=((c.size:Nat):Int):=by omega
   repeat first|simp[hw3]|refine sR ?_
   refine sT (sH Hb Ht ?_);simp[hs2,hd]
structure Mdl where
 next:List (List Int)
 prev:List (List Int)
 atoms:List (ByteArray × List Bool)
def inR(n:Nat)(k:Int):Prop:=0<=k/\k<n
structure Mdl.Ok (m:Mdl) (n:Nat):Prop where
 pos:0<n
 le:n<=300
 next:m.next.length=n
 prev:m.prev.length=n
 nextR:∀r∈m.next,∀k∈r,inR n k
 prevR:∀r∈m.prev,∀k∈r,inR n k
 nextL:∀r∈m.next,r.length<=n
 prevL:∀r∈m.prev,r.length<=n
 atoms:∀a∈m.atoms,a.2.length=n
def notR(l:List Bool):List Bool:=l.map fun b=>!b
def allR(n:Nat):List Bool:=notR (List.replicate n false)
@[simp] theorem notR_len(l:List Bool):(notR l).length=l.length:=by simp[notR]
@[simp] theorem allR_len(n:Nat):(allR n).length=n:=by simp[allR]
def someR(nx:List (List Int))(l:List Bool):List Bool:=nx.map fun r=>r.any fun k=>l.getD k.toNat false
@[simp] theorem someR_len(nx:List (List Int))(l:List Bool):(someR nx l).length=nx.length:=by simp[someR]
def bfsS(f:List Bool)(s:List Bool × List Int)(i:Int):List Bool × List Int:=if s.1.getD i.toNat false=false/\f.getD i.toNat false=true then (s.1.set i.toNat true,s.2++[i]) else s
def bfs(pv:List (List Int))(f:List Bool):Nat->List Bool->List Int->List Bool
 | _,out,[]=>out
 | 0,out,_::_=>out
 | n+1,out,k::q=>bfs pv f n ((pv.getD k.toNat []).foldl (bfsS f) (out,q)).1 ((pv.getD k.toNat []).foldl (bfsS f) (out,q)).2
def bfM(s:List Bool × List Int):Nat:=s.1.count false+s.2.length
def trueIx(g:List Bool):List Int:=((List.range g.length).filter fun i=>g.getD i false).map fun (i:Nat)=>(i:Int)
def untilR(pv:List (List Int))(f g:List Bool):List Bool:=bfs pv f g.length g (trueIx g)
theorem count_set{l:List Bool}:∀{i:Nat} (h:i<l.length),l[i]=false->(l.set i true).count false+1=l.count false:=by
 induction l with
 | nil=>intro i h;simp at h
 | cons b l ih =>
  intro i h he;cases i with
  | zero=>simp at he;subst he;simp
  | succ i =>
   simp at he h;have:=ih h he
   simp[List.count_cons];omega
theorem bfsS_m{f:List Bool}{s:List Bool × List Int}{i:Int}(h:inR s.1.length i):bfM (bfsS f s i)=bfM s/\(bfsS f s i).1.length=s.1.length:=by
 unfold bfsS;split
 .rename_i hc;have hi:i.toNat<s.1.length:=by have:=h.1;have:=h.2;omega
  have hg:s.1[i.toNat]=false:=by simpa[hi] using hc.1
  have:=count_set hi hg
  simp[bfM];omega
 .exact⟨rfl,rfl⟩
theorem bfsF_m{f:List Bool}:∀(r:List Int) (s:List Bool × List Int),(∀k∈r,inR s.1.length k)->bfM (r.foldl (bfsS f) s)=bfM s/\(r.foldl (bfsS f) s).1.length=s.1.length
 | [],s,_=>⟨rfl,rfl⟩
 | i::r,s,h=>by
  obtain⟨h1,h2⟩:=bfsS_m (f:=f) (h i (by simp));obtain⟨k1,k2⟩:=bfsF_m r (bfsS f s i) (fun k hk=>by rw[h2];exact h k (by simp[hk]));exact⟨k1.trans h1,k2.trans h2⟩
theorem bfs_nil(pv:List (List Int))(f:List Bool)(n:Nat)(out:List Bool):bfs pv f n out []=out:=by cases n<;>rfl
theorem count_tf:∀l:List Bool,l.count false+l.count true=l.length
 | []=>rfl
 | b::l=>by have:=count_tf l;cases b<;>simp<;>omega
theorem trueIx_len(g:List Bool):bfM (g,trueIx g)=g.length:=by
 have h:∀g:List Bool,((List.range g.length).filter fun i=>g.getD i false).length=g.count true:=by
  intro g;induction g with
  | nil=>rfl
  | cons b g ih =>
   rw[List.length_cons,List.range_succ_eq_map,List.filter_cons,List.filter_map];have:(((fun i=>(b::g).getD i false) ∘ Nat.succ):Nat->Bool)=fun i=>g.getD i false:=by funext i;simp
   rw[this];cases b<;>simpa using ih
 have:=count_tf g
 simp only[bfM,trueIx,List.length_map,h];exact this
def trueTo(g:List Bool)(i:Nat):List Int:=((List.range i).filter fun i=>g.getD i false).map fun (i:Nat)=>(i:Int)
theorem trueTo_succ{g:List Bool}{i:Nat}(h:i<g.length):trueTo g (i+1)=if g[i]=true then trueTo g i++[(i:Int)] else trueTo g i:=by
 unfold trueTo;rw[List.range_succ,List.filter_append,List.map_append];have:g.getD i false=g[i]:=by simp[h]
 simp only[List.filter_cons,List.filter_nil,this];cases g[i]<;>simp
theorem trueTo_all(g:List Bool):trueTo g g.length=trueIx g:=rfl
theorem trueTo_in{g:List Bool}{i:Nat}(h:i<=g.length):∀k∈trueTo g i,inR g.length k:=by
 intro k hk;obtain⟨j,hj,rfl⟩:=List.mem_map.1 hk;have:=List.mem_range.1 (List.mem_filter.1 hj).1
 exact⟨by omega,by omega⟩
theorem trueTo_len(g:List Bool)(i:Nat):(trueTo g i).length<=i:=by
 unfold trueTo;rw[List.length_map];have:=List.length_filter_le (fun i=>g.getD i false) (List.range i)
 simpa using this
theorem bfsS_in{f:List Bool}{s:List Bool × List Int}{i:Int}{n:Nat}(hi:inR n i)(h:∀k∈s.2,inR n k):∀k∈(bfsS f s i).2,inR n k:=by
 unfold bfsS;split
 .intro k hk;rcases List.mem_append.1 hk with hk|hk
  .exact h k hk
  .simp at hk;subst hk;exact hi
 .exact h
def alwS(nx:List (List Int))(out:List Bool):List Bool:=List.zipWith (fun a b=>a&&b) out (someR nx out)
def alwN(nx:List (List Int)):Nat->List Bool->List Bool
 | 0,out=>out
 | n+1,out=>if alwS nx out=out then out else alwN nx n (alwS nx out)
def alwaysR(nx:List (List Int))(f:List Bool):List Bool:=alwN nx (f.count true+1) f
theorem count_and:∀(a b:List Bool),a.length=b.length->(List.zipWith (fun a b=>a&&b) a b).count true<=a.count true/\((List.zipWith (fun a b=>a&&b) a b)≠a->(List.zipWith (fun a b=>a&&b) a b).count true<a.count true)
 | [],[],_=>⟨nr _,fun h=>absurd rfl h⟩
 | x::a,y::b,h=>by
  obtain⟨h1,h2⟩:=count_and a b (by simpa using h);simp only[List.zipWith_cons_cons,List.count_cons];cases x<;>cases y<;>simp at h1 h2 ⊢
  .exact⟨h1,h2⟩
  .exact⟨h1,h2⟩
  .exact⟨by omega,by omega⟩
  .exact⟨h1,h2⟩
 | [],_::_,h=>by simp at h
 | _::_,[],h=>by simp at h
def auS(nx:List (List Int))(f:List Bool)(out:List Bool)(i:Nat):List Bool:=if out.getD i false=true∨f.getD i false=false∨((nx.getD i []).any fun k=>!(out.getD k.toNat false))=true then out else out.set i true
def auP(nx:List (List Int))(f:List Bool)(out:List Bool)(i:Nat):List Bool:=(List.range i).foldl (auS nx f) out
def auN(nx:List (List Int))(f:List Bool):Nat->List Bool->List Bool
 | 0,out=>out
 | n+1,out=>if auP nx f out out.length=out then out else auN nx f n (auP nx f out out.length)
def allUntilR(nx:List (List Int))(f g:List Bool):List Bool:=auN nx f (g.count false+1) g
theorem auP_succ(nx:List (List Int))(f out:List Bool)(i:Nat):auP nx f out (i+1)=auS nx f (auP nx f out i) i:=by simp[auP,List.range_succ]
theorem auS_len(nx:List (List Int))(f out:List Bool)(i:Nat):(auS nx f out i).length=out.length:=by unfold auS;split<;>simp
theorem auP_len(nx:List (List Int))(f out:List Bool):∀i,(auP nx f out i).length=out.length
 | 0=>rfl
 | i+1=>by rw[auP_succ,auS_len,auP_len nx f out i]
theorem auS_count(nx:List (List Int))(f out:List Bool){i:Nat}(h:i<out.length):(auS nx f out i=out)∨(auS nx f out i).count false+1=out.count false:=by
 unfold auS;split
 .exact .inl rfl
 .rename_i hc;refine .inr (count_set h ?_);have:¬out.getD i false=true:=fun e=>hc (.inl e)
  simpa[h] using this
def atomR(a:List (ByteArray × List Bool))(s:ByteArray):List Bool:=match a.find? fun e=>decide (e.1=s) with
 | some e=>e.2
 | none=>[]
def zipB(k:Int)(a b:List Bool):List Bool:=List.zipWith (fun x y=>if k=3 then x&&y else x||y) a b
mutual
def Fo.holds(m:Mdl):Fo->List Bool
 | .mk k s c=>if k=1 then atomR m.atoms s else
  let l:=Fo.holdsL m c
  let x:=l.headD []
  let y:=l.tail.headD []
  if k=2 then notR x else if k=3∨k=4 then l.tail.foldl (zipB k) x else if k=5 then someR m.next x else if k=9 then notR (someR m.next (notR x))
  else if k=6 then untilR m.prev (allR x.length) x else if k=11 then notR (untilR m.prev (allR x.length) (notR x)) else if k=7 then alwaysR m.next x
  else if k=10 then notR (alwaysR m.next (notR x)) else if k=8 then untilR m.prev x y else allUntilR m.next x y
def Fo.holdsL(m:Mdl):List Fo->List (List Bool)
 | []=>[]
 | x::r=>Fo.holds m x::Fo.holdsL m r
end
abbrev rBo(xs:List Bool):List (List D):=xs.map fun b=>[D.raw (.bool b)]
abbrev bools(xs:List Bool):D:=.sl 1 (rBo xs)
theorem rep_rBo(n:Nat):List.replicate n [AV.d (.raw (.bool false))]=rowsB (List.replicate n false):=by simp[rowsB]
set_option maxRecDepth 100000 in
theorem cloneB_c(xs:List Bool)(hx:xs≠[])(hl:xs.length<=1000000)(tok:Tks)(nt:Nat):DCall prog 91 [.d (bools xs)] tok nt (.stk (nt+1) 1 (rBo xs)) (upd (upd (upd tok nt true) nt false) (nt+1) true) (nt+2):=by
 intro box nb;refine sI func91 ntmps91 fun Hb Ht=>?_
 refine sR ?_;simp;refine sR ?_;simp;refine⟨?_,fun h=>absurd h hx⟩;refine sC ?_;simp;refine sN ?_;refine AL.seg ?_;refine Seg.pre 1 (by decide) (by decide) (nr _) (by kernel_rfl) (by kernel_rfl) (by kernel_rfl) rfl rfl ?_;simp;refine Seg.opn 1 (l':=[(5,.stk nt 1 []),(4,.bot),(3,.d (bools xs)),(2,.bot),(0,.d (bools xs))]) (loc':=[]) (by simp[CvL]) trivial ?_;refine Seg.fin (nr _) (by kernel_rfl) (by kernel_rfl) rfl ?_;simp;refine⟨⟨by omega,uS _ _ _⟩,?_⟩;repeat first|simp|refine sR ?_
 refine sT ?_;try simp only[AU]
 exact⟨by simp,(Fin.own (av:=.stk (nt+1) 1 (rBo xs)) (by simp[resAs,resA];rfl) Hb rfl (by omega) (by simp)).mono fun v m hq=>⟨hq.1,hq.2⟩⟩
def ntP(l:List Bool)(i:Nat):List Bool:=(notR l).take i++List.replicate (l.length-i) false
theorem ntP_zero(l:List Bool):ntP l 0=List.replicate l.length false:=by simp[ntP]
theorem ntP_all(l:List Bool):ntP l l.length=notR l:=by simp[ntP];exact List.take_of_length_le (by simp)
theorem ntP_len{l:List Bool}{i:Nat}(h:i<=l.length):(ntP l i).length=l.length:=by simp[ntP];omega
theorem take_set{α:Type}{l:List α}{i n:Nat}{d x:α}(h:i<l.length)(hn:n=l.length)(hx:l[i]=x):(l.take i++List.replicate (n-i) d).set i x=l.take (i+1)++List.replicate (n-(i+1)) d:=by
 subst hn;have hl:(l.take i).length=i:=by simp;omega
 rw[List.set_append_right _ _ (by omega),hl,Nat.sub_self,show l.length-i=(l.length-(i+1))+1 by omega,List.replicate_succ,List.set_cons_zero,List.take_succ_eq_append_getElem h,hx];simp
theorem ntP_set{l:List Bool}{i:Nat}(h:i<l.length):(ntP l i).set i (!l[i])=ntP l (i+1):=take_set (by simpa using h) (by simp) (by simp[notR])
def stNtT(l:List Bool)(nb:Nat)(box:Bxs)(tok:Tks)(nt:Nat)(i:Nat):AS :=
 ⟨tl [(11,I i),(10,I l.length),(9,.d (bools l)),(3,.msl (nb+8) 0 l.length 1)],lb nb box [(8,rowsB (ntP l i))],tok,nt⟩
set_option maxRecDepth 100000 in
theorem notT_c(l:List Bool)(hl:l.length<=1000000):DC 157 [.d (bools l)] (.d (bools (notR l))):=by
 intro tok nt box nb;refine sI func157 ntmps157 fun Hb Ht=>?_
 repeat first|simp|refine sR ?_
 refine⟨by omega,?_⟩;repeat first|simp[rep_rBo]|refine sR ?_
 refine sN ?_;refine sL (stNtT l nb box tok nt) (fun i=>i<=l.length) (fun i=>l.length-i) 0 (Nat.zero_le _) (wM (nr _) rfl (by simp[ToL,lk]) (by simp[BoxL,lk,ntP_zero])) ?_;rintro i S hi hS;simp only[stNtT] at hS;subst hS;have hw:=sW (i:=i) (by omega);repeat first|simp|refine sR ?_|refine sC ?_
 refine⟨fun hlt=>?_,fun hge=>?_⟩
 .have hset:=ntP_set hlt;have hpl:=ntP_len hi;repeat first|simp[hlt,hpl]|refine sR ?_
  repeat first|simp[hlt,hpl,hset,hw]|refine sR ?_
  refine sE ?_;exact⟨i+1,hlt,by omega,wkA⟩
 .refine sX ?_;simp only[AU,↓reduceIte];have:i=l.length:=by omega
  subst this;rw[ntP_all];obtain⟨R,hR⟩:∃R,notR l=R:=⟨_,rfl⟩
  have hRl:l.length=R.length:=by rw[<-hR];simp
  rw[hR,hRl];refine AL.weak (Weaks.frz (l':=[(3,.d (bools R))]) (loc':=[]) 8 1 (rBo R) (nr _) rfl (by simp[lk,rowsB_eq]) (by simp[lk]) (fun e he=>by obtain⟨b,_,rfl⟩:=List.mem_map.1 he;rfl) (by simp[ToL]) (by simp[BoxL])) ?_;repeat first|simp|refine sR ?_
  refine sT (sH Hb Ht ?_);simp
def stNtM(l:List Bool)(k nb:Nat)(box:Bxs)(tok:Tks)(nt:Nat)(i:Nat):AS :=
 ⟨tl [(11,I i),(10,I l.length),(9,.msl k 0 l.length 1),(3,.msl (nb+8) 0 l.length 1)],lb nb box [(8,rowsB (ntP l i))],tok,nt⟩
set_option maxRecDepth 100000 in
theorem notTm_c(l:List Bool)(hl:l.length<=1000000)(box0:Bxs)(k:Nat)(hk0:box0 k=some (rowsB l))(tok:Tks)(nt:Nat):RCall prog 157 [.msl k 0 l.length 1] box0 tok nt (.d (bools (notR l))) tok nt:=by
 intro box nb he;have hk:=he _ _ hk0;refine sI func157 ntmps157 fun Hb Ht=>?_
 have hkn:=key_lt Hb hk;repeat first|simp|refine sR ?_
 refine⟨by omega,?_⟩;repeat first|simp[rep_rBo]|refine sR ?_
 refine sN ?_;refine sL (stNtM l k nb box tok nt) (fun i=>i<=l.length) (fun i=>l.length-i) 0 (Nat.zero_le _) (wM (nr _) rfl (by simp[ToL,lk];exact .same (.msl (by rw[lO hkn,hk];simp))) (by simp[BoxL,lk,ntP_zero])) ?_;rintro i S hi hS;simp only[stNtM] at hS;subst hS;have hw:=sW (i:=i) (by omega);repeat first|simp|refine sR ?_|refine sC ?_
 refine⟨fun hlt=>?_,fun hge=>?_⟩
 .have hset:=ntP_set hlt;have hpl:=ntP_len hi;repeat first|simp[hlt,hpl,lO hkn,hk]|refine sR ?_
  repeat first|simp[hlt,hpl,hset,hw,lO hkn,hk]|refine sR ?_
  refine sE ?_;exact⟨i+1,hlt,by omega,wM (nr _) rfl (by simp[ToL,lk];exact .same (.msl (by rw[lO hkn,hk];simp))) (by simp[BoxL,lk])⟩
 .refine sX ?_;simp only[AU,↓reduceIte];have:i=l.length:=by omega
  subst this;rw[ntP_all];obtain⟨R,hR⟩:∃R,notR l=R:=⟨_,rfl⟩
  have hRl:l.length=R.length:=by rw[<-hR];simp
  rw[hR,hRl];refine AL.weak (Weaks.frz (l':=[(3,.d (bools R))]) (loc':=[]) 8 1 (rBo R) (nr _) rfl (by simp[lk,rowsB_eq]) (by simp[lk]) (fun e he=>by obtain⟨b,_,rfl⟩:=List.mem_map.1 he;rfl) (by simp[ToL]) (by simp[BoxL])) ?_;repeat first|simp|refine sR ?_
  refine sT (sH Hb Ht ?_);simp
abbrev lls(l:List (List Int)):D:=.sl 1 (l.map fun r=>[ints r])
abbrev Mdl.row(m:Mdl):List AV:=[.d (lls m.next),.d (lls m.prev),.mpd (m.atoms.map fun a=>(a.1,rBo a.2))]
abbrev Mdl.av(m:Mdl):AV:=.agg m.row
def smP(nx:List (List Int))(l:List Bool)(i:Nat):List Bool:=(someR nx l).take i++List.replicate (nx.length-i) false
theorem smP_zero(nx:List (List Int))(l:List Bool):smP nx l 0=List.replicate nx.length false:=by simp[smP]
theorem smP_all(nx:List (List Int))(l:List Bool):smP nx l nx.length=someR nx l:=by simp[smP];exact List.take_of_length_le (by simp)
theorem smP_len{nx:List (List Int)}{l:List Bool}{i:Nat}(h:i<=nx.length):(smP nx l i).length=nx.length:=by simp[smP];omega
def anyTo(l:List Bool)(r:List Int)(j:Nat):Bool:=(r.take j).any fun k=>l.getD k.toNat false
def smJ(nx:List (List Int))(l:List Bool)(i:Nat)(r:List Int)(j:Nat):List Bool:=(smP nx l i).set i (anyTo l r j)
theorem smJ_zero{nx:List (List Int)}{l:List Bool}{i:Nat}(r:List Int)(h:i<nx.length):smJ nx l i r 0=smP nx l i:=by
 unfold smJ anyTo smP;have hl:((someR nx l).take i).length=i:=by simp;omega
 rw[List.set_append_right _ _ (by omega),hl,Nat.sub_self,show nx.length-i=(nx.length-(i+1))+1 by omega,List.replicate_succ,List.set_cons_zero];simp
theorem smJ_all{nx:List (List Int)}{l:List Bool}{i:Nat}(h:i<nx.length):smJ nx l i nx[i] nx[i].length=smP nx l (i+1):=by
 unfold smJ anyTo smP;rw[List.take_length];exact take_set (by simpa using h) (by simp) (by simp[someR])
theorem smJ_at{nx:List (List Int)}{l:List Bool}{i:Nat}{r:List Int}{j:Nat}(h:i<nx.length):∀(h2:i<(smJ nx l i r j).length),(smJ nx l i r j)[i]=anyTo l r j:=fun h2=>by simp[smJ]
theorem smJ_len{nx:List (List Int)}{l:List Bool}{i:Nat}{r:List Int}{j:Nat}(h:i<=nx.length):(smJ nx l i r j).length=nx.length:=by simp[smJ,smP_len h]
theorem smJ_set{nx:List (List Int)}{l:List Bool}{i:Nat}{r:List Int}{j:Nat}(hj:j<r.length)(h:r[j].toNat<l.length):(smJ nx l i r j).set i (anyTo l r j||l[r[j].toNat])=smJ nx l i r (j+1):=by
 have:anyTo l r (j+1)=(anyTo l r j||l[r[j].toNat]):=by
  unfold anyTo;rw[List.take_succ_eq_append_getElem hj,List.any_append];simp[h]
 unfold smJ;rw[List.set_set,this]
def stSm(m:Mdl)(l:List Bool)(nb:Nat)(box:Bxs)(tok:Tks)(nt:Nat)(i:Nat):AS :=
 ⟨tl [(16,I i),(15,I m.next.length),(14,.d (lls m.next)),(5,.msl (nb+12) 0 l.length 1),(1,.d (bools l)),(2,.ptr (nb+2) 0 0)],lb nb box [(12,rowsB (smP m.next l i)),(2,[m.row])],tok,nt⟩
def stSmJ(m:Mdl)(l:List Bool)(i:Nat)(r:List Int)(nb:Nat)(box:Bxs)(tok:Tks)(nt:Nat)(j:Nat):AS :=
 ⟨tl [(23,I j),(22,I r.length),(21,.d (ints r)),(6,I i),(16,I i),(15,I m.next.length),(14,.d (lls m.next)),(5,.msl (nb+12) 0 l.length 1),(1,.d (bools l)),(2,.ptr (nb+2) 0 0)],lb nb box [(12,rowsB (smJ m.next l i r j)),(2,[m.row])],tok,nt⟩
set_option maxRecDepth 100000 in
theorem someT_c(m:Mdl)(l:List Bool)(hm:m.Ok l.length):DC 158 [m.av,.d (bools l)] (.d (bools (someR m.next l))):=by
 intro tok nt box nb;have hle:=hm.le;have hnl:=hm.next;refine sI func158 ntmps158 fun Hb Ht=>?_
 repeat first|simp|refine sR ?_
 refine⟨by omega,?_⟩;repeat first|simp[rep_rBo]|refine sR ?_
 refine sN ?_;refine sL (stSm m l nb box tok nt) (fun i=>i<=m.next.length) (fun i=>m.next.length-i) 0 (Nat.zero_le _) (wM (nr _) rfl (by simp[ToL,lk]) (by simp[BoxL,lk,smP_zero,hnl])) ?_;rintro i S hi hS;simp only[stSm] at hS;subst hS;have hw:=sW (i:=i) (by omega);repeat first|simp|refine sR ?_|refine sC ?_
 refine⟨fun hlt=>?_,fun hge=>?_⟩
 .obtain⟨r,hr⟩:∃r,m.next[i]=r:=⟨_,rfl⟩
  have hrR:=hm.nextR _ (List.getElem_mem hlt);have hrL:=hm.nextL _ (List.getElem_mem hlt);have hz:=smJ_zero (l:=l) (m.next[i]) hlt;have hall:=smJ_all (l:=l) hlt;rw[hr] at hrR hrL hz hall;repeat first|simp[hlt,hr]|refine sR ?_
  refine sN ?_;refine sL (stSmJ m l i r nb box tok nt) (fun j=>j<=r.length) (fun j=>r.length-j) 0 (Nat.zero_le _) (wM (nr _) rfl (by simp[ToL,lk]) (by simp[BoxL,lk,hz])) ?_;rintro j S hj hS;simp only[stSmJ] at hS;subst hS;have hw2:=sW (i:=j) (by omega);repeat first|simp|refine sR ?_|refine sC ?_
  refine⟨fun hlt2=>?_,fun hge2=>?_⟩
  .obtain⟨hk1,hk2⟩:=hrR _ (List.getElem_mem hlt2);have hk3:r[j].toNat<l.length:=by omega
   have hset:=smJ_set (nx:=m.next) (l:=l) (i:=i) hlt2 hk3;have hjl:=smJ_len (l:=l) (r:=r) (j:=j) hi;have hja:=smJ_at (l:=l) (r:=r) (j:=j) hlt;have hil:i<(smJ m.next l i r j).length:=by omega
   have hja:=hja hil;have hil2:i<l.length:=by omega
   have hk4:r[j]<(l.length:Int):=by omega
   cases e:anyTo l r j
   .rw[e,Bool.false_or] at hset;rw[e] at hja;repeat first|simp[hlt2,hil,hil2,hja,hk1,hk3,hk4,hset,hw2]|refine sR ?_
    refine sE ?_;exact⟨j+1,hlt2,by omega,wkA⟩
   .rw[e,Bool.true_or] at hset;rw[e] at hja;repeat first|simp[hlt2,hil,hil2,hja,hset,hw2]|refine sR ?_
    refine sE ?_;exact⟨j+1,hlt2,by omega,wkA⟩
  .refine sX ?_;simp only[AU,↓reduceIte];have:j=r.length:=by omega
   subst this;rw[hall];repeat first|simp[hw]|refine sR ?_
   refine sE ?_;exact⟨i+1,hlt,by omega,wkA⟩
 .refine sX ?_;simp only[AU,↓reduceIte];have:i=m.next.length:=by omega
  subst this;rw[smP_all];obtain⟨R,hR⟩:∃R,someR m.next l=R:=⟨_,rfl⟩
  have hRl:l.length=R.length:=by rw[<-hR];simp;omega
  rw[hR,hRl];refine AL.weak (Weaks.frz (l':=[(5,.d (bools R))]) (loc':=[]) 12 1 (rBo R) (nr _) rfl (by simp[lk,rowsB_eq]) (by simp[lk]) (fun e he=>by obtain⟨b,_,rfl⟩:=List.mem_map.1 he;rfl) (by simp[ToL,lk,lb_at]) (by simp[BoxL])) ?_;repeat first|simp|refine sR ?_
  refine sT (sH Hb Ht ?_);simp
theorem allT_c(n:Nat)(hl:n<=1000000):DC 160 [I n] (.d (bools (allR n))):=by
 intro tok nt box nb;unfold allR;refine sI func160 ntmps160 fun Hb Ht=>?_
 repeat first|simp[rep_rBo]|refine sR ?_
 refine⟨by omega,?_⟩;have h:=notTm_c (List.replicate n false) (by simpa using hl) (lb nb box [(4,rowsB (List.replicate n false))]) (nb+4) (by simp[lb_at,lk]) tok nt;rw[List.length_replicate] at h;refine Stop.of_r h ?_;repeat first|simp|refine sR ?_
 refine sT (sH Hb Ht ?_);simp
def firstX(f:Nat->Int):Nat->Nat
 | 0=>0
 | n+1=>if firstE f n=0 then n else firstX f n
theorem firstX_stop{f:Nat->Int}{i:Nat}(h0:firstE f i=0)(h:f i≠0):∀n,i<n->firstX f n=i
 | 0,hn=>by omega
 | n+1,hn=>by
  simp only[firstX];by_cases e:i=n
  .subst e;rw[if_pos h0]
  .rw[firstE_stop h0 h n (by omega),if_neg h,firstX_stop h0 h n (by omega)]
structure Hs where
 g:Gr
 vals:List (List Int)
abbrev Hs.av(h:Hs):AV:=.agg [.d (ints h.g.nodes),.d (AM.edges h.g.edges),.d (lls h.vals)]
def hndE(t:Ty)(A:Int->List At)(h:Hs)(i:Nat):Int:=hnodE t (A (h.g.nodes.getD i 0)) (h.g.nodes.getD i 0) (h.vals.getD i [])
def hedE(t:Ty)(h:Hs)(i:Nat):Int:=if (t.edges.length:Int)<=(h.g.edges.getD i default).ty then 6 else if fitB t (h.g.edges.getD i default).ty (h.g.nodes.getD (h.g.edges.getD i default).fr.toNat 0) (h.g.nodes.getD (h.g.edges.getD i default).to.toNat 0)=true then 0 else 13
def hostR(t:Ty)(A:Int->List At)(h:Hs):Int × Int :=
 if tyE t≠0 then (-1,tyE t) else if vG h.g≠0 then (-1,vG h.g) else if h.vals.length≠h.g.nodes.length then (-1,20)
 else if firstE (hndE t A h) h.g.nodes.length≠0 then ((firstX (hndE t A h) h.g.nodes.length:Nat),firstE (hndE t A h) h.g.nodes.length)
 else if firstE (hedE t h) h.g.edges.length≠0 then ((firstX (hedE t h) h.g.edges.length:Nat),firstE (hedE t h) h.g.edges.length) else (-1,0)
def stHvN(t:Ty)(h:Hs)(nb:Nat)(box:Bxs)(tok:Tks)(nt:Nat)(i:Nat):AS :=
 ⟨tl [(38,.d (ints h.g.nodes)),(39,I h.g.nodes.length),(40,I i),(3,.ptr (nb+3) 0 0),(2,.ptr (nb+2) 0 0)],lb nb box [(3,[[.d (ints h.g.nodes),.d (AM.edges h.g.edges),.d (lls h.vals)]]),(2,[[.d (nts t.nodes),.d (ets t.edges)]])],tok,nt⟩
def stHvE(t:Ty)(h:Hs)(nb:Nat)(box:Bxs)(tok:Tks)(nt:Nat)(i:Nat):AS :=
 ⟨tl [(60,.d (AM.edges h.g.edges)),(61,I h.g.edges.length),(62,I i),(3,.ptr (nb+3) 0 0),(2,.ptr (nb+2) 0 0)],lb nb box [(3,[[.d (ints h.g.nodes),.d (AM.edges h.g.edges),.d (lls h.vals)]]),(2,[[.d (nts t.nodes),.d (ets t.edges)]])],tok,nt⟩
set_option maxRecDepth 100000 in
theorem hostValid_c(t:Ty)(ht:t.Fit)(hM:∀i,(t.nd i).own.length<=1000)(A:Int->List At)(hA:∀k,(A k).length<=1000000)(h:Hs)(hg:h.g.Fit)(hv:h.vals.length<=1000000)(tok:Tks)(nt:Nat)(hat:tyE t=0->∀k:Int,0<=k->k<(t.nodes.length:Int)->(t.nd k.toNat).abs=false->DCall prog 265 [t.av,I k] tok nt (.tup [.d (atts (A k)),I 0]) tok nt):
  DCall prog 154 [t.av,h.av] tok nt (.tup [I (hostR t A h).1,I (hostR t A h).2]) tok nt:=by
 intro box nb;obtain⟨Res,hRes⟩:∃Res,hostR t A h=Res:=⟨_,rfl⟩
 rw[hRes];unfold hostR at hRes;have hty:=valid_c4 t ht hM;have hgv:=graphValid_c h.g hg;have hgn:=hg.n;have hge:=hg.e;refine sI func154 ntmps154 fun Hb Ht=>?_
 repeat first|simp|refine sR ?_
 refine sD (hty _ _) ?_;simp;by_cases c1:tyE t=0
 .rw[if_neg (fun e=>e c1)] at hRes;have hat:=hat c1;try (simp[c1])
  repeat ((first|refine sR ?_|refine sC ?_|refine sX ?_);simp[c1])
  refine sD (hgv _ _) ?_;simp;by_cases c2:vG h.g=0
  .rw[if_neg (fun e=>e c2)] at hRes;by_cases c3:h.vals.length=h.g.nodes.length
   .have b3:((h.vals.length:Int) != (h.g.nodes.length:Int))=false:=by simp[c3]
    rw[if_neg (fun e=>e c3)] at hRes;have hn0:∀x∈h.g.nodes,0<=x:=fun x hx=>by
     have:=(validG_types c2).2.1 x hx
     simp[withinB] at this;exact this.1
    have hed:=validG_edges c2;try (simp[c2,b3,c3])
    repeat ((first|refine sR ?_|refine sC ?_|refine sX ?_);simp[c2,b3,c3])
    refine sN ?_;refine sL (stHvN t h nb box tok nt) (fun i=>i<=h.g.nodes.length/\firstE (hndE t A h) i=0) (fun i=>h.g.nodes.length-i) 0 ⟨Nat.zero_le _,rfl⟩ wkA ?_;rintro i S ⟨hi,h0⟩ hS;simp only[stHvN] at hS;subst hS;have hw:=sW (i:=i) (by omega);repeat first|simp|refine sR ?_|refine sC ?_
    refine⟨fun hlt=>?_,fun hge2=>?_⟩
    .have hv1:i<h.vals.length:=by omega
     have hk0:=hn0 _ (List.getElem_mem hlt);have hnc:=hnode_c t (A h.g.nodes[i]) (hA _) h.g.nodes[i] hk0 h.vals[i] tok nt (fun e1 e2=>hat _ hk0 e1 e2);have hne:hndE t A h i=hnodE t (A h.g.nodes[i]) h.g.nodes[i] h.vals[i]:=by simp[hndE,hlt,hv1]
     rw[<-hne] at hnc;try (simp[hlt,hv1])
     repeat ((first|refine sR ?_|refine sC ?_|refine sX ?_);simp[hlt,hv1])
     refine sD (hnc) ?_;simp;by_cases c4:hndE t A h i=0
     .try (simp[c4,hw])
      repeat ((first|refine sR ?_|refine sC ?_|refine sX ?_);simp[c4,hw])
      refine sE ?_;exact⟨i+1,⟨hlt,by simp only[firstE,h0,↓reduceIte];exact c4⟩,by omega,wkA⟩
     .have b4:(hndE t A h i != 0)=true:=by simpa using c4
      have e1:=firstE_stop h0 c4 _ hlt;have e2:=firstX_stop h0 c4 _ hlt;rw[e1,e2,if_pos c4] at hRes;subst hRes;try (simp[c4,b4])
      repeat ((first|refine sR ?_|refine sC ?_|refine sX ?_);simp[c4,b4])
      refine sT (sH Hb Ht ?_);simp
    .refine sX ?_;simp only[AU,↓reduceIte];have:i=h.g.nodes.length:=by omega
     subst this;rw[if_neg (fun e=>e h0)] at hRes;try (simp)
     repeat ((first|refine sR ?_|refine sC ?_|refine sX ?_);simp)
     refine sN ?_;refine sL (stHvE t h nb box tok nt) (fun i=>i<=h.g.edges.length/\firstE (hedE t h) i=0) (fun i=>h.g.edges.length-i) 0 ⟨Nat.zero_le _,rfl⟩ wkA ?_;rintro i S ⟨hi,h0e⟩ hS;simp only[stHvE] at hS;subst hS;have hw:=sW (i:=i) (by omega);repeat first|simp|refine sR ?_|refine sC ?_
     refine⟨fun hlt=>?_,fun hge2=>?_⟩
     .obtain⟨e1,e2,e3,e4⟩:=hed _ (List.getElem_mem hlt);have hde:hedE t h i=if (t.edges.length:Int)<=h.g.edges[i].ty then 6 else if fitB t h.g.edges[i].ty (h.g.nodes.getD h.g.edges[i].fr.toNat 0) (h.g.nodes.getD h.g.edges[i].to.toNat 0)=true then 0 else 13:=by simp[hedE,hlt]
      repeat first|simp[hlt]|refine sR ?_
      generalize h.g.edges[i]=x at *;have f1:x.fr.toNat<h.g.nodes.length:=by omega
      have f2:x.to.toNat<h.g.nodes.length:=by omega
      rw[show h.g.nodes.getD x.fr.toNat 0=h.g.nodes[x.fr.toNat] by simp[f1],show h.g.nodes.getD x.to.toNat 0=h.g.nodes[x.to.toNat] by simp[f2]] at hde;have hfc:=fits_c4 t ht x.ty h.g.nodes[x.fr.toNat] h.g.nodes[x.to.toNat];by_cases c5:(t.edges.length:Int)<=x.ty
      .have b5:decide ((t.edges.length:Int)<=x.ty)=true:=by simpa using c5
       rw[if_pos c5] at hde;have g1:=firstE_stop h0e (by rw[hde];decide) _ hlt;have g2:=firstX_stop h0e (by rw[hde];decide) _ hlt;rw[g1,g2,hde] at hRes;rw[if_pos (by decide)] at hRes;subst hRes;try (simp[c5,b5])
       repeat ((first|refine sR ?_|refine sC ?_|refine sX ?_);simp[c5,b5])
       refine sT (sH Hb Ht ?_);simp
      .have b5:decide ((t.edges.length:Int)<=x.ty)=false:=by simpa using c5
       rw[if_neg c5] at hde;try (simp[c5,b5,e1,e2,e3,e4,f1,f2])
       repeat ((first|refine sR ?_|refine sC ?_|refine sX ?_);simp[c5,b5,e1,e2,e3,e4,f1,f2])
       refine sD (hfc _ _) ?_;simp;cases e6:fitB t x.ty h.g.nodes[x.fr.toNat] h.g.nodes[x.to.toNat]
       .rw[e6] at hde;simp only[Bool.false_eq_true,↓reduceIte] at hde;have g1:=firstE_stop h0e (by rw[hde];decide) _ hlt;have g2:=firstX_stop h0e (by rw[hde];decide) _ hlt;rw[g1,g2,hde] at hRes;rw[if_pos (by decide)] at hRes;subst hRes;try (simp[e6])
        repeat ((first|refine sR ?_|refine sC ?_|refine sX ?_);simp[e6])
        refine sT (sH Hb Ht ?_);simp
       .rw[e6,if_pos rfl] at hde;try (simp[e6,hw])
        repeat ((first|refine sR ?_|refine sC ?_|refine sX ?_);simp[e6,hw])
        refine sE ?_;exact⟨i+1,⟨hlt,by simp only[firstE,h0e,↓reduceIte];exact hde⟩,by omega,wkA⟩
     .refine sX ?_;simp only[AU,↓reduceIte];have:i=h.g.edges.length:=by omega
      subst this;rw[if_neg (fun e=>e h0e)] at hRes;subst hRes;try (simp)
      repeat ((first|refine sR ?_|refine sC ?_|refine sX ?_);simp)
      refine sT (sH Hb Ht ?_);simp
   .have b3:((h.vals.length:Int) != (h.g.nodes.length:Int))=true:=by simpa using fun e=>c3 (by omega)
    rw[if_pos c3] at hRes;subst hRes;try (simp[c2,b3,c3])
    repeat ((first|refine sR ?_|refine sC ?_|refine sX ?_);simp[c2,b3,c3])
    refine sT (sH Hb Ht ?_);simp
  .have b2:(vG h.g != 0)=true:=by simpa using c2
   rw[if_pos c2] at hRes;subst hRes;try (simp[b2,c2])
   repeat ((first|refine sR ?_|refine sC ?_|refine sX ?_);simp[b2,c2])
   refine sT (sH Hb Ht ?_);simp
 .have b1:(tyE t != 0)=true:=by simpa using c1
  rw[if_pos c1] at hRes;subst hRes;try (simp[b1,c1])
  repeat ((first|refine sR ?_|refine sC ?_|refine sX ?_);simp[b1,c1])
  refine sT (sH Hb Ht ?_);simp
theorem cvB_refl0{R:AV->AV->Prop}(h:∀x,R x x):∀l:List (Nat × List (List AV)),CvB R l l
 | []=>trivial
 | (i,x)::l=>⟨rfl,⟨rfl,fun i h1 h2=>⟨rfl,fun j g1 g2=>h _⟩⟩,cvB_refl0 h l⟩
theorem attrsK_c(t:Ty)(ht:t.Fit)(hM:∀i,(t.nd i).own.length<=1000):∀(n i:Nat),i<n->i<t.nodes.length->(∀j,j<=i->(t.nd j).par<j)->∀(tok:Tks) (nt:Nat),∃tok' nt' u,((∀q,tok q=true->q<nt)->TK tok nt tok' nt' [.tok u]) /\
  DCall prog 212 [t.av,I i] tok nt (.stk u 4 ((atsL t i).map At.cells)) tok' nt'
 | 0,i,hi,_,_,_,_=>absurd hi (Nat.not_lt_zero _)
 | n+1,i,hi,hlt,hp,tok,nt=>by
  have hnd:=nd_at hlt;by_cases h0:0<=(t.nd i).par
  .have hpi:=hp i (nr _);obtain⟨tok1,nt1,o1,hk,hc⟩:=attrsK_c t ht hM n (t.nd i).par.toNat (by omega) (by omega) (fun j hj=>hp j (by omega)) tok nt;have hL:=atsL_up h0 (by omega);have hl1:=atsL_len hM (i+1) (t.nd i).par.toNat (by omega);have hl2:=hM i;have hb:((t.nd i).par.toNat+1)*1000<=1000*1000:=Nat.mul_le_mul_right _ (by have:=ht.n;omega)
   refine⟨_,_,nt1,fun h=>(hk h).app,?_⟩;rw[hL];rw[Int.toNat_of_nonneg h0] at hc;generalize atsL t (t.nd i).par.toNat=Q at *;rw[hnd] at h0 hc hl2 ⊢;intro box nb;have hc:=hc;refine sI func212 ntmps212 fun Hb Ht=>?_
   have hkk:=hk Ht;repeat first|simp[hlt]|refine sR ?_
   refine sC ?_;simp[h0];repeat first|simp|refine sR ?_
   refine sD (hc) ?_;simp;repeat first|simp[hlt]|refine sR ?_
   refine⟨⟨by omega,hkk.live⟩,?_⟩;refine sT ?_;try simp only[AU]
   exact⟨by simp,(Fin.own (av:=.stk nt1 4 (Q.map At.cells++t.nodes[i].own.map At.cells)) (by simp[resAs,resA];rfl) Hb rfl hkk.app.le (by simp)).mono fun v m hq=>⟨by first|(rw[hq.1,List.map_append])|(rw[hq.1];done)|(rw[hq.1];simp),hq.2⟩⟩
  .have hL:=atsL_top h0;have hl2:=hM i;refine⟨_,_,nt+1,fun h=>(((TK.start h).full.app).app:TK _ _ _ _ _),?_⟩;rw[hL];rw[hnd] at h0 hl2 ⊢;intro box nb;refine sI func212 ntmps212 fun Hb Ht=>?_
   have hkk:TK tok nt (upd tok nt true) (nt+1) [.tok nt]:=(TK.start Ht).full.app
   repeat first|simp[hlt]|refine sR ?_
   refine sC ?_;simp[h0];refine AL.trans (Trans.opn (l':=[(14,.bot),(13,.bot),(6,.bot),(12,.bot),(11,.bot),(10,.bot),(9,.bot),(8,.bot),(7,.bot),(5,.stk nt 4 []),(4,.bot),(2,.ptr (nb+2) 0 0),(0,.bot),(1,I i)]) (loc':=[(2,[[.d (nts t.nodes),.d (ets t.edges)]])]) 4 (by simp[CvL]) (cvB_refl0 (fun _=>.same) _)) ?_;repeat first|simp[hlt]|refine sR ?_
   refine⟨⟨by omega,hkk.live⟩,?_⟩;refine sT ?_;try simp only[AU]
   exact⟨by simp,(Fin.own (av:=.stk (nt+1) 4 (t.nodes[i].own.map At.cells)) (by simp[resAs,resA];rfl) Hb rfl (by omega) (by simp)).mono fun v m hq=>⟨by rw[hq.1],hq.2⟩⟩
end Go.AM
