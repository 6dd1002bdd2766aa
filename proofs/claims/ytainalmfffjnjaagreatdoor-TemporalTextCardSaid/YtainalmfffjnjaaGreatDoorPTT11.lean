/-
 Parts of the proof, as merged from many texts: a machine over data, what the functions compute, plain laws.
-/
import Derived.Test.YtainalmfffjnjaaGreatDoorPTT10
import Derived.Lib.Fields
set_option linter.unusedSimpArgs false
set_option linter.unusedVariables false
namespace Go.AM
open Go Go.Proofs Go.Shelf
open Go.Proofs.Tryz
def pfxT(k:Int):ByteArray:=if k=2 then sNot else if k=5 then sEX else if k=6 then sEF else if k=7 then sEG else if k=9 then sAX else if k=10 then sAF else sAG
def blkB:ByteArray:=⟨#[32]⟩
def jnB(sep:ByteArray):List ByteArray->ByteArray
 | []=>⟨#[]⟩
 | [x]=>x
 | x::y::r=>x++(sep++jnB sep (y::r))
def tLp:ByteArray:=⟨#[40,32]⟩
def tRp:ByteArray:=⟨#[32,41]⟩
def tAm:ByteArray:=⟨#[32,38,32]⟩
def tBr:ByteArray:=⟨#[32,124,32]⟩
def tU:ByteArray:=⟨#[32,85,32]⟩
def tE:ByteArray:=⟨#[69,32]⟩
def tA:ByteArray:=⟨#[65,32]⟩
def txtK(k:Int)(n:ByteArray)(l:List ByteArray):ByteArray :=
 if k=1 then n else if k=3 then tLp++(jnB tAm l++tRp) else if k=4 then tLp++(jnB tBr l++tRp)
 else if k=8 then tE++(tLp++(jnB tU l++tRp)) else if k=12 then tA++(tLp++(jnB tU l++tRp)) else pfxT k++(blkB++l.getD 0 ⟨#[]⟩)
mutual
def Fo.txt:Fo->ByteArray
 | .mk k n c=>txtK k n (Fo.txts c)
def Fo.txts:List Fo->List ByteArray
 | []=>[]
 | x::r=>Fo.txt x::Fo.txts r
end
theorem Fo.txts_map:∀l:List Fo,Fo.txts l=l.map Fo.txt
 | []=>by rw[Fo.txts];rfl
 | x::r=>by rw[Fo.txts,Fo.txts_map r];rfl
theorem Fo.txt_eq(f:Fo):f.txt=txtK f.kind f.name (f.kids.map Fo.txt):=by
 cases f;rw[Fo.txt,Fo.txts_map];rfl
def wLp:Wk:=(4,sLp)
def wRp:Wk:=(4,sRp)
def jnW(sep:Wk):List (List Wk)->List Wk
 | []=>[]
 | [x]=>x
 | x::y::r=>x++(sep::jnW sep (y::r))
def wdsK(k:Int)(n:ByteArray)(l:List (List Wk)):List Wk :=
 if k=1 then [(1,n)] else if k=3 then wLp::(jnW (4,sAm) l++[wRp]) else if k=4 then wLp::(jnW (4,sBr) l++[wRp])
 else if k=8 then (1,wE)::wLp::(jnW (1,wU) l++[wRp]) else if k=12 then (1,wA)::wLp::(jnW (1,wU) l++[wRp]) else (1,pfxT k)::l.getD 0 []
mutual
def Fo.wds:Fo->List Wk
 | .mk k n c=>wdsK k n (Fo.wdsL c)
def Fo.wdsL:List Fo->List (List Wk)
 | []=>[]
 | x::r=>Fo.wds x::Fo.wdsL r
end
theorem Fo.wdsL_map:∀l:List Fo,Fo.wdsL l=l.map Fo.wds
 | []=>by rw[Fo.wdsL];rfl
 | x::r=>by rw[Fo.wdsL,Fo.wdsL_map r];rfl
theorem Fo.wds_eq(f:Fo):f.wds=wdsK f.kind f.name (f.kids.map Fo.wds):=by
 cases f;rw[Fo.wds,Fo.wdsL_map];rfl
def tlW(sg:Wk):List Fo->List Wk
 | []=>[]
 | x::r=>sg::(x.wds++tlW sg r)
theorem jnW_tl(sg:Wk):∀(r:List Fo) (x:Fo),jnW sg ((x::r).map Fo.wds)=x.wds++tlW sg r
 | [],x=>by simp[jnW,tlW]
 | y::r,x=>by
  have:=jnW_tl sg r y
  rw[List.map_cons] at this;rw[List.map_cons,List.map_cons,jnW,this,tlW]
inductive Fo.Wf:Fo->Prop
 | mk {f:Fo} (ha:arB f.kind f.kids.length=true) (hn:f.kind≠1->f.name=⟨#[]⟩) (ht:f.kind=1->fatB f.name=true) (h:∀x∈f.kids,Fo.Wf x):Fo.Wf f
theorem formL_all:∀{l:List Fo},Fo.formL l=0->∀x∈l,x.formE=0
 | [],_,x,hx=>by simp at hx
 | y::r,h,x,hx=>by
  rw[Fo.formL] at h;split at h
  .rename_i h1;exact absurd h h1
  .rename_i h1;rcases List.mem_cons.1 hx with rfl|hx
   .exact Decidable.not_not.1 h1
   .exact formL_all h x hx
theorem form_wf:∀(n:Nat) (f:Fo),f.size<n->f.formE=0->f.Wf
 | 0,f,h,_=>absurd h (Nat.not_lt_zero _)
 | n+1,f,h,he=>by
  rw[Fo.formE_eq] at he;split at he
  .cases he
  .rename_i h1;split at he
   .cases he
   .rename_i h2;simp only[badF,Bool.or_eq_true,Bool.not_eq_true',Bool.and_eq_true,decide_eq_true_eq,not_or,not_and] at h1;refine .mk (by simpa using h1.1) (fun hk=>?_) (fun hk=>?_) fun x hx=>form_wf n x (by have:=Fo.sizeL_mem hx;rw[f.size_eq] at h;omega) (formL_all he x hx)
    .exact Decidable.by_contra fun hne=>h1.2 hne hk
    .cases hx:fatB f.name with
     | true=>rfl
     | false=>exact absurd ⟨hk,hx⟩ h2
theorem Fo.Wf.ar{f:Fo}(h:f.Wf):arB f.kind f.kids.length=true:=by cases h;assumption
theorem Fo.Wf.nm{f:Fo}(h:f.Wf):f.kind≠1->f.name=⟨#[]⟩:=by cases h;assumption
theorem Fo.Wf.fat{f:Fo}(h:f.Wf):f.kind=1->fatB f.name=true:=by cases h;assumption
theorem Fo.Wf.kid{f:Fo}(h:f.Wf):∀x∈f.kids,Fo.Wf x:=by cases h;assumption
theorem Fo.Wf.forms{f:Fo}(h:f.Wf):(∃n,f=.mk 1 n []/\fatB n=true)∨(∃k a b r,(k=3∨k=4)/\f=.mk k ⟨#[]⟩ (a::b::r))∨(∃k a b,(k=8∨k=12)/\f=.mk k ⟨#[]⟩ [a,b])∨(∃k a,(k=2∨k=5∨k=6∨k=7∨k=9∨k=10∨k=11)/\f=.mk k ⟨#[]⟩ [a]):=by
 have h1:=h.ar;have h2:=h.nm;have h3:=h.fat;obtain⟨k,n,c⟩:=f;simp only[Fo.kind,Fo.name,Fo.kids] at h1 h2 h3;clear h;unfold arB at h1;split at h1
 .rename_i e;subst e;refine .inl ⟨n,?_,h3 rfl⟩;rw[List.length_eq_zero_iff.1 (of_decide_eq_true h1)]
 .rename_i e1;rw[h2 e1];split at h1
  .rename_i e
   match c,of_decide_eq_true h1 with
   | a::b::r,_=>exact .inr (.inl ⟨k,a,b,r,e,rfl⟩)
  .rename_i e3;split at h1
   .rename_i e
    match c,of_decide_eq_true h1 with
    | [a,b],_=>exact .inr (.inr (.inl ⟨k,a,b,e,rfl⟩))
   .rename_i e8;have h4:=of_decide_eq_true h1
    match c,h4.2.2 with
    | [a],_=>exact .inr (.inr (.inr ⟨k,a,by omega,rfl⟩))
theorem wd_sgn:∀s∈[sLp,sRp,sAm,sBr],wdB (4,s)=true:=by decide
theorem wd_kw:∀s∈[sNot,sEX,sEF,sEG,sAX,sAF,sAG,wE,wA,wU],wdB (1,s)=true:=by decide
theorem wd_name{s:ByteArray}(h:fatB s=true):wdB (1,s)=true:=by
 unfold fatB at h;simp only[Bool.and_eq_true] at h;simp[wdB,h.1]
theorem put_jn{q:Bool}{k:Int}{s sep:ByteArray}(hs:wdB (k,s)=true)(he:sep=blkB++(s++blkB)):∀(r:List Fo) (x:Fo),(∀y∈x::r,PutW q y.txt y.wds)->PutW q (jnB sep ((x::r).map Fo.txt)) (jnW (k,s) ((x::r).map Fo.wds))
 | [],x,h=>h x (by simp)
 | y::r,x,h=>by
  have ih:=put_jn hs he r y fun z hz=>h z (by simp[hz])
  have h1:=(h x (by simp)).sp ((putW_word hs).sp ih);have e:jnB sep ((x::y::r).map Fo.txt)=x.txt++(⟨#[32]⟩++(s++(⟨#[32]⟩++jnB sep ((y::r).map Fo.txt)))):=by
   rw[List.map_cons,List.map_cons,jnB,he,ByteArray.append_assoc,ByteArray.append_assoc];rfl
  rw[e];exact h1
theorem put_par{q:Bool}{t:ByteArray}{a:List Wk}(h:PutW q t a):PutW q (tLp++(t++tRp)) (wLp::(a++[wRp])):=by
 have h1:=(putW_word (wd_sgn sLp (by simp))).sp (h.sp (putW_word (wd_sgn sRp (by simp))));have e:tLp++(t++tRp)=sLp++(⟨#[32]⟩++(t++(⟨#[32]⟩++sRp))):=by
  rw[show tLp=sLp++⟨#[32]⟩ by decide,show tRp=⟨#[32]⟩++sRp by decide,ByteArray.append_assoc]
 rw[e];exact h1
theorem pfx_mem{k:Int}(h:k=2∨k=5∨k=6∨k=7∨k=9∨k=10∨k=11):wdB (1,pfxT k)=true/\pfxK (pfxT k)=some k:=by
 rcases h with rfl|rfl|rfl|rfl|rfl|rfl|rfl<;>decide
theorem put_txt(q:Bool):∀(n:Nat) (f:Fo),f.size<n->f.Wf->PutW q f.txt f.wds
 | 0,f,h,_=>absurd h (Nat.not_lt_zero _)
 | n+1,f,hz,hf=>by
  have ih:=fun x (hx:x∈f.kids)=>put_txt q n x (by have:=Fo.sizeL_mem hx;rw[f.size_eq] at hz;omega) (hf.kid x hx)
  rw[f.txt_eq,f.wds_eq];rcases hf.forms with ⟨s,rfl,hs⟩|⟨k,a,b,r,hk,rfl⟩|⟨k,a,b,hk,rfl⟩|⟨k,a,hk,rfl⟩
  .exact putW_word (wd_name hs)
  .simp only[Fo.kind,Fo.name,Fo.kids] at ih ⊢;rcases hk with rfl|rfl
   .exact put_par (put_jn (wd_sgn sAm (by simp)) (by decide) (b::r) a ih)
   .exact put_par (put_jn (wd_sgn sBr (by simp)) (by decide) (b::r) a ih)
  .simp only[Fo.kind,Fo.name,Fo.kids] at ih ⊢;have h1:=put_par (put_jn (wd_kw wU (by simp)) (show tU=_ by decide) [b] a ih);rcases hk with rfl|rfl
   .have h2:=(putW_word (wd_kw wE (by simp))).sp h1;rw[<-ByteArray.append_assoc] at h2;exact h2
   .have h2:=(putW_word (wd_kw wA (by simp))).sp h1;rw[<-ByteArray.append_assoc] at h2;exact h2
  .have h1:=(putW_word (pfx_mem hk).1).sp (ih a (by simp[Fo.kids]));simp only[Fo.kind,Fo.name,Fo.kids];have e1:txtK k ⟨#[]⟩ ([a].map Fo.txt)=pfxT k++(⟨#[32]⟩++a.txt):=by
    unfold txtK;rw[if_neg (by omega),if_neg (by omega),if_neg (by omega),if_neg (by omega),if_neg (by omega)];rfl
   have e2:wdsK k ⟨#[]⟩ ([a].map Fo.wds)=[(1,pfxT k)]++a.wds:=by
    unfold wdsK;rw[if_neg (by omega),if_neg (by omega),if_neg (by omega),if_neg (by omega),if_neg (by omega)];rfl
   rw[e1,e2];exact h1
theorem PutW.all{q:Bool}{x:ByteArray}{a:List Wk}(h:PutW q x a):Lay q x.data.toList a:=by
 have:=h [] [] whL_nil .nil
 rwa [List.append_nil,List.append_nil] at this
def AtW(L:List Tk)(i:Nat)(W:List Wk):Prop:=(L.map Tk.kt).drop i=W
theorem AtW.cons{L:List Tk}{i:Nat}{w:Wk}{W:List Wk}(h:AtW L i (w::W)):AtW L (i+1) W/\∃hi:i<L.length,L[i].kt=w:=by
 unfold AtW at *;have hl:i<L.length:=by
  rcases Nat.lt_or_ge i L.length with h1|h1
  .exact h1
  .rw[List.drop_eq_nil_of_le (by rw[List.length_map];exact h1)] at h;cases h
 have h2:=List.drop_eq_getElem_cons (l:=L.map Tk.kt) (i:=i) (by rw[List.length_map];exact hl);rw[h2] at h;injection h with h3 h4
 exact⟨h4,hl,by rw[<-h3,List.getElem_map]⟩
theorem AtW.app{L:List Tk}{i:Nat}{A W:List Wk}(h:AtW L i (A++W)):AtW L (i+A.length) W:=by
 unfold AtW at *;rw[<-List.drop_drop,h,List.drop_left]
theorem AtW.len{L:List Tk}{i:Nat}{W:List Wk}(h:AtW L i W):W.length=L.length-i:=by
 unfold AtW at h;rw[<-h,List.length_drop,List.length_map]
theorem AtW.peek{L:List Tk}{i:Nat}{w:Wk}{W:List Wk}(h:AtW L i (w::W))(hk:w.1=1∨w.1=4)(s:ByteArray):peekB L ⟨i, -1⟩ s=decide (w.2=s):=by
 obtain⟨_,hi,he⟩:=h.cons;have e1:L[i].kind=w.1:=congrArg Prod.fst he
 have e2:L[i].text=w.2:=congrArg Prod.snd he
 have:(decide (w.1=1)||decide (w.1=4))=true:=by simpa using hk
 simp only[peekB,isAt_some hi,e1,e2,this,Bool.and_true];simp
theorem AtW.take{L:List Tk}{i:Nat}{w:Wk}{W:List Wk}(h:AtW L i (w::W))(hk:w.1=1∨w.1=4):takeR L ⟨i, -1⟩ w.2=⟨i+1, -1⟩:=by
 unfold takeR;rw[h.peek hk,decide_eq_true rfl,if_pos rfl]
theorem AtW.kind{L:List Tk}{i:Nat}{s:ByteArray}{W:List Wk}(h:AtW L i ((1,s)::W)):kindR L ⟨i, -1⟩ 1=(s,⟨i+1, -1⟩):=by
 obtain⟨_,hi,he⟩:=h.cons;have e1:L[i].kind=1:=congrArg Prod.fst he
 have e2:L[i].text=s:=congrArg Prod.snd he
 unfold kindR;have:kindB L ⟨i, -1⟩ 1=true:=by simp[kindB,kindAt_some hi,e1]
 rw[if_pos this];simp only[textAt_some hi,e2]
def RbF(L:List Tk)(F:RqS->Fo × RqS)(i0:Nat)(x:Fo):Prop:=∀(i:Nat) (W:List Wk),i0<=i->AtW L i (x.wds++W)->F ⟨i, -1⟩=(x,⟨i+x.wds.length, -1⟩)
theorem read_more{L:List Tk}{F:RqS->Fo × RqS}{i0:Nat}{sg:Wk}(hk:sg.1=1∨sg.1=4)(hs:sg.2≠sRp):∀(r:List Fo),(∀x∈r,RbF L F i0 x)->∀(n i:Nat) (W:List Wk) (l:List Fo),i0<=i->r.length<n->AtW L i (tlW sg r++wRp::W) ->
  moreF L F sg.2 n ⟨i, -1⟩ l=(l++r,⟨i+(tlW sg r).length, -1⟩)
 | [],_,n,i,W,l,hi,hn,h=>by
  obtain⟨n,rfl⟩:∃m,n=m+1:=⟨n-1,by simp at hn;omega⟩
  have h1:AtW L i (wRp::W):=h
  unfold moreF;rw[h1.peek (.inr rfl),decide_eq_false (show ¬wRp.2=sg.2 from fun e=>hs e.symm),if_neg (by simp)];simp[tlW]
 | x::r,hr,n,i,W,l,hi,hn,h=>by
  obtain⟨n,rfl⟩:∃m,n=m+1:=⟨n-1,by simp at hn;omega⟩
  have h1:AtW L i (sg::(x.wds++(tlW sg r++wRp::W))):=by
   rw[tlW,List.cons_append,List.append_assoc] at h;exact h
  have h2:=h1.cons.1;have hx:=hr x (by simp) (i+1) _ (by omega) h2;have h3:=h2.app;unfold moreF;rw[h1.peek hk,decide_eq_true rfl,if_pos rfl];simp only;rw[hx];simp only;rw[read_more hk hs r (fun y hy=>hr y (by simp[hy])) n _ W _ (by omega) (by simp at hn;omega) h3];simp[tlW];omega
theorem tlW_len(sg:Wk):∀r:List Fo,r.length<=(tlW sg r).length
 | []=>nr _
 | x::r=>by have:=tlW_len sg r;simp[tlW];omega
theorem fat_no{s:ByteArray}(h:fatB s=true):s≠sLp/\pfxK s=none/\s≠wE/\s≠wA/\s≠wU:=by
 unfold fatB at h;simp only[Bool.and_eq_true,Bool.not_eq_true'] at h;have hw:∀w∈wordsL,s≠w:=fun w hw e=>by
  subst e;rw[memS_iff.2 hw] at h;cases h.2
 have hn:∀w:ByteArray,w∈[sNot,sEX,sEF,sEG,sAX,sAF,sAG,wE,wA,wU]->s≠w:=fun w hh=>hw w hh
 refine⟨fun e=>?_,?_,hn wE (by simp),hn wA (by simp),hn wU (by simp)⟩
 .subst e;have:=h.1
  revert this
  decide
 .unfold pfxK;rw[if_neg (hn _ (by simp)),if_neg (hn _ (by simp)),if_neg (hn _ (by simp)),if_neg (hn _ (by simp)),if_neg (hn _ (by simp)),if_neg (hn _ (by simp)),if_neg (hn _ (by simp))]
theorem read_list{L:List Tk}{F:RqS->Fo × RqS}{i:Nat}{k:Int}{sg:Wk}(hk:(k=3/\sg=(4,sAm))∨(k=4/\sg=(4,sBr)))(a b:Fo)(r:List Fo)(hF:∀x∈a::b::r,RbF L F (i+1) x){W:List Wk}(h:AtW L i (wLp::(jnW sg ((a::b::r).map Fo.wds)++[wRp])++W)):
  listF L F ⟨i, -1⟩=(.mk k ⟨#[]⟩ (a::b::r),⟨i+(wLp::(jnW sg ((a::b::r).map Fo.wds)++[wRp])).length, -1⟩):=by
 rw[jnW_tl,tlW] at h ⊢;have h1:AtW L i (wLp::(a.wds++(sg::(b.wds++(tlW sg r++wRp::W))))):=by
  simpa[List.append_assoc] using h
 have h2:=h1.cons.1;have h3:=h2.app;have h4:=h3.cons.1;have h5:=h4.app;have ta:=hF a (by simp) _ _ (nr _) h2;have tb:=hF b (by simp) _ _ (by omega) h4;have hn:=h5.len;have hrl:=tlW_len sg r;have hkk:sg.1=1∨sg.1=4:=by rcases hk with ⟨_,rfl⟩|⟨_,rfl⟩<;>exact .inr rfl
 have hss:sg.2≠sRp:=by rcases hk with ⟨_,rfl⟩|⟨_,rfl⟩<;>decide
 have tm:=read_more (F:=F) (i0:=i+1) hkk hss r (fun y hy=>hF y (by simp[hy])) (L.length+1) _ W [a,b] (by omega) (by simp at hn;omega) h5;have h6:=h5.app;have t1:takeR L ⟨i, -1⟩ sLp=⟨i+1, -1⟩:=h1.take (.inr rfl)
 have t2:=h3.take hkk;have t3:takeR L _ sRp=_:=h6.take (.inr rfl)
 have hp:=h3.peek hkk sBr;unfold listF lstF;rw[t1,ta];simp only;rw[hp];rcases hk with ⟨rfl,rfl⟩|⟨rfl,rfl⟩
 .rw[if_neg (by decide)];simp only at t2 tm ⊢;rw[t2,tb];simp only;rw[tm];simp only;rw[t3];refine Prod.ext rfl ?_;simp only[RqS.mk.injEq,and_true];simp;omega
 .rw[if_pos (by decide)];simp only at t2 tm ⊢;rw[t2,tb];simp only;rw[tm];simp only;rw[t3];refine Prod.ext rfl ?_;simp only[RqS.mk.injEq,and_true];simp;omega
theorem read_unt{L:List Tk}{F:RqS->Fo × RqS}{i:Nat}(k:Int)(a b:Fo)(hF:∀x∈[a,b],RbF L F i x){W:List Wk}(h:AtW L i (wLp::(jnW (1,wU) ([a,b].map Fo.wds)++[wRp])++W)):
  untF L F k ⟨i, -1⟩=(.mk k ⟨#[]⟩ [a,b],⟨i+(wLp::(jnW (1,wU) ([a,b].map Fo.wds)++[wRp])).length, -1⟩):=by
 rw[jnW_tl,tlW,tlW] at h ⊢;have h1:AtW L i (wLp::(a.wds++((1,wU)::(b.wds++(wRp::W))))):=by
  simpa[List.append_assoc] using h
 have h2:=h1.cons.1;have h3:=h2.app;have h4:=h3.cons.1;have h5:=h4.app;have ta:=hF a (by simp) _ _ (Nat.le_succ _) h2;have tb:=hF b (by simp) _ _ (by omega) h4;have t1:takeR L ⟨i, -1⟩ sLp=⟨i+1, -1⟩:=h1.take (.inr rfl)
 have t2:takeR L _ wU=_:=h3.take (.inl rfl)
 have t3:takeR L _ sRp=_:=h5.take (.inr rfl)
 unfold untF;rw[t1,ta];simp only;rw[t2,tb];simp only;rw[t3];refine Prod.ext rfl ?_;simp only[RqS.mk.injEq,and_true];simp;omega
theorem bad_neg(i:Nat):(⟨i, -1⟩:RqS).bad<0:=by show (-1:Int)<0;decide
theorem read_f(L:List Tk):∀(n:Nat) (f:Fo),f.size<n->f.Wf->∀(m i:Nat) (W:List Wk),AtW L i (f.wds++W)->L.length+1<=m+i->pFrm L m ⟨i, -1⟩=(f,⟨i+f.wds.length, -1⟩)
 | 0,f,h,_=>absurd h (Nat.not_lt_zero _)
 | n+1,f,hz,hf=>fun m i W h hm=>by
  have hlen:=h.len;have ih:∀x∈f.kids,∀m',L.length+1<=m'+(i+1)->RbF L (pFrm L m') (i+1) x:=fun x hx m' hm' j W' hj hW' =>
   read_f L n x (by have:=Fo.sizeL_mem hx;rw[f.size_eq] at hz;omega) (hf.kid x hx) m' j W' hW' (by omega)
  rw[f.wds_eq] at h hlen ⊢;have hf0:=hf.forms;have key:∀w W',AtW L i (w::W')->∃m',m=m'+1/\L.length+1<=m'+(i+1):=fun w W' h1=>by
   obtain⟨_,hi,_⟩:=h1.cons;exact⟨m-1,by omega,by omega⟩
  rcases hf0 with ⟨s,rfl,hs⟩|⟨k,a,b,r,hk,rfl⟩|⟨k,a,b,hk,rfl⟩|⟨k,a,hk,rfl⟩
  .have h1:AtW L i ((1,s)::W):=h
   obtain⟨m,rfl,hm'⟩:=key _ _ h1;obtain⟨n1,n2,n3,n4,n5⟩:=fat_no hs;show frmF L (pFrm L m) ⟨i, -1⟩=_
   unfold frmF;rw[if_pos (bad_neg i),h1.peek (.inl rfl),decide_eq_false n1,if_neg (by simp),h1.kind];simp only;rw[if_pos (bad_neg (i+1)),wrdF,n2];simp only;rw[if_neg n3,if_neg n4,if_neg n5];rfl
  .simp only[Fo.kind,Fo.name,Fo.kids] at h ih ⊢;have e:∃sg:Wk,((k=3/\sg=(4,sAm))∨(k=4/\sg=(4,sBr)))/\wdsK k ⟨#[]⟩ ((a::b::r).map Fo.wds)=wLp::(jnW sg ((a::b::r).map Fo.wds)++[wRp]):=by
    rcases hk with rfl|rfl
    .exact⟨(4,sAm),.inl ⟨rfl,rfl⟩,rfl⟩
    .exact⟨(4,sBr),.inr ⟨rfl,rfl⟩,rfl⟩
   obtain⟨sg,hsg,e⟩:=e;rw[e] at h ⊢;have h1:AtW L i (wLp::((jnW sg ((a::b::r).map Fo.wds)++[wRp])++W)):=h
   obtain⟨m,rfl,hm'⟩:=key _ _ h1;show frmF L (pFrm L m) ⟨i, -1⟩=_
   unfold frmF;rw[if_pos (bad_neg i),h1.peek (.inr rfl),if_pos (by decide)];exact read_list hsg a b r (fun x hx=>ih x hx m hm') h
  .simp only[Fo.kind,Fo.name,Fo.kids] at h ih ⊢;rcases hk with rfl|rfl
   .have h1:AtW L i ((1,wE)::(wLp::(jnW (1,wU) ([a,b].map Fo.wds)++[wRp])++W)):=h
    obtain⟨m,rfl,hm'⟩:=key _ _ h1;have hu:=read_unt (F:=pFrm L m) 8 a b (fun x hx=>ih x hx m hm') h1.cons.1;show frmF L (pFrm L m) ⟨i, -1⟩=_
    unfold frmF;rw[if_pos (bad_neg i),h1.peek (.inl rfl),if_neg (by decide),h1.kind];simp only;rw[if_pos (bad_neg (i+1)),wrdF,show pfxK wE=none by decide];simp only;rw[if_pos trivial,hu];refine Prod.ext rfl ?_;simp only[RqS.mk.injEq,and_true];simp[wdsK];omega
   .have h1:AtW L i ((1,wA)::(wLp::(jnW (1,wU) ([a,b].map Fo.wds)++[wRp])++W)):=h
    obtain⟨m,rfl,hm'⟩:=key _ _ h1;have hu:=read_unt (F:=pFrm L m) 12 a b (fun x hx=>ih x hx m hm') h1.cons.1;show frmF L (pFrm L m) ⟨i, -1⟩=_
    unfold frmF;rw[if_pos (bad_neg i),h1.peek (.inl rfl),if_neg (by decide),h1.kind];simp only;rw[if_pos (bad_neg (i+1)),wrdF,show pfxK wA=none by decide];simp only;rw[if_neg (by decide),if_pos trivial,hu];refine Prod.ext rfl ?_;simp only[RqS.mk.injEq,and_true];simp[wdsK];omega
  .simp only[Fo.kind,Fo.name,Fo.kids] at h ih ⊢;have e:wdsK k ⟨#[]⟩ ([a].map Fo.wds)=(1,pfxT k)::a.wds:=by
    unfold wdsK;rw[if_neg (by omega),if_neg (by omega),if_neg (by omega),if_neg (by omega),if_neg (by omega)];rfl
   rw[e] at h ⊢;have h1:AtW L i ((1,pfxT k)::(a.wds++W)):=h
   obtain⟨m,rfl,hm'⟩:=key _ _ h1;have hn:pfxT k≠sLp:=by
    rcases hk with rfl|rfl|rfl|rfl|rfl|rfl|rfl<;>decide
   have hx:=ih a (by simp) m hm' _ _ (nr _) h1.cons.1;show frmF L (pFrm L m) ⟨i, -1⟩=_
   unfold frmF;rw[if_pos (bad_neg i),h1.peek (.inl rfl),decide_eq_false hn,if_neg (by simp),h1.kind];simp only;rw[if_pos (bad_neg (i+1)),wrdF,(pfx_mem hk).2];simp only;rw[hx];refine Prod.ext rfl ?_;simp only[RqS.mk.injEq,and_true];simp;omega
theorem par_back{L:List Tk}{f:Fo}(h:L.map Tk.kt=f.wds)(hs:shapeF f=0):parL L=(f,0,0):=by
 have hf:f.formE=0:=by
  unfold shapeF at hs;split at hs
  .rename_i h1;exact absurd hs h1
  .rename_i h1;exact Decidable.not_not.1 h1
 have hw:=form_wf _ f (Nat.lt_succ_self _) hf;have hL:L.length=f.wds.length:=by rw[<-h,List.length_map]
 have hr:=read_f L _ f (Nat.lt_succ_self _) hw (L.length+1) 0 [] (by unfold AtW;rw[h,List.drop_zero,List.append_nil]) (by omega);rw[Nat.zero_add,<-hL] at hr;have hb:badF1 L ⟨L.length, -1⟩ = -1:=by unfold badF1;rw[if_neg (by simp)]
 unfold parL;rw[hr];simp only;rw[hb,if_neg (by decide),hs,if_neg (by simp)]
structure WdA (w:ByteArray):Prop where
 ne:w.data.toList≠[]
 lo:∀b∈w.data.toList,b.toNat<128/\Lib.isSp b=false
theorem run_mem{p:Int->Bool}{w:ByteArray}(h:runN p w 0=w.size):∀b∈w.data.toList,p (b.toNat:Int)=true:=by
 unfold runN at h;rw[List.drop_zero] at h;have hall:w.data.toList.takeWhile (fun b=>p (b.toNat:Int))=w.data.toList:=(List.takeWhile_prefix (l:=w.data.toList) (fun b=>p (b.toNat:Int))).eq_of_length (by rw[h,sz_list])
 intro b hb;rw[<-hall] at hb;have hall2:∀l:List UInt8,b∈l.takeWhile (fun b=>p (b.toNat:Int))->p (b.toNat:Int)=true:=by
  intro l;induction l with
  | nil=>intro h;simp at h
  | cons x r ih =>
   intro h;rw[List.takeWhile_cons] at h;split at h
   .rename_i hx;rcases List.mem_cons.1 h with rfl|h
    .exact hx
    .exact ih h
   .simp at h
 exact hall2 _ hb
theorem sp_of{b:UInt8}(h:33<=b.toNat):Lib.isSp b=false:=by
 have hn:∀k:UInt8,k.toNat<=32->(b==k)=false:=fun k hk=>by
  rw[beq_eq_false_iff_ne];intro e;subst e;omega
 simp only[Lib.isSp];rw[hn 9 (by decide),hn 10 (by decide),hn 11 (by decide),hn 12 (by decide),hn 13 (by decide),hn 32 (by decide)];rfl
theorem wd_a{w:Wk}(h:wdB w=true):WdA w.2:=by
 obtain⟨k,w⟩:=w;simp only[wdB,Bool.or_eq_true,Bool.and_eq_true,decide_eq_true_eq] at h;rcases h with ⟨rfl,hn⟩|⟨rfl,hg⟩
 .simp only[nameB,Bool.and_eq_true,decide_eq_true_eq] at hn;obtain⟨⟨⟨h1,h20⟩,hl⟩,hr⟩:=hn;refine⟨fun e=>?_,fun b hb=>?_⟩
  .have:=sz_list w
   simp only at e;rw[e] at this;simp at this;omega
  .have:=run_mem hr b hb
   simp only[parB,letB,digB,Bool.or_eq_true,decide_eq_true_eq,beq_iff_eq] at this;exact⟨by omega,sp_of (by omega)⟩
 .rcases hg with (rfl|rfl)|rfl|rfl<;>exact⟨by decide,by decide⟩
theorem layF_ascii{l:List UInt8}{ws:List Wk}(h:Lay false l ws):∀b∈l,b.toNat<128:=by
 induction h with
 | nil=>simp
 | nl h ih =>
  intro b hb;rcases List.mem_cons.1 hb with rfl|hb
  .decide
  .exact ih b hb
 | wh hw h ih =>
  intro b hb;rcases List.mem_cons.1 hb with rfl|hb
  .rcases hw with rfl|rfl<;>decide
  .exact ih b hb
 | cm c hq hc h ih=>cases hq
 | wd w hw hs h ih =>
  intro b hb;rcases List.mem_append.1 hb with hb|hb
  .exact((wd_a hw).lo b hb).1
  .exact ih b hb
theorem fieldsGo_word:∀(w cur s:List UInt8),(∀b∈w,Lib.isSp b=false)->Lib.fieldsGo cur (w++s)=Lib.fieldsGo (cur++w) s
 | [],cur,s,_=>by rw[List.nil_append,List.append_nil]
 | b::w,cur,s,h=>by
  rw[List.cons_append,Lib.fieldsGo,h b (by simp),if_neg (by simp),fieldsGo_word w (cur++[b]) s fun x hx=>h x (by simp[hx]),List.append_assoc,List.singleton_append]
theorem fieldsGo_stop{cur s:List UInt8}(hc:cur≠[])(hs:whL s):Lib.fieldsGo cur s=cur::Lib.fieldsGo [] s:=by
 have he:cur.isEmpty=false:=by cases cur with|nil=>exact absurd rfl hc|cons=>rfl
 cases s with
 | nil=>rw[Lib.fieldsGo,Lib.fieldsGo,he];rfl
 | cons b r =>
  have hb:Lib.isSp b=true:=by rcases hs b r rfl with rfl|rfl|rfl<;>decide
  rw[Lib.fieldsGo,Lib.fieldsGo,hb,if_pos rfl,if_pos rfl,he];rfl
theorem layF_fields{l:List UInt8}{ws:List Wk}(h:Lay false l ws):Lib.fields l=ws.map fun w=>w.2.data.toList:=by
 unfold Lib.fields;induction h with
 | nil=>rfl
 | nl h ih=>rw[Lib.fieldsGo,if_pos (by decide)];exact ih
 | wh hw h ih=>rw[Lib.fieldsGo,if_pos (by rcases hw with rfl|rfl<;>decide)];exact ih
 | cm c hq hc h ih=>cases hq
 | wd w hw hs h ih =>
  have ha:=wd_a hw;rw[fieldsGo_word _ _ _ fun b hb=>(ha.lo b hb).2,List.nil_append,fieldsGo_stop ha.ne hs,ih];rfl
def blankB(k:Nat):ByteArray:=if k=0 then ⟨#[32]⟩ else if k=1 then ⟨#[10]⟩ else if k=2 then ⟨#[9,32]⟩ else ⟨#[32,35,32,41,10]⟩
def bkAt(bs:List Int)(i:Nat):Nat:=if bs.length=0 then 0 else ((bs.getD (i % bs.length) 0).toNat) % 4
def blT(bs:List Int):Nat->List ByteArray->ByteArray
 | _,[]=>⟨#[]⟩
 | i,w::r=>(w++blankB (bkAt bs i))++blT bs (i+1) r
theorem blank_wh(k:Nat)(s:List UInt8):whL ((blankB k).data.toList++s):=by
 unfold blankB;repeat' split
 .exact whL_sp _
 .exact whL_nl _
 .exact whL_tb _
 .exact whL_sp _
theorem blank_lay(k:Nat){s:List UInt8}{ws:List Wk}(h:Lay true s ws):Lay true ((blankB k).data.toList++s) ws:=by
 unfold blankB;repeat' split
 .exact .wh (.inl rfl) h
 .exact .nl h
 .exact .wh (.inr rfl) (.wh (.inl rfl) h)
 .exact .wh (.inl rfl) (.cm [32,41] rfl (by decide) h)
theorem lay_wd{q:Bool}{l:List UInt8}{ws:List Wk}(h:Lay q l ws):∀w∈ws,wdB w=true:=by
 induction h with
 | nil=>simp
 | nl h ih=>exact ih
 | wh hw h ih=>exact ih
 | cm c hq hc h ih=>exact ih
 | wd w hw hs h ih =>
  intro x hx;rcases List.mem_cons.1 hx with rfl|hx
  .exact hw
  .exact ih x hx
theorem blT_lay(bs:List Int):∀(ws:List Wk) (i:Nat),(∀w∈ws,wdB w=true)->Lay true (blT bs i (ws.map Prod.snd)).data.toList ws
 | [],i,_=>.nil
 | w::r,i,h=>by
  rw[List.map_cons,blT,ba_app_list,ba_app_list,List.append_assoc];exact .wd w (h w (by simp)) (blank_wh _ _) (blank_lay _ (blT_lay bs r (i+1) fun x hx=>h x (by simp[hx])))
theorem blT_app(bs:List Int):∀(a b:List ByteArray) (i:Nat),blT bs i (a++b)=blT bs i a++blT bs (i+a.length) b
 | [],b,i=>by rw[List.nil_append];exact(ByteArray.empty_append (b:=blT bs (i+0) b)).symm
 | x::a,b,i=>by
  rw[List.cons_append,blT,blT,blT_app bs a b (i+1),ByteArray.append_assoc,ByteArray.append_assoc,ByteArray.append_assoc,List.length_cons,show i+1+a.length=i+(a.length+1) by omega]
theorem blT_take(bs:List Int){l:List ByteArray}{i:Nat}(h:i<l.length):blT bs 0 (l.take (i+1))=blT bs 0 (l.take i)++(l[i]++blankB (bkAt bs i)):=by
 rw[List.take_succ_eq_append_getElem h,blT_app,blT,blT,List.length_take,Nat.zero_add,Nat.min_eq_left (by omega)];rw[show (⟨#[]⟩:ByteArray)=ByteArray.empty from rfl,ByteArray.append_empty]
theorem tlW_size(sg:Wk):∀r:List Fo,(∀x∈r,x.wds.length+1<=5*x.size)->(tlW sg r).length<=5*Fo.sizeL r
 | [],_=>Nat.zero_le _
 | x::r,h=>by
  have h1:=h x (by simp);have h2:=tlW_size sg r fun y hy=>h y (by simp[hy])
  simp only[tlW,List.length_cons,List.length_append,Fo.sizeL];omega
theorem wds_len:∀(n:Nat) (f:Fo),f.size<n->f.Wf->f.wds.length+1<=5*f.size
 | 0,f,h,_=>absurd h (Nat.not_lt_zero _)
 | n+1,f,hz,hf=>by
  have ih:=fun x (hx:x∈f.kids)=>wds_len n x (by have:=Fo.sizeL_mem hx;rw[f.size_eq] at hz;omega) (hf.kid x hx)
  rw[f.wds_eq,f.size_eq];rcases hf.forms with ⟨s,rfl,hs⟩|⟨k,a,b,r,hk,rfl⟩|⟨k,a,b,hk,rfl⟩|⟨k,a,hk,rfl⟩
  .show 1+1<=_
   omega
  .simp only[Fo.kind,Fo.name,Fo.kids] at ih ⊢;have ha:=ih a (by simp);have e:∀sg,(wLp::(jnW sg ((a::b::r).map Fo.wds)++[wRp])).length+1<=5*(1+Fo.sizeL (a::b::r)):=fun sg=>by
    have ht:=tlW_size sg (b::r) fun y hy=>ih y (by simp only[List.mem_cons] at hy ⊢;exact .inr hy)
    rw[jnW_tl];simp only[List.length_cons,List.length_append,Fo.sizeL,List.length_nil] at ht ⊢;omega
   rcases hk with rfl|rfl
   .exact e _
   .exact e _
  .simp only[Fo.kind,Fo.name,Fo.kids] at ih ⊢;have ha:=ih a (by simp);have hb:=ih b (by simp);have e:∀w:Wk,(w::wLp::(jnW (1,wU) ([a,b].map Fo.wds)++[wRp])).length+1<=5*(1+Fo.sizeL [a,b]):=fun w=>by
    rw[jnW_tl];simp only[tlW,List.length_cons,List.length_append,Fo.sizeL,List.length_nil];omega
   rcases hk with rfl|rfl
   .exact e _
   .exact e _
  .have ha:=ih a (by simp[Fo.kids]);simp only[Fo.kind,Fo.name,Fo.kids,Fo.sizeL];unfold wdsK;rw[if_neg (by omega),if_neg (by omega),if_neg (by omega),if_neg (by omega),if_neg (by omega)];have e:(((1,pfxT k):Wk)::a.wds).length+1<=5*(1+(a.size+0)):=by
    rw[List.length_cons];omega
   exact e
theorem wds_pos(f:Fo)(hf:f.Wf):0<f.wds.length:=by
 rw[f.wds_eq];rcases hf.forms with ⟨s,rfl,hs⟩|⟨k,a,b,r,hk,rfl⟩|⟨k,a,b,hk,rfl⟩|⟨k,a,hk,rfl⟩
 .exact Nat.one_pos
 .rcases hk with rfl|rfl
  .exact Nat.succ_pos _
  .exact Nat.succ_pos _
 .rcases hk with rfl|rfl
  .exact Nat.succ_pos _
  .exact Nat.succ_pos _
 .simp only[Fo.kind,Fo.name,Fo.kids];unfold wdsK;rw[if_neg (by omega),if_neg (by omega),if_neg (by omega),if_neg (by omega),if_neg (by omega)];exact Nat.succ_pos _
theorem shape_ok{f:Fo}(h:shapeF f=0):f.Wf/\f.size<=40:=by
 unfold shapeF at h;split at h
 .rename_i h1;exact absurd h h1
 .rename_i h1;split at h
  .cases h
  .rename_i h2;exact⟨form_wf _ f (Nat.lt_succ_self _) (Decidable.not_not.1 h1),by omega⟩
theorem fmt_lay(q:Bool){f:Fo}(h:shapeF f=0):Lay q f.txt.data.toList f.wds:=(put_txt q _ f (Nat.lt_succ_self _) (shape_ok h).1).all
theorem fmt_fields{f:Fo}(h:shapeF f=0):(∀b∈f.txt.data.toList,b.toNat<128)/\Lib.fields f.txt.data.toList=f.wds.map fun w=>w.2.data.toList :=
 ⟨layF_ascii (fmt_lay false h),layF_fields (fmt_lay false h)⟩
theorem fmt_len{f:Fo}(h:shapeF f=0):f.wds.length<=200:=by
 have:=wds_len _ f (Nat.lt_succ_self _) (shape_ok h).1
 have:=(shape_ok h).2
 omega
theorem lay_back{q:Bool}{f:Fo}{s:ByteArray}(h:shapeF f=0)(hs:s.size<=20000)(hl:Lay q s.data.toList f.wds):parS s=(f,0,0):=by
 have hn:=fmt_len h;obtain⟨T,e1,e2⟩:=hl.toksR hs (by omega);unfold parS;rw[e1];simp only;rw[if_neg (by simp)];exact par_back e2 h
theorem wd_size{w:Wk}(h:wdB w=true):w.2.size<=20:=by
 obtain⟨k,w⟩:=w;simp only[wdB,Bool.or_eq_true,Bool.and_eq_true,decide_eq_true_eq] at h;rcases h with ⟨rfl,hn⟩|⟨rfl,hg⟩
 .simp only[nameB,Bool.and_eq_true,decide_eq_true_eq] at hn;exact hn.1.1.2
 .rcases hg with (rfl|rfl)|rfl|rfl<;>decide
theorem blT_size(bs:List Int):∀(l:List ByteArray) (i:Nat),(∀w∈l,w.size<=20)->(blT bs i l).size<=25*l.length
 | [],i,_=>by rw[blT];show 0<=_;omega
 | w::r,i,h=>by
  have h1:=h w (by simp);have h2:=blT_size bs r (i+1) fun x hx=>h x (by simp[hx])
  have h3:(blankB (bkAt bs i)).size<=5:=by
   unfold blankB;repeat' split
   all_goals decide
  rw[blT,ByteArray.size_append,ByteArray.size_append,List.length_cons];omega
theorem wds_sz{f:Fo}(h:shapeF f=0):∀s∈f.wds.map Prod.snd,s.size<=20:=fun s hs=>by
 obtain⟨w,hw,rfl⟩:=List.mem_map.1 hs;exact wd_size (lay_wd (fmt_lay false h) w hw)
theorem blanks_back{f:Fo}(h:shapeF f=0)(bs:List Int):parS (blT bs 0 (f.wds.map Prod.snd))=(f,0,0):=by
 have h1:=blT_size bs (f.wds.map Prod.snd) 0 (wds_sz h);have h2:=fmt_len h;rw[List.length_map] at h1;exact lay_back h (by omega) (blT_lay bs _ 0 (lay_wd (fmt_lay false h)))
theorem jn_size(sep:ByteArray)(hs:sep.size=3):∀(r:List Fo) (x:Fo),(∀y∈x::r,y.txt.size+3<=25*y.size)->(jnB sep ((x::r).map Fo.txt)).size+3<=25*Fo.sizeL (x::r)
 | [],x,h=>by
  have:=h x (by simp)
  simp only[List.map_cons,List.map_nil,jnB,Fo.sizeL];omega
 | y::r,x,h=>by
  have h1:=h x (by simp);have h2:=jn_size sep hs r y fun z hz=>h z (by simp only[List.mem_cons] at hz ⊢;exact .inr hz)
  rw[List.map_cons] at h2;rw[List.map_cons,List.map_cons,jnB,ByteArray.size_append,ByteArray.size_append];simp only[Fo.sizeL] at h2 ⊢;omega
theorem txt_size:∀(n:Nat) (f:Fo),f.size<n->f.Wf->f.txt.size+3<=25*f.size
 | 0,f,h,_=>absurd h (Nat.not_lt_zero _)
 | n+1,f,hz,hf=>by
  have ih:=fun x (hx:x∈f.kids)=>txt_size n x (by have:=Fo.sizeL_mem hx;rw[f.size_eq] at hz;omega) (hf.kid x hx)
  rw[f.txt_eq,f.size_eq];rcases hf.forms with ⟨s,rfl,hs⟩|⟨k,a,b,r,hk,rfl⟩|⟨k,a,b,hk,rfl⟩|⟨k,a,hk,rfl⟩
  .have:=wd_size (wd_name hs)
   show s.size+3<=25*(1+0)
   simp only at this;omega
  .simp only[Fo.kind,Fo.name,Fo.kids] at ih ⊢;have e:=fun sep hs=>jn_size sep hs (b::r) a ih
   rcases hk with rfl|rfl
   .have h1:=e tAm rfl;show (tLp++(jnB tAm ((a::b::r).map Fo.txt)++tRp)).size+3<=_
    rw[ByteArray.size_append,ByteArray.size_append,show tLp.size=2 from rfl,show tRp.size=2 from rfl];omega
   .have h1:=e tBr rfl;show (tLp++(jnB tBr ((a::b::r).map Fo.txt)++tRp)).size+3<=_
    rw[ByteArray.size_append,ByteArray.size_append,show tLp.size=2 from rfl,show tRp.size=2 from rfl];omega
  .simp only[Fo.kind,Fo.name,Fo.kids] at ih ⊢;have h1:=jn_size tU rfl [b] a ih;rcases hk with rfl|rfl
   .show (tE++(tLp++(jnB tU ([a,b].map Fo.txt)++tRp))).size+3<=_
    rw[ByteArray.size_append,ByteArray.size_append,ByteArray.size_append,show tLp.size=2 from rfl,show tRp.size=2 from rfl,show tE.size=2 from rfl];omega
   .show (tA++(tLp++(jnB tU ([a,b].map Fo.txt)++tRp))).size+3<=_
    rw[ByteArray.size_append,ByteArray.size_append,ByteArray.size_append,show tLp.size=2 from rfl,show tRp.size=2 from rfl,show tA.size=2 from rfl];omega
  .have h1:=ih a (by simp[Fo.kids]);simp only[Fo.kind,Fo.name,Fo.kids,Fo.sizeL];have hp:(pfxT k).size<=3:=by
    unfold pfxT;repeat' split
    all_goals decide
   have e1:txtK k ⟨#[]⟩ ([a].map Fo.txt)=pfxT k++(blkB++a.txt):=by
    unfold txtK;rw[if_neg (by omega),if_neg (by omega),if_neg (by omega),if_neg (by omega),if_neg (by omega)];rfl
   rw[e1,ByteArray.size_append,ByteArray.size_append,show blkB.size=1 from rfl];omega
theorem fmt_size{f:Fo}(h:shapeF f=0):f.txt.size<=1000:=by
 have:=txt_size _ f (Nat.lt_succ_self _) (shape_ok h).1
 have:=(shape_ok h).2
 omega
theorem fmt_back{f:Fo}(h:shapeF f=0):parS f.txt=(f,0,0):=by
 have:=fmt_size h
 exact lay_back h (by omega) (fmt_lay false h)
def valE(A:List At)(vals:List Int)(i:Nat):Int:=if vals.getD i 0<(A.getD i ⟨eB,0,0,[]⟩).lo∨(A.getD i ⟨eB,0,0,[]⟩).hi<vals.getD i 0 then 6 else 0
def hnodE(t:Ty)(A:List At)(k:Int)(vals:List Int):Int :=
 if (t.nodes.length:Int)<=k then 6 else if (t.nd k.toNat).abs=true then 13 else if vals.length≠A.length then 20 else firstE (valE A vals) A.length
def stNdE(A:List At)(vals:List Int)(nb:Nat)(box:Bxs)(tok:Tks)(nt:Nat)(i:Nat):AS :=
 ⟨tl [(33,.d (atts A)),(34,I A.length),(35,I i),(2,.d (ints vals))],lb nb box [],tok,nt⟩
set_option maxRecDepth 100000 in
theorem hnode_c(t:Ty)(A:List At)(hA:A.length<=1000000)(k:Int)(hk:0<=k)(vals:List Int)(tok:Tks)(nt:Nat)(hat:k<(t.nodes.length:Int)->(t.nd k.toNat).abs=false->DCall prog 265 [t.av,I k] tok nt (.tup [.d (atts A),I 0]) tok nt):
  DCall prog 229 [t.av,I k,.d (ints vals)] tok nt (I (hnodE t A k vals)) tok nt:=by
 intro box nb;obtain⟨Res,hRes⟩:∃Res,hnodE t A k vals=Res:=⟨_,rfl⟩
 rw[hRes];unfold hnodE at hRes;refine sI func229 ntmps229 fun Hb Ht=>?_
 by_cases c1:(t.nodes.length:Int)<=k
 .have b1:decide ((t.nodes.length:Int)<=k)=true:=by simpa using c1
  rw[if_pos c1] at hRes;subst hRes;try (simp[c1,b1])
  repeat (first|(refine sR ?_;simp[c1,b1])|(refine sC ?_;simp[c1,b1])|(refine sX ?_;simp only[AU,↓reduceIte]))
  refine sT (sH Hb Ht ?_);simp
 rw[if_neg c1] at hRes;have b1:decide ((t.nodes.length:Int)<=k)=false:=by simpa using c1
 have hk1:k.toNat<t.nodes.length:=by omega
 have hk2:k<(t.nodes.length:Int):=by omega
 have hnd:t.nd k.toNat=t.nodes[k.toNat]:=by simp[Ty.nd,hk1]
 rw[hnd] at hRes hat;cases e1:t.nodes[k.toNat].abs
 .rw[e1] at hRes;simp only[Bool.false_eq_true,↓reduceIte] at hRes;have hat:=hat hk2 e1;try (simp[c1,b1,hk,hk1,hk2,e1])
  repeat (first|(refine sR ?_;simp[c1,b1,hk,hk1,hk2,e1])|(refine sC ?_;simp[c1,b1,hk,hk1,hk2,e1])|(refine sX ?_;simp only[AU,↓reduceIte]))
  refine sD (hat) ?_;simp;by_cases c2:vals.length=A.length
  .have b2:((vals.length:Int) != (A.length:Int))=false:=by simp[c2]
   rw[if_neg (fun h=>h c2)] at hRes;try (simp[b2,c2])
   repeat (first|(refine sR ?_;simp[b2,c2])|(refine sC ?_;simp[b2,c2])|(refine sX ?_;simp only[AU,↓reduceIte]))
   refine sN ?_;refine sL (stNdE A vals nb box tok nt) (fun i=>i<=A.length/\firstE (valE A vals) i=0) (fun i=>A.length-i) 0 ⟨Nat.zero_le _,rfl⟩ wkA ?_;rintro i S ⟨hi,h0⟩ hS;simp only[stNdE] at hS;subst hS;have hw:=sW (i:=i) (by omega);repeat first|simp|refine sR ?_|refine sC ?_
   refine⟨fun hlt=>?_,fun hge=>?_⟩
   .have hv:i<vals.length:=by omega
    have hve:valE A vals i=if vals[i]<A[i].lo∨A[i].hi<vals[i] then 6 else 0:=by simp[valE,hv,hlt]
    by_cases c3:vals[i]<A[i].lo
    .have b3:decide (vals[i]<A[i].lo)=true:=by simpa using c3
     rw[if_pos (.inl c3)] at hve;rw[firstE_stop h0 (by rw[hve];decide) _ hlt,hve] at hRes;subst hRes;try (simp[hlt,hv,c3,b3])
     repeat (first|(refine sR ?_;simp[hlt,hv,c3,b3])|(refine sC ?_;simp[hlt,hv,c3,b3])|(refine sX ?_;simp only[AU,↓reduceIte]))
     refine sT (sH Hb Ht ?_);simp
    .have b3:decide (vals[i]<A[i].lo)=false:=by simpa using c3
     by_cases c4:A[i].hi<vals[i]
     .have b4:decide (A[i].hi<vals[i])=true:=by simpa using c4
      rw[if_pos (.inr c4)] at hve;rw[firstE_stop h0 (by rw[hve];decide) _ hlt,hve] at hRes;subst hRes;try (simp[hlt,hv,c3,b3,c4,b4])
      repeat (first|(refine sR ?_;simp[hlt,hv,c3,b3,c4,b4])|(refine sC ?_;simp[hlt,hv,c3,b3,c4,b4])|(refine sX ?_;simp only[AU,↓reduceIte]))
      refine sT (sH Hb Ht ?_);simp
     .have b4:decide (A[i].hi<vals[i])=false:=by simpa using c4
      rw[if_neg (fun h=>h.elim c3 c4)] at hve;try (simp[hlt,hv,c3,b3,c4,b4,hw])
      repeat (first|(refine sR ?_;simp[hlt,hv,c3,b3,c4,b4,hw])|(refine sC ?_;simp[hlt,hv,c3,b3,c4,b4,hw])|(refine sX ?_;simp only[AU,↓reduceIte]))
      refine sE ?_;exact⟨i+1,⟨hlt,by simp only[firstE,h0,↓reduceIte];exact hve⟩,by omega,wkA⟩
   .refine sX ?_;simp only[AU,↓reduceIte];have:i=A.length:=by omega
    subst this;rw[h0] at hRes;subst hRes;try (simp)
    repeat (first|(refine sR ?_;simp)|(refine sC ?_;simp)|(refine sX ?_;simp only[AU,↓reduceIte]))
    refine sT (sH Hb Ht ?_);simp
  .have b2:((vals.length:Int) != (A.length:Int))=true:=by simpa using fun h=>c2 (by omega)
   rw[if_pos c2] at hRes;subst hRes;try (simp[b2,c2])
   repeat (first|(refine sR ?_;simp[b2,c2])|(refine sC ?_;simp[b2,c2])|(refine sX ?_;simp only[AU,↓reduceIte]))
   refine sT (sH Hb Ht ?_);simp
 .rw[e1,if_pos rfl] at hRes;subst hRes;try (simp[c1,b1,hk,hk1,hk2,e1])
  repeat (first|(refine sR ?_;simp[c1,b1,hk,hk1,hk2,e1])|(refine sC ?_;simp[c1,b1,hk,hk1,hk2,e1])|(refine sX ?_;simp only[AU,↓reduceIte]))
  refine sT (sH Hb Ht ?_);simp
variable {P:Program}
theorem wpOps_glue{ops ops':Array Oper}{Q:Exit->Act->World->Prop}{l2:List Nat}:∀(l:List Nat),(∀i∈l,∃o,ops[i]?=some o/\ops'[i]?=some o/\o.guard=none)->∀(a:Act) (w:World),
  wpOps P ops' (fun e a w=>match e with|.normal=>wpOps P ops Q l2 a w|e=>Q e a w) l a w->wpOps P ops Q (l++l2) a w
 | [],_,a,w,h=>h
 | i::l,hl,a,w,h=>by
  obtain⟨o,h1,h2,h3⟩:=hl i (by simp);have ih:=wpOps_glue (Q:=Q) (l2:=l2) l fun j hj=>hl j (by simp[hj])
  rw[List.cons_append];unfold wpOps at h ⊢;rw[h2] at h;rw[h1];have hw:∀y,Region.wanted o y=true:=fun y=>by unfold Region.wanted;rw[h3]
  simp only[hw,↓reduceIte] at h ⊢;have hlo:LetsOut (fun e a w=>match e with|.normal=>wpOps P ops Q l2 a w|e=>Q e a w)->LetsOut Q:=fun ⟨a,w,h⟩=>⟨a,w,h⟩
  rcases h with h|⟨h,k⟩
  .left;unfold Oper.wp at h ⊢;generalize (execOp a.eval o).run P w=r at *;cases r with
   | ok n w' =>
    cases n<;>simp only[Oper.upon] at h ⊢ <;>
     first
      | exact ih _ _ h
      | exact Calls.mono h (fun e w'' he=>by cases e<;>first|exact ih _ _ he|exact hlo he|exact he)
      | exact Rows.mono h (fun _ _ he=>ih _ _ he)
   | halt x w'=>cases x<;>simp only[Oper.upon] at h ⊢<;>first|exact h|exact hlo h
  .exact .inr ⟨h,hlo k⟩
theorem pend_no{base:Nat}{o:Oper}{G:Gh}{box:Bxs}(h:isAlloc o.op=false):Pend P base o G box:=by
 unfold Pend;split
 .rename_i h1 _;rw[h1] at h;cases h
 .trivial
theorem wpOps_glueG{ops ops':Array Oper}{Q:Exit->Act->World->Prop}{l2:List Nat}:∀(l:List Nat),(∀i∈l,∃o,ops[i]?=some o/\ops'[i]?=some o/\∀tm,Region.wanted o (yielded ops' tm)=Region.wanted o (yielded ops tm))->∀(a:Act) (w:World),
  wpOps P ops' (fun e a w=>match e with|.normal=>wpOps P ops Q l2 a w|e=>Q e a w) l a w->wpOps P ops Q (l++l2) a w
 | [],_,a,w,h=>h
 | i::l,hl,a,w,h=>by
  obtain⟨o,h1,h2,h3⟩:=hl i (by simp);have ih:=wpOps_glueG (Q:=Q) (l2:=l2) l fun j hj=>hl j (by simp[hj])
  rw[List.cons_append];unfold wpOps at h ⊢;rw[h2] at h;rw[h1];simp only at h ⊢;rw[h3] at h;have hlo:LetsOut (fun e a w=>match e with|.normal=>wpOps P ops Q l2 a w|e=>Q e a w)->LetsOut Q:=fun ⟨a,w,h⟩=>⟨a,w,h⟩
  split at h
  .rename_i hw;rw[if_pos hw];rcases h with h|⟨h,k⟩
   .left;unfold Oper.wp at h ⊢;generalize (execOp a.eval o).run P w=r at *;cases r with
    | ok n w' =>
     cases n<;>simp only[Oper.upon] at h ⊢ <;>
      first
       | exact ih _ _ h
       | exact Calls.mono h (fun e w'' he=>by cases e<;>first|exact ih _ _ he|exact hlo he|exact he)
       | exact Rows.mono h (fun _ _ he=>ih _ _ he)
    | halt x w'=>cases x<;>simp only[Oper.upon] at h ⊢<;>first|exact h|exact hlo h
   .exact .inr ⟨h,hlo k⟩
  .rename_i hw;rw[if_neg hw];exact ih _ _ h
def Seg(P:Program)(cx:Cx)(ops:Array Oper)(k:Nat)(K:AS->Prop)(S:AS):Prop:=∀(G0:Gh) (w0:World) (Q:Exit->Act->World->Prop),(∀S a w G,K S->RelS cx.n cx.nb G S a w->LeC cx G0 w0 G w S->Q .normal a w) ->
 ∀G a w,RelS cx.n cx.nb G S a w->LeC cx G0 w0 G w S->wpOps P ops Q (List.range' k (ops.size-k)) a w
def noAl(ops:Array Oper):Bool:=ops.toList.all fun o=>!isAlloc o.op
theorem noAl_spec{ops:Array Oper}(h:noAl ops=true){o:Oper}(ho:o∈ops):isAlloc o.op=false:=by
 have:=List.all_eq_true.1 h o (by simpa using ho)
 simpa using this
theorem regOk_two{n:Nat}{ops:Array Oper}(h:regionOk n ops false=true):allocOk ops=true/\dstOk n ops=true:=by
 simpa[regionOk] using h
theorem Seg.fin{cx:Cx}{ops:Array Oper}{k:Nat}{K:AS->Prop}{S:AS}(hnb:cx.base+cx.n<=cx.nb)(hok:regionOk cx.n ops false=true)(hna:noAl ops=true){post:List Oper}(hp:ops.toList.drop k=post)(h:FOps P cx ops false post K S):Seg P cx ops k K S:=by
 subst hp;intro G0 w0 Q hQ G a w hr hl;have:=aops_sound (ops:=ops) (G0:=G0) (w0:=w0) (K:=K) (Q:=Q) (dstOk_spec (regOk_two hok).2) hnb (regOk_two hok).1 (fun S' a' w' G' q1 q2 q3=>hQ S' a' w' G' q1 q2 q3) (ops.toList.drop k) k S a w G rfl (fun o ho=>pend_no (noAl_spec hna (by simpa using List.mem_of_mem_drop ho))) hr hl (fOps_false _ _ h)
 simpa using this
def gdOk(ops:Array Oper)(p:Nat):Bool:=(ops.toList.take p).all fun o=>match o.guard with|none=>true|some (j,_)=>decide (j<p)
theorem Seg.pre{cx:Cx}{ops:Array Oper}{k:Nat}{K:AS->Prop}{S:AS}(p:Nat)(hkp:k<=p)(hps:p<=ops.size)(hnb:cx.base+cx.n<=cx.nb)(hok:regionOk cx.n (ops.extract 0 p) false=true)(hna:noAl ops=true)(hg:gdOk ops p=true){ops':Array Oper}{mid:List Oper}(hx:ops.extract 0 p=ops')(hm:ops'.toList.drop k=mid)(h:FOps P cx ops' false mid (Seg P cx ops p K) S):Seg P cx ops k K S:=by
 subst hx hm;intro G0 w0 Q hQ G a w hr hl;have hsplit:List.range' k (ops.size-k)=List.range' k (p-k)++List.range' p (ops.size-p):=by
  rw[show ops.size-k=(p-k)+(ops.size-p) by omega,<-List.range'_append_1,show k+(p-k)=p by omega]
 rw[hsplit];have hlook:∀j,j<p->(ops.extract 0 p)[j]?=ops[j]?:=fun j hj=>by
  rw[Array.getElem?_extract];have:j<min p ops.size:=by omega
  simp[this]
 refine wpOps_glueG (ops':=ops.extract 0 p) (List.range' k (p-k)) (fun j hj=>?_) a w ?_
 .have hj':j<p:=by simp at hj;omega
  have hjs:j<ops.size:=by omega
  refine⟨ops[j],by simp[hjs],by rw[hlook j hj'];simp[hjs],fun tm=>?_⟩;have h5:=List.all_eq_true.1 hg ops[j] (by rw[List.mem_take_iff_getElem];exact⟨j,by simp;omega,by simp⟩);unfold Region.wanted;cases hgu:ops[j].guard with
  | none=>rfl
  | some g =>
   obtain⟨q,want⟩:=g;rw[hgu] at h5;have hq:q<p:=by simpa using h5
   simp only;unfold yielded;rw[hlook q hq]
 have hmem:∀o,o∈(ops.extract 0 p).toList.drop k->o∈ops:=fun o ho=>by
  have:=List.mem_of_mem_drop ho
  rw[Array.toList_extract,List.extract_eq_take_drop] at this;simpa using List.mem_of_mem_take this
 have:=aops_sound (ops:=ops.extract 0 p) (G0:=G0) (w0:=w0) (K:=Seg P cx ops p K) (Q:=fun e a' w'=>match e with|.normal=>wpOps P ops Q (List.range' p (ops.size-p)) a' w'|e=>Q e a' w')
  (dstOk_spec (regOk_two hok).2) hnb (regOk_two hok).1 (fun S1 a1 w1 G1 hK hr1 hl1=>hK G0 w0 Q hQ G1 a1 w1 hr1 hl1) ((ops.extract 0 p).toList.drop k) k S a w G rfl (fun o ho=>pend_no (noAl_spec hna (hmem o ho))) hr hl (fOps_false _ _ h)
 have hlen:((ops.extract 0 p).toList.drop k).length=p-k:=by simp;omega
 rw[hlen] at this;exact this
theorem AL.seg{cx:Cx}{nt0 id:Nat}{ops:Array Oper}{S:AS}{K:Exit->AS->Prop}{r:List CI}(h:Seg P cx ops 0 (AL P cx nt0 K r) S):AL P cx nt0 K (.c (.region id ops false)::r) S:=by
 simp only[AL];intro G0 w0 he hn G a w hr hl;refine wp_region ?_;rw[List.range_eq_range'];exact h G0 w0 _ (fun S' a' w' G' q1 q2 q3=>⟨S',G',q1,q2,q3⟩) G a w hr hl
variable {P:Program}
theorem Seg.opn{cx:Cx}{ops:Array Oper}{k nt:Nat}{K:AS->Prop}{l l':List (Nat × AV)}{out:Bxs}{loc loc':List (Nat × List (List AV))}{tok:Nat->Bool}(sz:Nat)(hl:CvL (OpTo nt sz) l l')(hb:CvB (OpTo nt sz) loc loc')(h:Seg P cx ops k K ⟨tl l',lb cx.base out loc',upd tok nt true,nt+1⟩):Seg P cx ops k K ⟨tl l,lb cx.base out loc,tok,nt⟩:=by
 intro G0 w0 Q hQ G a w hS hL;have hm:=hS.mem;have hgnt:G.nt=nt:=hm.nt
 have hle:=Le.newtok (G:=G) (w:=w) none;have hm':=hm.newtok none (fun g h=>by cases h)
 have h1:nt<(G.newtok none).nt:=by simp only[Gh.newtok];omega
 have h2:(G.newtok none).tk nt=some none:=by simp only[Gh.newtok];rw[<-hgnt,uS]
 refine h G0 w0 Q hQ (G.newtok none) a w ⟨hS.defers,hS.size,fun i=>(hl.at .bot i).rv h1 h2 ((hS.tmps i).mono hle),hm'.rows (fun x y v h hr=>h.rv h1 h2 hr) hb⟩ ?_;refine hL.step ⟨hle,fun k hkb hg=>⟨hg,?_⟩⟩;simp only;rw[lO hkb,lO hkb]
structure Mdl where
 next:List (List Int)
 prev:List (List Int)
 atoms:List (ByteArray × List Bool)
def inR(n:Nat)(k:Int):Prop:=0<=k/\k<n
structure Mdl.Ok (m:Mdl) (n:Nat):Prop where
 pos:0<n
 le:n<=300
 next:m.next.length=n
 prev:m.prev.length=n
 nextR:∀r∈m.next,∀k∈r,inR n k
 prevR:∀r∈m.prev,∀k∈r,inR n k
 nextL:∀r∈m.next,r.length<=n
 prevL:∀r∈m.prev,r.length<=n
 atoms:∀a∈m.atoms,a.2.length=n
def notR(l:List Bool):List Bool:=l.map fun b=>!b
def allR(n:Nat):List Bool:=notR (List.replicate n false)
@[simp] theorem notR_len(l:List Bool):(notR l).length=l.length:=by simp[notR]
@[simp] theorem allR_len(n:Nat):(allR n).length=n:=by simp[allR]
def someR(nx:List (List Int))(l:List Bool):List Bool:=nx.map fun r=>r.any fun k=>l.getD k.toNat false
@[simp] theorem someR_len(nx:List (List Int))(l:List Bool):(someR nx l).length=nx.length:=by simp[someR]
def bfsS(f:List Bool)(s:List Bool × List Int)(i:Int):List Bool × List Int:=if s.1.getD i.toNat false=false/\f.getD i.toNat false=true then (s.1.set i.toNat true,s.2++[i]) else s
def bfs(pv:List (List Int))(f:List Bool):Nat->List Bool->List Int->List Bool
 | _,out,[]=>out
 | 0,out,_::_=>out
 | n+1,out,k::q=>bfs pv f n ((pv.getD k.toNat []).foldl (bfsS f) (out,q)).1 ((pv.getD k.toNat []).foldl (bfsS f) (out,q)).2
def bfM(s:List Bool × List Int):Nat:=s.1.count false+s.2.length
def trueIx(g:List Bool):List Int:=((List.range g.length).filter fun i=>g.getD i false).map fun (i:Nat)=>(i:Int)
def untilR(pv:List (List Int))(f g:List Bool):List Bool:=bfs pv f g.length g (trueIx g)
theorem count_set{l:List Bool}:∀{i:Nat} (h:i<l.length),l[i]=false->(l.set i true).count false+1=l.count false:=by
 induction l with
 | nil=>intro i h;simp at h
 | cons b l ih =>
  intro i h he;cases i with
  | zero=>simp at he;subst he;simp
  | succ i =>
   simp at he h;have:=ih h he
   simp[List.count_cons];omega
theorem bfsS_m{f:List Bool}{s:List Bool × List Int}{i:Int}(h:inR s.1.length i):bfM (bfsS f s i)=bfM s/\(bfsS f s i).1.length=s.1.length:=by
 unfold bfsS;split
 .rename_i hc;have hi:i.toNat<s.1.length:=by have:=h.1;have:=h.2;omega
  have hg:s.1[i.toNat]=false:=by simpa[hi] using hc.1
  have:=count_set hi hg
  simp[bfM];omega
 .exact⟨rfl,rfl⟩
theorem bfsF_m{f:List Bool}:∀(r:List Int) (s:List Bool × List Int),(∀k∈r,inR s.1.length k)->bfM (r.foldl (bfsS f) s)=bfM s/\(r.foldl (bfsS f) s).1.length=s.1.length
 | [],s,_=>⟨rfl,rfl⟩
 | i::r,s,h=>by
  obtain⟨h1,h2⟩:=bfsS_m (f:=f) (h i (by simp));obtain⟨k1,k2⟩:=bfsF_m r (bfsS f s i) (fun k hk=>by rw[h2];exact h k (by simp[hk]));exact⟨k1.trans h1,k2.trans h2⟩
theorem bfs_nil(pv:List (List Int))(f:List Bool)(n:Nat)(out:List Bool):bfs pv f n out []=out:=by cases n<;>rfl
theorem count_tf:∀l:List Bool,l.count false+l.count true=l.length
 | []=>rfl
 | b::l=>by have:=count_tf l;cases b<;>simp<;>omega
theorem trueIx_len(g:List Bool):bfM (g,trueIx g)=g.length:=by
 have h:∀g:List Bool,((List.range g.length).filter fun i=>g.getD i false).length=g.count true:=by
  intro g;induction g with
  | nil=>rfl
  | cons b g ih =>
   rw[List.length_cons,List.range_succ_eq_map,List.filter_cons,List.filter_map];have:(((fun i=>(b::g).getD i false) ∘ Nat.succ):Nat->Bool)=fun i=>g.getD i false:=by funext i;simp
   rw[this];cases b<;>simpa using ih
 have:=count_tf g
 simp only[bfM,trueIx,List.length_map,h];exact this
def trueTo(g:List Bool)(i:Nat):List Int:=((List.range i).filter fun i=>g.getD i false).map fun (i:Nat)=>(i:Int)
theorem trueTo_succ{g:List Bool}{i:Nat}(h:i<g.length):trueTo g (i+1)=if g[i]=true then trueTo g i++[(i:Int)] else trueTo g i:=by
 unfold trueTo;rw[List.range_succ,List.filter_append,List.map_append];have:g.getD i false=g[i]:=by simp[h]
 simp only[List.filter_cons,List.filter_nil,this];cases g[i]<;>simp
theorem trueTo_all(g:List Bool):trueTo g g.length=trueIx g:=rfl
theorem trueTo_in{g:List Bool}{i:Nat}(h:i<=g.length):∀k∈trueTo g i,inR g.length k:=by
 intro k hk;obtain⟨j,hj,rfl⟩:=List.mem_map.1 hk;have:=List.mem_range.1 (List.mem_filter.1 hj).1
 exact⟨by omega,by omega⟩
theorem trueTo_len(g:List Bool)(i:Nat):(trueTo g i).length<=i:=by
 unfold trueTo;rw[List.length_map];have:=List.length_filter_le (fun i=>g.getD i false) (List.range i)
 simpa using this
theorem bfsS_in{f:List Bool}{s:List Bool × List Int}{i:Int}{n:Nat}(hi:inR n i)(h:∀k∈s.2,inR n k):∀k∈(bfsS f s i).2,inR n k:=by
 unfold bfsS;split
 .intro k hk;rcases List.mem_append.1 hk with hk|hk
  .exact h k hk
  .simp at hk;subst hk;exact hi
 .exact h
def alwS(nx:List (List Int))(out:List Bool):List Bool:=List.zipWith (fun a b=>a&&b) out (someR nx out)
def alwN(nx:List (List Int)):Nat->List Bool->List Bool
 | 0,out=>out
 | n+1,out=>if alwS nx out=out then out else alwN nx n (alwS nx out)
def alwaysR(nx:List (List Int))(f:List Bool):List Bool:=alwN nx (f.count true+1) f
theorem count_and:∀(a b:List Bool),a.length=b.length->(List.zipWith (fun a b=>a&&b) a b).count true<=a.count true/\((List.zipWith (fun a b=>a&&b) a b)≠a->(List.zipWith (fun a b=>a&&b) a b).count true<a.count true)
 | [],[],_=>⟨nr _,fun h=>absurd rfl h⟩
 | x::a,y::b,h=>by
  obtain⟨h1,h2⟩:=count_and a b (by simpa using h);simp only[List.zipWith_cons_cons,List.count_cons];cases x<;>cases y<;>simp at h1 h2 ⊢
  .exact⟨h1,h2⟩
  .exact⟨h1,h2⟩
  .exact⟨by omega,by omega⟩
  .exact⟨h1,h2⟩
 | [],_::_,h=>by simp at h
 | _::_,[],h=>by simp at h
def auS(nx:List (List Int))(f:List Bool)(out:List Bool)(i:Nat):List Bool:=if out.getD i false=true∨f.getD i false=false∨((nx.getD i []).any fun k=>!(out.getD k.toNat false))=true then out else out.set i true
def auP(nx:List (List Int))(f:List Bool)(out:List Bool)(i:Nat):List Bool:=(List.range i).foldl (auS nx f) out
def auN(nx:List (List Int))(f:List Bool):Nat->List Bool->List Bool
 | 0,out=>out
 | n+1,out=>if auP nx f out out.length=out then out else auN nx f n (auP nx f out out.length)
def allUntilR(nx:List (List Int))(f g:List Bool):List Bool:=auN nx f (g.count false+1) g
theorem auP_succ(nx:List (List Int))(f out:List Bool)(i:Nat):auP nx f out (i+1)=auS nx f (auP nx f out i) i:=by simp[auP,List.range_succ]
theorem auS_len(nx:List (List Int))(f out:List Bool)(i:Nat):(auS nx f out i).length=out.length:=by unfold auS;split<;>simp
theorem auP_len(nx:List (List Int))(f out:List Bool):∀i,(auP nx f out i).length=out.length
 | 0=>rfl
 | i+1=>by rw[auP_succ,auS_len,auP_len nx f out i]
theorem auS_count(nx:List (List Int))(f out:List Bool){i:Nat}(h:i<out.length):(auS nx f out i=out)∨(auS nx f out i).count false+1=out.count false:=by
 unfold auS;split
 .exact .inl rfl
 .rename_i hc;refine .inr (count_set h ?_);have:¬out.getD i false=true:=fun e=>hc (.inl e)
  simpa[h] using this
def atomR(a:List (ByteArray × List Bool))(s:ByteArray):List Bool:=match a.find? fun e=>decide (e.1=s) with
 | some e=>e.2
 | none=>[]
def zipB(k:Int)(a b:List Bool):List Bool:=List.zipWith (fun x y=>if k=3 then x&&y else x||y) a b
mutual
def Fo.holds(m:Mdl):Fo->List Bool
 | .mk k s c=>if k=1 then atomR m.atoms s else
  let l:=Fo.holdsL m c
  let x:=l.headD []
  let y:=l.tail.headD []
  if k=2 then notR x else if k=3∨k=4 then l.tail.foldl (zipB k) x else if k=5 then someR m.next x else if k=9 then notR (someR m.next (notR x))
  else if k=6 then untilR m.prev (allR x.length) x else if k=11 then notR (untilR m.prev (allR x.length) (notR x)) else if k=7 then alwaysR m.next x
  else if k=10 then notR (alwaysR m.next (notR x)) else if k=8 then untilR m.prev x y else allUntilR m.next x y
def Fo.holdsL(m:Mdl):List Fo->List (List Bool)
 | []=>[]
 | x::r=>Fo.holds m x::Fo.holdsL m r
end
abbrev rBo(xs:List Bool):List (List D):=xs.map fun b=>[D.raw (.bool b)]
abbrev bools(xs:List Bool):D:=.sl 1 (rBo xs)
theorem rep_rBo(n:Nat):List.replicate n [AV.d (.raw (.bool false))]=rowsB (List.replicate n false):=by simp[rowsB]
set_option maxRecDepth 100000 in
theorem cloneB_c(xs:List Bool)(hx:xs≠[])(hl:xs.length<=1000000)(tok:Tks)(nt:Nat):DCall prog 91 [.d (bools xs)] tok nt (.stk (nt+1) 1 (rBo xs)) (upd (upd (upd tok nt true) nt false) (nt+1) true) (nt+2):=by
 intro box nb;refine sI func91 ntmps91 fun Hb Ht=>?_
 refine sR ?_;simp;refine sR ?_;simp;refine⟨?_,fun h=>absurd h hx⟩;refine sC ?_;simp;refine sN ?_;refine AL.seg ?_;refine Seg.pre 1 (by decide) (by decide) (nr _) (by kernel_rfl) (by kernel_rfl) (by kernel_rfl) rfl rfl ?_;simp;refine Seg.opn 1 (l':=[(5,.stk nt 1 []),(4,.bot),(3,.d (bools xs)),(2,.bot),(0,.d (bools xs))]) (loc':=[]) (by simp[CvL]) trivial ?_;refine Seg.fin (nr _) (by kernel_rfl) (by kernel_rfl) rfl ?_;simp;refine⟨⟨by omega,uS _ _ _⟩,?_⟩;repeat first|simp|refine sR ?_
 refine sT ?_;try simp only[AU]
 exact⟨by simp,(Fin.own (av:=.stk (nt+1) 1 (rBo xs)) (by simp[resAs,resA];rfl) Hb rfl (by omega) (by simp)).mono fun v m hq=>⟨hq.1,hq.2⟩⟩
def ntP(l:List Bool)(i:Nat):List Bool:=(notR l).take i++List.replicate (l.length-i) false
theorem ntP_zero(l:List Bool):ntP l 0=List.replicate l.length false:=by simp[ntP]
theorem ntP_all(l:List Bool):ntP l l.length=notR l:=by simp[ntP];exact List.take_of_length_le (by simp)
theorem ntP_len{l:List Bool}{i:Nat}(h:i<=l.length):(ntP l i).length=l.length:=by simp[ntP];omega
theorem take_set{α:Type}{l:List α}{i n:Nat}{d x:α}(h:i<l.length)(hn:n=l.length)(hx:l[i]=x):(l.take i++List.replicate (n-i) d).set i x=l.take (i+1)++List.replicate (n-(i+1)) d:=by
 subst hn;have hl:(l.take i).length=i:=by simp;omega
 rw[List.set_append_right _ _ (by omega),hl,Nat.sub_self,show l.length-i=(l.length-(i+1))+1 by omega,List.replicate_succ,List.set_cons_zero,List.take_succ_eq_append_getElem h,hx];simp
theorem ntP_set{l:List Bool}{i:Nat}(h:i<l.length):(ntP l i).set i (!l[i])=ntP l (i+1):=take_set (by simpa using h) (by simp) (by simp[notR])
def stNtT(l:List Bool)(nb:Nat)(box:Bxs)(tok:Tks)(nt:Nat)(i:Nat):AS :=
 ⟨tl [(11,I i),(10,I l.length),(9,.d (bools l)),(3,.msl (nb+8) 0 l.length 1)],lb nb box [(8,rowsB (ntP l i))],tok,nt⟩
set_option maxRecDepth 100000 in
theorem notT_c(l:List Bool)(hl:l.length<=1000000):DC 157 [.d (bools l)] (.d (bools (notR l))):=by
 intro tok nt box nb;refine sI func157 ntmps157 fun Hb Ht=>?_
 repeat first|simp|refine sR ?_
 refine⟨by omega,?_⟩;repeat first|simp[rep_rBo]|refine sR ?_
 refine sN ?_;refine sL (stNtT l nb box tok nt) (fun i=>i<=l.length) (fun i=>l.length-i) 0 (Nat.zero_le _) (wM (nr _) rfl (by simp[ToL,lk]) (by simp[BoxL,lk,ntP_zero])) ?_;rintro i S hi hS;simp only[stNtT] at hS;subst hS;have hw:=sW (i:=i) (by omega);repeat first|simp|refine sR ?_|refine sC ?_
 refine⟨fun hlt=>?_,fun hge=>?_⟩
 .have hset:=ntP_set hlt;have hpl:=ntP_len hi;repeat first|simp[hlt,hpl]|refine sR ?_
  repeat first|simp[hlt,hpl,hset,hw]|refine sR ?_
  refine sE ?_;exact⟨i+1,hlt,by omega,wkA⟩
 .refine sX ?_;simp only[AU,↓reduceIte];have:i=l.length:=by omega
  subst this;rw[ntP_all];obtain⟨R,hR⟩:∃R,notR l=R:=⟨_,rfl⟩
  have hRl:l.length=R.length:=by rw[<-hR];simp
  rw[hR,hRl];refine AL.weak (Weaks.frz (l':=[(3,.d (bools R))]) (loc':=[]) 8 1 (rBo R) (nr _) rfl (by simp[lk,rowsB_eq]) (by simp[lk]) (fun e he=>by obtain⟨b,_,rfl⟩:=List.mem_map.1 he;rfl) (by simp[ToL]) (by simp[BoxL])) ?_;repeat first|simp|refine sR ?_
  refine sT (sH Hb Ht ?_);simp
def stNtM(l:List Bool)(k nb:Nat)(box:Bxs)(tok:Tks)(nt:Nat)(i:Nat):AS :=
 ⟨tl [(11,I i),(10,I l.length),(9,.msl k 0 l.length 1),(3,.msl (nb+8) 0 l.length 1)],lb nb box [(8,rowsB (ntP l i))],tok,nt⟩
set_option maxRecDepth 100000 in
theorem notTm_c(l:List Bool)(hl:l.length<=1000000)(box0:Bxs)(k:Nat)(hk0:box0 k=some (rowsB l))(tok:Tks)(nt:Nat):RCall prog 157 [.msl k 0 l.length 1] box0 tok nt (.d (bools (notR l))) tok nt:=by
 intro box nb he;have hk:=he _ _ hk0;refine sI func157 ntmps157 fun Hb Ht=>?_
 have hkn:=key_lt Hb hk;repeat first|simp|refine sR ?_
 refine⟨by omega,?_⟩;repeat first|simp[rep_rBo]|refine sR ?_
 refine sN ?_;refine sL (stNtM l k nb box tok nt) (fun i=>i<=l.length) (fun i=>l.length-i) 0 (Nat.zero_le _) (wM (nr _) rfl (by simp[ToL,lk];exact .same (.msl (by rw[lO hkn,hk];simp))) (by simp[BoxL,lk,ntP_zero])) ?_;rintro i S hi hS;simp only[stNtM] at hS;subst hS;have hw:=sW (i:=i) (by omega);repeat first|simp|refine sR ?_|refine sC ?_
 refine⟨fun hlt=>?_,fun hge=>?_⟩
 .have hset:=ntP_set hlt;have hpl:=ntP_len hi;repeat first|simp[hlt,hpl,lO hkn,hk]|refine sR ?_
  repeat first|simp[hlt,hpl,hset,hw,lO hkn,hk]|refine sR ?_
  refine sE ?_;exact⟨i+1,hlt,by omega,wM (nr _) rfl (by simp[ToL,lk];exact .same (.msl (by rw[lO hkn,hk];simp))) (by simp[BoxL,lk])⟩
 .refine sX ?_;simp only[AU,↓reduceIte];have:i=l.length:=by omega
  subst this;rw[ntP_all];obtain⟨R,hR⟩:∃R,notR l=R:=⟨_,rfl⟩
  have hRl:l.length=R.length:=by rw[<-hR];simp
  rw[hR,hRl];refine AL.weak (Weaks.frz (l':=[(3,.d (bools R))]) (loc':=[]) 8 1 (rBo R) (nr _) rfl (by simp[lk,rowsB_eq]) (by simp[lk]) (fun e he=>by obtain⟨b,_,rfl⟩:=List.mem_map.1 he;rfl) (by simp[ToL]) (by simp[BoxL])) ?_;repeat first|simp|refine sR ?_
  refine sT (sH Hb Ht ?_);simp
abbrev lls(l:List (List Int)):D:=.sl 1 (l.map fun r=>[ints r])
abbrev Mdl.row(m:Mdl):List AV:=[.d (lls m.next),.d (lls m.prev),.mpd (m.atoms.map fun a=>(a.1,rBo a.2))]
abbrev Mdl.av(m:Mdl):AV:=.agg m.row
def smP(nx:List (List Int))(l:List Bool)(i:Nat):List Bool:=(someR nx l).take i++List.replicate (nx.length-i) false
theorem smP_zero(nx:List (List Int))(l:List Bool):smP nx l 0=List.replicate nx.length false:=by simp[smP]
theorem smP_all(nx:List (List Int))(l:List Bool):smP nx l nx.length=someR nx l:=by simp[smP];exact List.take_of_length_le (by simp)
theorem smP_len{nx:List (List Int)}{l:List Bool}{i:Nat}(h:i<=nx.length):(smP nx l i).length=nx.length:=by simp[smP];omega
def anyTo(l:List Bool)(r:List Int)(j:Nat):Bool:=(r.take j).any fun k=>l.getD k.toNat false
def smJ(nx:List (List Int))(l:List Bool)(i:Nat)(r:List Int)(j:Nat):List Bool:=(smP nx l i).set i (anyTo l r j)
theorem smJ_zero{nx:List (List Int)}{l:List Bool}{i:Nat}(r:List Int)(h:i<nx.length):smJ nx l i r 0=smP nx l i:=by
 unfold smJ anyTo smP;have hl:((someR nx l).take i).length=i:=by simp;omega
 rw[List.set_append_right _ _ (by omega),hl,Nat.sub_self,show nx.length-i=(nx.length-(i+1))+1 by omega,List.replicate_succ,List.set_cons_zero];simp
theorem smJ_all{nx:List (List Int)}{l:List Bool}{i:Nat}(h:i<nx.length):smJ nx l i nx[i] nx[i].length=smP nx l (i+1):=by
 unfold smJ anyTo smP;rw[List.take_length];exact take_set (by simpa using h) (by simp) (by simp[someR])
theorem smJ_at{nx:List (List Int)}{l:List Bool}{i:Nat}{r:List Int}{j:Nat}(h:i<nx.length):∀(h2:i<(smJ nx l i r j).length),(smJ nx l i r j)[i]=anyTo l r j:=fun h2=>by simp[smJ]
theorem smJ_len{nx:List (List Int)}{l:List Bool}{i:Nat}{r:List Int}{j:Nat}(h:i<=nx.length):(smJ nx l i r j).length=nx.length:=by simp[smJ,smP_len h]
theorem smJ_set{nx:List (List Int)}{l:List Bool}{i:Nat}{r:List Int}{j:Nat}(hj:j<r.length)(h:r[j].toNat<l.length):(smJ nx l i r j).set i (anyTo l r j||l[r[j].toNat])=smJ nx l i r (j+1):=by
 have:anyTo l r (j+1)=(anyTo l r j||l[r[j].toNat]):=by
  unfold anyTo;rw[List.take_succ_eq_append_getElem hj,List.any_append];simp[h]
 unfold smJ;rw[List.set_set,this]
def stSm(m:Mdl)(l:List Bool)(nb:Nat)(box:Bxs)(tok:Tks)(nt:Nat)(i:Nat):AS :=
 ⟨tl [(16,I i),(15,I m.next.length),(14,.d (lls m.next)),(5,.msl (nb+12) 0 l.length 1),(1,.d (bools l)),(2,.ptr (nb+2) 0 0)],lb nb box [(12,rowsB (smP m.next l i)),(2,[m.row])],tok,nt⟩
def stSmJ(m:Mdl)(l:List Bool)(i:Nat)(r:List Int)(nb:Nat)(box:Bxs)(tok:Tks)(nt:Nat)(j:Nat):AS :=
 ⟨tl [(23,I j),(22,I r.length),(21,.d (ints r)),(6,I i),(16,I i),(15,I m.next.length),(14,.d (lls m.next)),(5,.msl (nb+12) 0 l.length 1),(1,.d (bools l)),(2,.ptr (nb+2) 0 0)],lb nb box [(12,rowsB (smJ m.next l i r j)),(2,[m.row])],tok,nt⟩
set_option maxRecDepth 100000 in
theorem someT_c(m:Mdl)(l:List Bool)(hm:m.Ok l.length):DC 158 [m.av,.d (bools l)] (.d (bools (someR m.next l))):=by
 intro tok nt box nb;have hle:=hm.le;have hnl:=hm.next;refine sI func158 ntmps158 fun Hb Ht=>?_
 repeat first|simp|refine sR ?_
 refine⟨by omega,?_⟩;repeat first|simp[rep_rBo]|refine sR ?_
 refine sN ?_;refine sL (stSm m l nb box tok nt) (fun i=>i<=m.next.length) (fun i=>m.next.length-i) 0 (Nat.zero_le _) (wM (nr _) rfl (by simp[ToL,lk]) (by simp[BoxL,lk,smP_zero,hnl])) ?_;rintro i S hi hS;simp only[stSm] at hS;subst hS;have hw:=sW (i:=i) (by omega);repeat first|simp|refine sR ?_|refine sC ?_
 refine⟨fun hlt=>?_,fun hge=>?_⟩
 .obtain⟨r,hr⟩:∃r,m.next[i]=r:=⟨_,rfl⟩
  have hrR:=hm.nextR _ (List.getElem_mem hlt);have hrL:=hm.nextL _ (List.getElem_mem hlt);have hz:=smJ_zero (l:=l) (m.next[i]) hlt;have hall:=smJ_all (l:=l) hlt;rw[hr] at hrR hrL hz hall;repeat first|simp[hlt,hr]|refine sR ?_
  refine sN ?_;refine sL (stSmJ m l i r nb box tok nt) (fun j=>j<=r.length) (fun j=>r.length-j) 0 (Nat.zero_le _) (wM (nr _) rfl (by simp[ToL,lk]) (by simp[BoxL,lk,hz])) ?_;rintro j S hj hS;simp only[stSmJ] at hS;subst hS;have hw2:=sW (i:=j) (by omega);repeat first|simp|refine sR ?_|refine sC ?_
  refine⟨fun hlt2=>?_,fun hge2=>?_⟩
  .obtain⟨hk1,hk2⟩:=hrR _ (List.getElem_mem hlt2);have hk3:r[j].toNat<l.length:=by omega
   have hset:=smJ_set (nx:=m.next) (l:=l) (i:=i) hlt2 hk3;have hjl:=smJ_len (l:=l) (r:=r) (j:=j) hi;have hja:=smJ_at (l:=l) (r:=r) (j:=j) hlt;have hil:i<(smJ m.next l i r j).length:=by omega
   have hja:=hja hil;have hil2:i<l.length:=by omega
   have hk4:r[j]<(l.length:Int):=by omega
   cases e:anyTo l r j
   .rw[e,Bool.false_or] at hset;rw[e] at hja;repeat first|simp[hlt2,hil,hil2,hja,hk1,hk3,hk4,hset,hw2]|refine sR ?_
    refine sE ?_;exact⟨j+1,hlt2,by omega,wkA⟩
   .rw[e,Bool.true_or] at hset;rw[e] at hja;repeat first|simp[hlt2,hil,hil2,hja,hset,hw2]|refine sR ?_
    refine sE ?_;exact⟨j+1,hlt2,by omega,wkA⟩
  .refine sX ?_;simp only[AU,↓reduceIte];have:j=r.length:=by omega
   subst this;rw[hall];repeat first|simp[hw]|refine sR ?_
   refine sE ?_;exact⟨i+1,hlt,by omega,wkA⟩
 .refine sX ?_;simp only[AU,↓reduceIte];have:i=m.next.length:=by omega
  subst this;rw[smP_all];obtain⟨R,hR⟩:∃R,someR m.next l=R:=⟨_,rfl⟩
  have hRl:l.length=R.length:=by rw[<-hR];simp;omega
  rw[hR,hRl];refine AL.weak (Weaks.frz (l':=[(5,.d (bools R))]) (loc':=[]) 12 1 (rBo R) (nr _) rfl (by simp[lk,rowsB_eq]) (by simp[lk]) (fun e he=>by obtain⟨b,_,rfl⟩:=List.mem_map.1 he;rfl) (by simp[ToL,lk,lb_at]) (by simp[BoxL])) ?_;repeat first|simp|refine sR ?_
  refine sT (sH Hb Ht ?_);simp
theorem allT_c(n:Nat)(hl:n<=1000000):DC 160 [I n] (.d (bools (allR n))):=by
 intro tok nt box nb;unfold allR;refine sI func160 ntmps160 fun Hb Ht=>?_
 repeat first|simp[rep_rBo]|refine sR ?_
 refine⟨by omega,?_⟩;have h:=notTm_c (List.replicate n false) (by simpa using hl) (lb nb box [(4,rowsB (List.replicate n false))]) (nb+4) (by simp[lb_at,lk]) tok nt;rw[List.length_replicate] at h;refine Stop.of_r h ?_;repeat first|simp|refine sR ?_
 refine sT (sH Hb Ht ?_);simp
def firstX(f:Nat->Int):Nat->Nat
 | 0=>0
 | n+1=>if firstE f n=0 then n else firstX f n
theorem firstX_stop{f:Nat->Int}{i:Nat}(h0:firstE f i=0)(h:f i≠0):∀n,i<n->firstX f n=i
 | 0,hn=>by omega
 | n+1,hn=>by
  simp only[firstX];by_cases e:i=n
  .subst e;rw[if_pos h0]
  .rw[firstE_stop h0 h n (by omega),if_neg h,firstX_stop h0 h n (by omega)]
structure Hs where
 g:Gr
 vals:List (List Int)
abbrev Hs.av(h:Hs):AV:=.agg [.d (ints h.g.nodes),.d (AM.edges h.g.edges),.d (lls h.vals)]
def hndE(t:Ty)(A:Int->List At)(h:Hs)(i:Nat):Int:=hnodE t (A (h.g.nodes.getD i 0)) (h.g.nodes.getD i 0) (h.vals.getD i [])
def hedE(t:Ty)(h:Hs)(i:Nat):Int:=if (t.edges.length:Int)<=(h.g.edges.getD i default).ty then 6 else if fitB t (h.g.edges.getD i default).ty (h.g.nodes.getD (h.g.edges.getD i default).fr.toNat 0) (h.g.nodes.getD (h.g.edges.getD i default).to.toNat 0)=true then 0 else 13
def hostR(t:Ty)(A:Int->List At)(h:Hs):Int × Int :=
 if tyE t≠0 then (-1,tyE t) else if vG h.g≠0 then (-1,vG h.g) else if h.vals.length≠h.g.nodes.length then (-1,20)
 else if firstE (hndE t A h) h.g.nodes.length≠0 then ((firstX (hndE t A h) h.g.nodes.length:Nat),firstE (hndE t A h) h.g.nodes.length)
 else if firstE (hedE t h) h.g.edges.length≠0 then ((firstX (hedE t h) h.g.edges.length:Nat),firstE (hedE t h) h.g.edges.length) else (-1,0)
def stHvN(t:Ty)(h:Hs)(nb:Nat)(box:Bxs)(tok:Tks)(nt:Nat)(i:Nat):AS :=
 ⟨tl [(38,.d (ints h.g.nodes)),(39,I h.g.nodes.length),(40,I i),(3,.ptr (nb+3) 0 0),(2,.ptr (nb+2) 0 0)],lb nb box [(3,[[.d (ints h.g.nodes),.d (AM.edges h.g.edges),.d (lls h.vals)]]),(2,[[.d (nts t.nodes),.d (ets t.edges)]])],tok,nt⟩
def stHvE(t:Ty)(h:Hs)(nb:Nat)(box:Bxs)(tok:Tks)(nt:Nat)(i:Nat):AS :=
 ⟨tl [(60,.d (AM.edges h.g.edges)),(61,I h.g.edges.length),(62,I i),(3,.ptr (nb+3) 0 0),(2,.ptr (nb+2) 0 0)],lb nb box [(3,[[.d (ints h.g.nodes),.d (AM.edges h.g.edges),.d (lls h.vals)]]),(2,[[.d (nts t.nodes),.d (ets t.edges)]])],tok,nt⟩
set_option maxRecDepth 100000 in
theorem hostValid_c(t:Ty)(ht:t.Fit)(hM:∀i,(t.nd i).own.length<=1000)(A:Int->List At)(hA:∀k,(A k).length<=1000000)(h:Hs)(hg:h.g.Fit)(hv:h.vals.length<=1000000)(tok:Tks)(nt:Nat)(hat:tyE t=0->∀k:Int,0<=k->k<(t.nodes.length:Int)->(t.nd k.toNat).abs=false->DCall prog 265 [t.av,I k] tok nt (.tup [.d (atts (A k)),I 0]) tok nt):
  DCall prog 154 [t.av,h.av] tok nt (.tup [I (hostR t A h).1,I (hostR t A h).2]) tok nt:=by
 intro box nb;obtain⟨Res,hRes⟩:∃Res,hostR t A h=Res:=⟨_,rfl⟩
 rw[hRes];unfold hostR at hRes;have hty:=valid_c4 t ht hM;have hgv:=graphValid_c h.g hg;have hgn:=hg.n;have hge:=hg.e;refine sI func154 ntmps154 fun Hb Ht=>?_
 repeat first|simp|refine sR ?_
 refine sD (hty _ _) ?_;simp;by_cases c1:tyE t=0
 .rw[if_neg (fun e=>e c1)] at hRes;have hat:=hat c1;try (simp[c1])
  repeat (first|(refine sR ?_;simp[c1])|(refine sC ?_;simp[c1])|(refine sX ?_;simp only[AU,↓reduceIte]))
  refine sD (hgv _ _) ?_;simp;by_cases c2:vG h.g=0
  .rw[if_neg (fun e=>e c2)] at hRes;by_cases c3:h.vals.length=h.g.nodes.length
   .have b3:((h.vals.length:Int) != (h.g.nodes.length:Int))=false:=by simp[c3]
    rw[if_neg (fun e=>e c3)] at hRes;have hn0:∀x∈h.g.nodes,0<=x:=fun x hx=>by
     have:=(validG_types c2).2.1 x hx
     simp[withinB] at this;exact this.1
    have hed:=validG_edges c2;try (simp[c2,b3,c3])
    repeat (first|(refine sR ?_;simp[c2,b3,c3])|(refine sC ?_;simp[c2,b3,c3])|(refine sX ?_;simp only[AU,↓reduceIte]))
    refine sN ?_;refine sL (stHvN t h nb box tok nt) (fun i=>i<=h.g.nodes.length/\firstE (hndE t A h) i=0) (fun i=>h.g.nodes.length-i) 0 ⟨Nat.zero_le _,rfl⟩ wkA ?_;rintro i S ⟨hi,h0⟩ hS;simp only[stHvN] at hS;subst hS;have hw:=sW (i:=i) (by omega);repeat first|simp|refine sR ?_|refine sC ?_
    refine⟨fun hlt=>?_,fun hge2=>?_⟩
    .have hv1:i<h.vals.length:=by omega
     have hk0:=hn0 _ (List.getElem_mem hlt);have hnc:=hnode_c t (A h.g.nodes[i]) (hA _) h.g.nodes[i] hk0 h.vals[i] tok nt (fun e1 e2=>hat _ hk0 e1 e2);have hne:hndE t A h i=hnodE t (A h.g.nodes[i]) h.g.nodes[i] h.vals[i]:=by simp[hndE,hlt,hv1]
     rw[<-hne] at hnc;try (simp[hlt,hv1])
     repeat (first|(refine sR ?_;simp[hlt,hv1])|(refine sC ?_;simp[hlt,hv1])|(refine sX ?_;simp only[AU,↓reduceIte]))
     refine sD (hnc) ?_;simp;by_cases c4:hndE t A h i=0
     .try (simp[c4,hw])
      repeat (first|(refine sR ?_;simp[c4,hw])|(refine sC ?_;simp[c4,hw])|(refine sX ?_;simp only[AU,↓reduceIte]))
      refine sE ?_;exact⟨i+1,⟨hlt,by simp only[firstE,h0,↓reduceIte];exact c4⟩,by omega,wkA⟩
     .have b4:(hndE t A h i != 0)=true:=by simpa using c4
      have e1:=firstE_stop h0 c4 _ hlt;have e2:=firstX_stop h0 c4 _ hlt;rw[e1,e2,if_pos c4] at hRes;subst hRes;try (simp[c4,b4])
      repeat (first|(refine sR ?_;simp[c4,b4])|(refine sC ?_;simp[c4,b4])|(refine sX ?_;simp only[AU,↓reduceIte]))
      refine sT (sH Hb Ht ?_);simp
    .refine sX ?_;simp only[AU,↓reduceIte];have:i=h.g.nodes.length:=by omega
     subst this;rw[if_neg (fun e=>e h0)] at hRes;try (simp)
     repeat (first|(refine sR ?_;simp)|(refine sC ?_;simp)|(refine sX ?_;simp only[AU,↓reduceIte]))
     refine sN ?_;refine sL (stHvE t h nb box tok nt) (fun i=>i<=h.g.edges.length/\firstE (hedE t h) i=0) (fun i=>h.g.edges.length-i) 0 ⟨Nat.zero_le _,rfl⟩ wkA ?_;rintro i S ⟨hi,h0e⟩ hS;simp only[stHvE] at hS;subst hS;have hw:=sW (i:=i) (by omega);repeat first|simp|refine sR ?_|refine sC ?_
     refine⟨fun hlt=>?_,fun hge2=>?_⟩
     .obtain⟨e1,e2,e3,e4⟩:=hed _ (List.getElem_mem hlt);have hde:hedE t h i=if (t.edges.length:Int)<=h.g.edges[i].ty then 6 else if fitB t h.g.edges[i].ty (h.g.nodes.getD h.g.edges[i].fr.toNat 0) (h.g.nodes.getD h.g.edges[i].to.toNat 0)=true then 0 else 13:=by simp[hedE,hlt]
      repeat first|simp[hlt]|refine sR ?_
      generalize h.g.edges[i]=x at *;have f1:x.fr.toNat<h.g.nodes.length:=by omega
      have f2:x.to.toNat<h.g.nodes.length:=by omega
      rw[show h.g.nodes.getD x.fr.toNat 0=h.g.nodes[x.fr.toNat] by simp[f1],show h.g.nodes.getD x.to.toNat 0=h.g.nodes[x.to.toNat] by simp[f2]] at hde;have hfc:=fits_c4 t ht x.ty h.g.nodes[x.fr.toNat] h.g.nodes[x.to.toNat];by_cases c5:(t.edges.length:Int)<=x.ty
      .have b5:decide ((t.edges.length:Int)<=x.ty)=true:=by simpa using c5
       rw[if_pos c5] at hde;have g1:=firstE_stop h0e (by rw[hde];decide) _ hlt;have g2:=firstX_stop h0e (by rw[hde];decide) _ hlt;rw[g1,g2,hde] at hRes;rw[if_pos (by decide)] at hRes;subst hRes;try (simp[c5,b5])
       repeat (first|(refine sR ?_;simp[c5,b5])|(refine sC ?_;simp[c5,b5])|(refine sX ?_;simp only[AU,↓reduceIte]))
       refine sT (sH Hb Ht ?_);simp
      .have b5:decide ((t.edges.length:Int)<=x.ty)=false:=by simpa using c5
       rw[if_neg c5] at hde;try (simp[c5,b5,e1,e2,e3,e4,f1,f2])
       repeat (first|(refine sR ?_;simp[c5,b5,e1,e2,e3,e4,f1,f2])|(refine sC ?_;simp[c5,b5,e1,e2,e3,e4,f1,f2])|(refine sX ?_;simp only[AU,↓reduceIte]))
       refine sD (hfc _ _) ?_;simp;cases e6:fitB t x.ty h.g.nodes[x.fr.toNat] h.g.nodes[x.to.toNat]
       .rw[e6] at hde;simp only[Bool.false_eq_true,↓reduceIte] at hde;have g1:=firstE_stop h0e (by rw[hde];decide) _ hlt;have g2:=firstX_stop h0e (by rw[hde];decide) _ hlt;rw[g1,g2,hde] at hRes;rw[if_pos (by decide)] at hRes;subst hRes;try (simp[e6])
        repeat (first|(refine sR ?_;simp[e6])|(refine sC ?_;simp[e6])|(refine sX ?_;simp only[AU,↓reduceIte]))
        refine sT (sH Hb Ht ?_);simp
       .rw[e6,if_pos rfl] at hde;try (simp[e6,hw])
        repeat (first|(refine sR ?_;simp[e6,hw])|(refine sC ?_;simp[e6,hw])|(refine sX ?_;simp only[AU,↓reduceIte]))
        refine sE ?_;exact⟨i+1,⟨hlt,by simp only[firstE,h0e,↓reduceIte];exact hde⟩,by omega,wkA⟩
     .refine sX ?_;simp only[AU,↓reduceIte];have:i=h.g.edges.length:=by omega
      subst this;rw[if_neg (fun e=>e h0e)] at hRes;subst hRes;try (simp)
      repeat (first|(refine sR ?_;simp)|(refine sC ?_;simp)|(refine sX ?_;simp only[AU,↓reduceIte]))
      refine sT (sH Hb Ht ?_);simp
   .have b3:((h.vals.length:Int) != (h.g.nodes.length:Int))=true:=by simpa using fun e=>c3 (by omega)
    rw[if_pos c3] at hRes;subst hRes;try (simp[c2,b3,c3])
    repeat (first|(refine sR ?_;simp[c2,b3,c3])|(refine sC ?_;simp[c2,b3,c3])|(refine sX ?_;simp only[AU,↓reduceIte]))
    refine sT (sH Hb Ht ?_);simp
  .have b2:(vG h.g != 0)=true:=by simpa using c2
   rw[if_pos c2] at hRes;subst hRes;try (simp[b2,c2])
   repeat (first|(refine sR ?_;simp[b2,c2])|(refine sC ?_;simp[b2,c2])|(refine sX ?_;simp only[AU,↓reduceIte]))
   refine sT (sH Hb Ht ?_);simp
 .have b1:(tyE t != 0)=true:=by simpa using c1
  rw[if_pos c1] at hRes;subst hRes;try (simp[b1,c1])
  repeat (first|(refine sR ?_;simp[b1,c1])|(refine sC ?_;simp[b1,c1])|(refine sX ?_;simp only[AU,↓reduceIte]))
  refine sT (sH Hb Ht ?_);simp
theorem cvB_refl0{R:AV->AV->Prop}(h:∀x,R x x):∀l:List (Nat × List (List AV)),CvB R l l
 | []=>trivial
 | (i,x)::l=>⟨rfl,⟨rfl,fun i h1 h2=>⟨rfl,fun j g1 g2=>h _⟩⟩,cvB_refl0 h l⟩
theorem attrsK_c(t:Ty)(ht:t.Fit)(hM:∀i,(t.nd i).own.length<=1000):∀(n i:Nat),i<n->i<t.nodes.length->(∀j,j<=i->(t.nd j).par<j)->∀(tok:Tks) (nt:Nat),∃tok' nt' u,((∀q,tok q=true->q<nt)->TK tok nt tok' nt' [.tok u]) /\
  DCall prog 212 [t.av,I i] tok nt (.stk u 4 ((atsL t i).map At.cells)) tok' nt'
 | 0,i,hi,_,_,_,_=>absurd hi (Nat.not_lt_zero _)
 | n+1,i,hi,hlt,hp,tok,nt=>by
  have hnd:=nd_at hlt;by_cases h0:0<=(t.nd i).par
  .have hpi:=hp i (nr _);obtain⟨tok1,nt1,o1,hk,hc⟩:=attrsK_c t ht hM n (t.nd i).par.toNat (by omega) (by omega) (fun j hj=>hp j (by omega)) tok nt;have hL:=atsL_up h0 (by omega);have hl1:=atsL_len hM (i+1) (t.nd i).par.toNat (by omega);have hl2:=hM i;have hb:((t.nd i).par.toNat+1)*1000<=1000*1000:=Nat.mul_le_mul_right _ (by have:=ht.n;omega)
   refine⟨_,_,nt1,fun h=>(hk h).app,?_⟩;rw[hL];rw[Int.toNat_of_nonneg h0] at hc;generalize atsL t (t.nd i).par.toNat=Q at *;rw[hnd] at h0 hc hl2 ⊢;intro box nb;have hc:=hc;refine sI func212 ntmps212 fun Hb Ht=>?_
   have hkk:=hk Ht;repeat first|simp[hlt]|refine sR ?_
   refine sC ?_;simp[h0];repeat first|simp|refine sR ?_
   refine sD (hc) ?_;simp;repeat first|simp[hlt]|refine sR ?_
   refine⟨⟨by omega,hkk.live⟩,?_⟩;refine sT ?_;try simp only[AU]
   exact⟨by simp,(Fin.own (av:=.stk nt1 4 (Q.map At.cells++t.nodes[i].own.map At.cells)) (by simp[resAs,resA];rfl) Hb rfl hkk.app.le (by simp)).mono fun v m hq=>⟨by first|(rw[hq.1,List.map_append])|(rw[hq.1];done)|(rw[hq.1];simp),hq.2⟩⟩
  .have hL:=atsL_top h0;have hl2:=hM i;refine⟨_,_,nt+1,fun h=>(((TK.start h).full.app).app:TK _ _ _ _ _),?_⟩;rw[hL];rw[hnd] at h0 hl2 ⊢;intro box nb;refine sI func212 ntmps212 fun Hb Ht=>?_
   have hkk:TK tok nt (upd tok nt true) (nt+1) [.tok nt]:=(TK.start Ht).full.app
   repeat first|simp[hlt]|refine sR ?_
   refine sC ?_;simp[h0];refine AL.trans (Trans.opn (l':=[(14,.bot),(13,.bot),(6,.bot),(12,.bot),(11,.bot),(10,.bot),(9,.bot),(8,.bot),(7,.bot),(5,.stk nt 4 []),(4,.bot),(2,.ptr (nb+2) 0 0),(0,.bot),(1,I i)]) (loc':=[(2,[[.d (nts t.nodes),.d (ets t.edges)]])]) 4 (by simp[CvL]) (cvB_refl0 (fun _=>.same) _)) ?_;repeat first|simp[hlt]|refine sR ?_
   refine⟨⟨by omega,hkk.live⟩,?_⟩;refine sT ?_;try simp only[AU]
   exact⟨by simp,(Fin.own (av:=.stk (nt+1) 4 (t.nodes[i].own.map At.cells)) (by simp[resAs,resA];rfl) Hb rfl (by omega) (by simp)).mono fun v m hq=>⟨by rw[hq.1],hq.2⟩⟩
theorem cloneStr_c(xs:List ByteArray)(hx:xs.length<=1000000):DC 293 [.d (strs xs)] (.d (strs xs)):=by
 intro tok nt box nb;refine sI func293 ntmps293 fun Hb Ht=>?_
 have hkk:TK tok nt (upd tok nt true) (nt+1) [.tok nt]:=(TK.start Ht).full.app
 refine sR ?_;simp;refine sR ?_;simp;refine⟨?_,fun h=>?_⟩
 .refine sC ?_;simp;refine sR ?_;simp;refine⟨by omega,?_⟩;refine sT (sG Hb Ht hkk.old hkk.le ?_);simp[strs]
 .subst h;refine sC ?_;simp;refine sR ?_;simp;refine sT (sH Hb Ht ?_);simp[strs]
def stAtP(A:List At)(nb:Nat)(box:Bxs)(R:List (List AV))(tok:Tks)(nt:Nat)(i:Nat):AS :=
 ⟨tl [(20,I A.length),(21,I i),(7,.msl (nb+7) 0 A.length 4)],lb nb box [(7,rowsD (A.map At.cells)++R)],tok,nt⟩
set_option maxRecDepth 100000 in
theorem attrsP_c(t:Ty)(ht:t.Fit)(hM:∀i,(t.nd i).own.length<=1000)(i:Nat)(hi:i<t.nodes.length)(hp:∀j,j<=i->(t.nd j).par<j)(hg:givE t [(i:Int)]=0)(hN:∀a∈atsL t i,a.names.length<=1000000):DC 265 [t.av,I i] (.tup [.d (atts (atsL t i)),I 0]):=by
 intro tok nt box nb;obtain⟨tok1,nt1,u,hk,hc⟩:=attrsK_c t ht hM (i+1) i (Nat.lt_succ_self _) hi hp tok nt;have hlen:=atsL_len hM (i+1) i (Nat.lt_succ_self _);have hb:(i+1)*1000<=1000*1000:=Nat.mul_le_mul_right _ (by have:=ht.n;omega)
 have hgc:=fun tok nt=>given_c t ht [(i:Int)] (by simp) tok nt
 rw[hg] at hgc;generalize atsL t i=A at *;refine sI func265 ntmps265 fun Hb Ht=>?_
 have hkk:=hk Ht;repeat first|simp|refine sR ?_
 refine Stop.sub (args':=[t.av,.d (ints [(i:Int)])]) ⟨Sub.refl _,Sub.data _ _ _,trivial⟩ ?_;refine sD (hgc _ _) ?_;simp;try (simp)
 repeat (first|(refine sR ?_;simp)|(refine sC ?_;simp)|(refine sX ?_;simp only[AU,↓reduceIte]))
 refine sD (hc) ?_;repeat first|simp|refine sR ?_
 refine AL.weak (wM (l':=[(21,I 0),(20,I A.length),(7,.stk u 4 (A.map At.cells))]) (loc':=[]) hkk.le rfl (by simp[ToL,lk]) (by simp[BoxL,lk])) ?_;by_cases hne:A=[]
 .subst hne;refine AL.stkD u hkk.live ?_;simp only[List.map_cons,List.map_nil,AV.sdT,↓reduceIte];have htk0:TK tok nt (upd tok1 u false) nt1 [.full]:=hkk.spend.full
  refine sN ?_;refine sL (fun (_:Unit)=>⟨tl [(20,I 0),(21,I 0),(7,.d (.sl 4 []))],lb nb box [],upd tok1 u false,nt1⟩) (fun _=>True) (fun _=>0) () trivial (wM htk0.le rfl (by simp[ToL,lk]) trivial) ?_;rintro _ S _ hS;subst hS;try (simp)
  repeat (first|(refine sR ?_;simp)|(refine sC ?_;simp)|(refine sX ?_;simp only[AU,↓reduceIte]))
  refine sT (sG Hb Ht htk0.old htk0.le ?_);simp[atts]
 refine AL.thawS (l':=[(21,I 0),(20,I A.length),(7,.msl (nb+7) 0 A.length 4)]) (loc':=[]) u 7 4 (A.map At.cells) 7 rfl (show (7:Nat)<36 by decide) rfl hkk.live (by simpa using hne) rfl (by simp[CvL]) trivial ?_;intro mm;have hro:∀(p q:Nat->Prop) fz,RowsTo p q fz (rowsD (A.map At.cells)++List.replicate mm (List.replicate 4 AV.bot)) (rowsD (A.map At.cells)++List.replicate mm (List.replicate 4 AV.bot)):=fun p q fz=>rowsTo_same fun r hr x hx=>by
  rcases List.mem_append.1 hr with hr|hr
  .obtain⟨e,_,rfl⟩:=List.mem_map.1 hr;obtain⟨d,_,rfl⟩:=List.mem_map.1 hx;exact .d
  .rw[List.eq_of_mem_replicate hr] at hx;rw[List.eq_of_mem_replicate hx];exact .bot
 generalize hRm:List.replicate mm (List.replicate 4 AV.bot)=R at *;have htk1:TK tok nt (upd tok1 u false) nt1 [.full]:=hkk.spend.full
 generalize upd tok1 u false=tok2 at *;refine sN ?_;refine sL (stAtP A nb box R tok2 nt1) (fun i=>i<=A.length) (fun i=>A.length-i) 0 (Nat.zero_le _) (wM htk1.le rfl (by simp[ToL,lk]) (by simp only[BoxL,lk_cons,↓reduceIte,and_true];exact⟨_,rfl,hro _ _ _⟩)) ?_;rintro j S hj hS;simp only[stAtP] at hS;subst hS;have hw:=sW (i:=j) (by omega);repeat first|simp|refine sR ?_|refine sC ?_
 refine⟨fun hlt=>?_,fun hge=>?_⟩
 .have hrow:(rowsD (A.map At.cells)++R)[j]?=some [Sb A[j].name,I A[j].lo,I A[j].hi,.d (strs A[j].names)]:=by
   rw[List.getElem?_append_left (by simpa[rowsD] using hlt)];simp[rowsD,hlt]
  have hset:(rowsD (A.map At.cells)).set j [Sb A[j].name,I A[j].lo,I A[j].hi,.d (strs A[j].names)]=rowsD (A.map At.cells):=by
   refine List.ext_getElem? fun k=>?_
   rw[List.getElem?_set];split
   .rename_i e;subst e;simp[rowsD,hlt]
   .rfl
  have hcl:=cloneStr_c A[j].names (hN _ (List.getElem_mem hlt));try (simp[hlt,hrow])
  repeat (first|(refine sR ?_;simp[hlt,hrow])|(refine sC ?_;simp[hlt,hrow])|(refine sX ?_;simp only[AU,↓reduceIte]))
  refine sD (hcl _ _) ?_;simp[hlt,hrow];try (simp[hlt,hrow,hset,hw])
  repeat (first|(refine sR ?_;simp[hlt,hrow,hset,hw])|(refine sC ?_;simp[hlt,hrow,hset,hw])|(refine sX ?_;simp only[AU,↓reduceIte]))
  refine sE ?_;exact⟨j+1,hlt,by omega,wM htk1.le rfl (by simp[ToL,lk]) (by simp only[BoxL,lk_cons,↓reduceIte,and_true];exact⟨_,rfl,hro _ _ _⟩)⟩
 .refine sX ?_;simp only[AU,↓reduceIte];have:j=A.length:=by omega
  subst this;try (simp)
  repeat (first|(refine sR ?_;simp)|(refine sC ?_;simp)|(refine sX ?_;simp only[AU,↓reduceIte]))
  refine AL.weak (wM (l':=[(5,I 0),(4,.msl (nb+7) 0 A.length 4)]) (loc':=[(7,rowsD (A.map At.cells)++R)]) htk1.le rfl (by simp[ToL,lk,lb_at]) (by simp only[BoxL,lk_cons,↓reduceIte,and_true];exact⟨_,rfl,hro _ _ _⟩)) ?_;have hes:(A.map At.cells).length=A.length:=by simp
  refine AL.trans (Trans.sealD (l:=[(5,I 0),(4,.msl (nb+7) 0 A.length 4)]) (l':=[(5,I 0),(4,.d (atts A))]) (loc:=[]) (loc':=[]) 7 4 (A.map At.cells) R 4 rfl (fun e he=>by obtain⟨b,_,rfl⟩:=List.mem_map.1 he;rfl) (by rw[hes];rfl) rfl ⟨rfl,.same (by simp),rfl,by have:=@SpTo.msl (nb+7) 4 (A.map At.cells);rw[hes] at this;exact this,trivial⟩ trivial) ?_;refine sT (sG Hb Ht htk1.old htk1.le ?_);simp
def atsK(t:Ty)(k:Int):List At:=if k.toNat<t.nodes.length then atsL t k.toNat else []
theorem hostV_c(t:Ty)(ht:t.Fit)(h:Hs)(hg:h.g.Fit)(hv:h.vals.length<=1000000)(tok:Tks)(nt:Nat):
  DCall prog 154 [t.av,h.av] tok nt (.tup [I (hostR t (atsK t) h).1,I (hostR t (atsK t) h).2]) tok nt:=by
 refine hostValid_c t ht ht.hM (atsK t) (fun k=>?_) h hg hv tok nt fun h0 k hk hlt _=>?_
 .unfold atsK;split
  .have:=atsL_len ht.hM (k.toNat+1) k.toNat (Nat.lt_succ_self _)
   have hb:(k.toNat+1)*1000<=1000*1000:=Nat.mul_le_mul_right _ (by have:=ht.n;omega)
   omega
  .simp
 .have hi:k.toNat<t.nodes.length:=by omega
  have hkk:((k.toNat:Nat):Int)=k:=by omega
  have hgv:givE t [((k.toNat:Nat):Int)]=0:=by
   unfold givE;rw[if_pos h0,hkk];simp[anyB,insB,hk,hlt]
  have:=attrsP_c t ht ht.hM k.toNat hi (fun j hj=>tyE_par h0 j (by omega)) hgv (fun a ha=>(atsL_fit ht (k.toNat+1) k.toNat (Nat.lt_succ_self _) a ha).l.n) tok nt
  rw[hkk] at this;unfold atsK;rw[if_pos hi];exact this
theorem rowsBX_get{xs:List Bool}{i:Nat}(h:i<xs.length)(R:List (List AV)):(rowsB xs++R)[i]?=some [AV.d (.raw (.bool xs[i]))]:=by
 rw[List.getElem?_append_left (by simpa[rowsB] using h)];simp[rowsB,h]
theorem rowsBX_set(xs:List Bool)(i:Nat)(h:i<xs.length)(b:Bool)(R:List (List AV)):(rowsB xs++R).set i [AV.d (.raw (.bool b))]=rowsB (xs.set i b)++R:=by
 rw[List.set_append_left _ _ (by simpa[rowsB] using h)];simp[rowsB,List.map_set]
theorem rowsBX_to(xs:List Bool)(m:Nat)(p q:Nat->Prop)(fz:Option (Nat × Nat × List (List D))):RowsTo p q fz (rowsB xs++List.replicate m (List.replicate 1 AV.bot)) (rowsB xs++List.replicate m (List.replicate 1 AV.bot)):=rowsTo_same fun r hr x hx=>by
 rcases List.mem_append.1 hr with hr|hr
 .obtain⟨e,_,rfl⟩:=List.mem_map.1 hr;rw[List.mem_singleton.1 hx];exact .d
 .rw[List.eq_of_mem_replicate hr] at hx;rw[List.eq_of_mem_replicate hx];exact .bot
theorem rowsD_Bo(xs:List Bool):rowsD (rBo xs)=rowsB xs:=(rowsB_eq xs).symm
theorem cvB_refl{R:AV->AV->Prop}(h:∀x,R x x):∀l:List (Nat × List (List AV)),CvB R l l
 | []=>trivial
 | (i,x)::l=>⟨rfl,⟨rfl,fun i h1 h2=>⟨rfl,fun j g1 g2=>h _⟩⟩,cvB_refl h l⟩
structure UnA where
 i:Nat
 sz:Nat
 own:Own
 tok:Nat->Bool
 nt:Nat
def stUnA(m:Mdl)(f g:List Bool)(R:List (List AV))(nb:Nat)(box:Bxs)(a:UnA):AS :=
 ⟨tl [(16,.msl (nb+7) 0 g.length 1),(17,I g.length),(18,I a.i),(8,.osl a.sz (rI (trueTo g a.i)) a.own),(7,.msl (nb+7) 0 g.length 1),(1,.d (bools f)),(3,.ptr (nb+3) 0 0)],lb nb box [(7,rowsB g++R),(3,[m.row])],a.tok,a.nt⟩
structure UnB where
 out:List Bool
 q:List Int
 t:Nat
 tok:Nat->Bool
 nt:Nat
def stUnB(m:Mdl)(f:List Bool)(n:Nat)(R:List (List AV))(nb:Nat)(box:Bxs)(a:UnB):AS :=
 ⟨tl [(8,.que a.t 1 (rI a.q)),(7,.msl (nb+7) 0 n 1),(1,.d (bools f)),(3,.ptr (nb+3) 0 0)],lb nb box [(7,rowsB a.out++R),(3,[m.row])],a.tok,a.nt⟩
structure UnC where
 j:Nat
 out:List Bool
 q:List Int
 t:Nat
 tok:Nat->Bool
 nt:Nat
def stUnC(m:Mdl)(f:List Bool)(n:Nat)(r:List Int)(R:List (List AV))(nb:Nat)(box:Bxs)(a:UnC):AS :=
 ⟨tl [(41,.d (ints r)),(42,I r.length),(43,I a.j),(8,.que a.t 1 (rI a.q)),(7,.msl (nb+7) 0 n 1),(1,.d (bools f)),(3,.ptr (nb+3) 0 0)],lb nb box [(7,rowsB a.out++R),(3,[m.row])],a.tok,a.nt⟩
set_option maxRecDepth 100000 in
theorem untilT_c(m:Mdl)(f g:List Bool)(hm:m.Ok g.length)(hf:f.length=g.length):DC 159 [m.av,.d (bools f),.d (bools g)] (.d (bools (untilR m.prev f g))):=by
 intro tok nt box nb;have hle:=hm.le;have hpos:=hm.pos;have hgne:g≠[]:=fun h=>by rw[h] at hpos;simp at hpos
 obtain⟨Res,hRes⟩:∃Res,untilR m.prev f g=Res:=⟨_,rfl⟩
 rw[hRes];have hcl:=cloneB_c g hgne (by omega) tok nt;refine sI func159 ntmps159 fun Hb Ht=>?_
 repeat first|simp|refine sR ?_
 refine sD (hcl) ?_;repeat first|simp|refine sR ?_
 have htk0:TK tok nt (upd (upd (upd tok nt true) nt false) (nt+1) true) (nt+2) [.tok (nt+1)]:=(((TK.start Ht).full.app).app:TK _ _ _ _ _)
 generalize (upd (upd (upd tok nt true) nt false) (nt+1) true)=tok1 at *;refine AL.thawS (l':=[(18,I 0),(17,I g.length),(16,.msl (nb+7) 0 g.length 1),(8,.osl 0 [] .full),(7,.msl (nb+7) 0 g.length 1),(15,.bot),(14,.bot),(6,.bot),(3,.ptr (nb+3) 0 0),(0,.bot),(1,.d (bools f)),(2,.bot)]) (loc':=[(3,[m.row])]) (nt+1) 7 1 (rBo g) 7 rfl (show (7:Nat)<67 by decide) rfl htk0.live (by simpa using hgne) rfl (by simp[CvL]) (cvB_refl (fun _=>.same) _) ?_;intro mm;rw[rowsD_Bo];have hro:=fun xs=>rowsBX_to xs mm
 generalize hRm:List.replicate mm (List.replicate 1 AV.bot)=R at *;have htk1:TK tok nt (upd tok1 (nt+1) false) (nt+2) [.full]:=by
  have:=htk0
  refine(TK.full ⟨fun t ht=>?_,this.lt,this.le,by simp,.nil⟩);have hlt:=Ht t ht;rw[uO _ _ (by omega)];exact this.old t ht
 generalize upd tok1 (nt+1) false=tok2 at *;refine sN ?_;refine sL (stUnA m f g R nb box) (fun a=>a.i<=g.length/\TK tok nt a.tok a.nt [a.own]/\((a.sz=1/\∃t,a.own=.tok t)∨trueTo g a.i=[]/\a.own=.full)) (fun a=>g.length-a.i) ⟨0,0,.full,tok2,nt+2⟩ ⟨Nat.zero_le _,htk1,.inr ⟨by simp[trueTo],rfl⟩⟩ (wM (by omega) rfl (by simp[ToL,lk,trueTo]) (by simp[BoxL,lk];exact hro _ _ _ _)) ?_;rintro⟨i,sz,own,tok3,nt3⟩ S ⟨hi,htk,hsz⟩ hS;simp only[stUnA] at hS hi htk hsz;subst hS;have hw:=sW (i:=i) (by omega);repeat first|simp|refine sR ?_|refine sC ?_
 refine⟨fun hlt=>?_,fun hge=>?_⟩
 .have hts:=trueTo_succ hlt;have hrg:=rowsBX_get hlt R;have htl:=trueTo_len g i;repeat first|simp[hlt,hrg]|refine sR ?_
  cases e:g[i]
  .rw[e] at hts;simp only[Bool.false_eq_true,↓reduceIte] at hts;try (simp[e,hw])
   repeat (first|(refine sR ?_;simp[e,hw])|(refine sC ?_;simp[e,hw])|(refine sX ?_;simp only[AU,↓reduceIte]))
   refine sE ?_;exact⟨⟨i+1,sz,own,tok3,nt3⟩,⟨hlt,htk,by simpa[hts] using hsz⟩,by simp only;omega,wM htk.le rfl (by simp[ToL,lk,hts]) (by simp[BoxL,lk];exact hro _ _ _ _)⟩
  .rw[e] at hts;simp only[↓reduceIte] at hts;try (simp[e])
   repeat (first|(refine sR ?_;simp[e])|(refine sC ?_;simp[e])|(refine sX ?_;simp only[AU,↓reduceIte]))
   refine⟨⟨hsz.imp (fun h=>h.1) (fun h=>⟨h.1,h.2⟩),by omega,htk.live⟩,?_⟩;try (simp[e,hw])
   repeat (first|(refine sR ?_;simp[e,hw])|(refine sC ?_;simp[e,hw])|(refine sX ?_;simp only[AU,↓reduceIte]))
   refine sE ?_;exact⟨⟨i+1,1,.tok nt3,_,nt3+1⟩,⟨hlt,htk.app,.inl ⟨rfl,_,rfl⟩⟩,by simp only;omega,wM (Nat.le_succ_of_le htk.le) rfl (by simp[ToL,lk,hts]) (by simp[BoxL,lk];exact hro _ _ _ _)⟩
 .refine sX ?_;simp only[AU,↓reduceIte];have:i=g.length:=by omega
  subst this;have hini:bfs m.prev f (bfM (g,trueIx g)) g (trueIx g)=Res:=by rw[trueIx_len];exact hRes
  have hqin:=trueTo_in (g:=g) (nr _);have hqm:bfM (g,trueIx g)<=g.length:=by rw[trueIx_len];exact nr _
  rw[trueTo_all] at hsz hqin ⊢;generalize trueIx g=q0 at *
  -- the list of the indices becomes a queue
  obtain⟨tq,htkq,htr⟩:∃tq,TK tok nt (upd tok3 nt3 true) (nt3+1) [.tok tq]/\QuTo nt3 1 (.osl sz (rI q0) own) (.que tq 1 (rI q0)):=by
   rcases hsz with ⟨h,t,h2⟩|⟨h1,h2⟩
   .subst h;subst h2;exact⟨t,htk.full.app.tail,.tok⟩
   .subst h1;subst h2;exact⟨nt3,htk.app,.nil⟩
  refine AL.trans (Trans.que (l':=[(19,.bot),(16,.bot),(17,.bot),(18,.bot),(8,.que tq 1 (rI q0)),(7,.msl (nb+7) 0 g.length 1),(1,.d (bools f)),(3,.ptr (nb+3) 0 0)]) (loc':=[(7,rowsB g++R),(3,[m.row])]) 1 ⟨rfl,.bot,rfl,.bot,rfl,.bot,rfl,.bot,rfl,htr,rfl,.same,rfl,.same,rfl,.same,trivial⟩ (cvB_refl (fun _=>.same) _)) ?_;generalize upd tok3 nt3 true=tok4 at *;generalize hnt4:nt3+1=nt4 at *;have hres:∀(a:UnB) (K:Exit->AS->Prop),True:=fun _ _=>trivial
  refine sN ?_;refine sL (stUnB m f g.length R nb box) (fun a=>TK tok nt a.tok a.nt [.tok a.t]/\a.out.length=g.length/\(∀k∈a.q,inR g.length k)/\bfM (a.out,a.q)<=g.length/\bfs m.prev f (bfM (a.out,a.q)) a.out a.q=Res) (fun a=>bfM (a.out,a.q)) ⟨g,q0,tq,tok4,nt4⟩ ⟨htkq,rfl,hqin,hqm,hini⟩ (wM htkq.le rfl (by simp[ToL,lk]) (by simp[BoxL,lk];exact hro _ _ _ _)) ?_;rintro⟨out,q,t,tok5,nt5⟩ S ⟨htk5,hol,hqr,hbm,hbf⟩ hS;simp only[stUnB] at hS htk5 hol hqr hbm hbf;subst hS;cases q with
  | nil =>
   rw[bfs_nil] at hbf;subst hbf;try (simp)
   repeat (first|(refine sR ?_;simp)|(refine sC ?_;simp)|(refine sX ?_;simp only[AU,↓reduceIte]))
   refine AL.weak (wM (l':=[(6,.msl (nb+7) 0 g.length 1)]) (loc':=[(7,rowsD (rBo out)++R)]) htk5.le rfl (by simp[ToL,lk,lb_at]) (by rw[rowsD_Bo];simp only[BoxL,lk_cons,↓reduceIte,and_true];exact⟨_,rfl,hro _ _ _ _⟩)) ?_;have hes:(rBo out).length=g.length:=by simpa using hol
   refine AL.trans (Trans.sealD (l:=[(6,.msl (nb+7) 0 g.length 1)]) (l':=[(6,.d (bools out))]) (loc:=[]) (loc':=[]) 7 1 (rBo out) R 6 rfl (fun e he=>by obtain⟨b,_,rfl⟩:=List.mem_map.1 he;rfl) (by rw[hes];rfl) rfl ⟨rfl,by have:=@SpTo.msl (nb+7) 1 (rBo out);rw[hes] at this;exact this,trivial⟩ trivial) ?_;refine sT (sG Hb Ht htk5.old htk5.le ?_);simp
  | cons k q =>
   obtain⟨hk1,hk2⟩:=hqr k (by simp);have hpl:=hm.prev;have hk3:k.toNat<m.prev.length:=by omega
   have hk4:k<(m.prev.length:Int):=by omega
   obtain⟨r,hr⟩:∃r,m.prev[k.toNat]=r:=⟨_,rfl⟩
   have hrR:=hm.prevR _ (List.getElem_mem hk3);have hrL:=hm.prevL _ (List.getElem_mem hk3);rw[hr] at hrR hrL;have hrd:m.prev.getD k.toNat []=r:=by simp[hk3,hr]
   have hms:bfM (out,k::q)=bfM (out,q)+1:=by simp[bfM];omega
   rw[hms,bfs,hrd] at hbf;have hfm:=(bfsF_m (f:=f) r (out,q) (by rw[hol];exact hrR));have hql:q.length<=g.length:=by
    have:=hbm
    simp[bfM] at this;omega
   try (simp[hk1,hk3,hk4,hr])
   repeat (first|(refine sR ?_;simp[hk1,hk3,hk4,hr])|(refine sC ?_;simp[hk1,hk3,hk4,hr])|(refine sX ?_;simp only[AU,↓reduceIte]))
   refine sN ?_;obtain⟨F,hF⟩:∃F,r.foldl (bfsS f) (out,q)=F:=⟨_,rfl⟩
   rw[hF] at hbf hfm;refine sL (stUnC m f g.length r R nb box) (fun a=>a.j<=r.length/\TK tok nt a.tok a.nt [.tok a.t]/\a.out.length=g.length/\(∀k∈a.q,inR g.length k)/\(r.drop a.j).foldl (bfsS f) (a.out,a.q)=F/\bfM (a.out,a.q)=bfM (out,q)) (fun a=>r.length-a.j) ⟨0,out,q,t,tok5,nt5⟩ ⟨Nat.zero_le _,htk5,hol,fun x hx=>hqr x (by simp[hx]),hF,rfl⟩ (wM htk5.le rfl (by simp[ToL,lk]) (by simp[BoxL,lk];exact hro _ _ _ _)) ?_;rintro⟨j,out2,q2,t2,tok6,nt6⟩ S ⟨hj,htk6,hol2,hqr2,hF2,hm2⟩ hS;simp only[stUnC] at hS hj htk6 hol2 hqr2 hF2 hm2;subst hS;have hw2:=sW (i:=j) (by omega);repeat first|simp|refine sR ?_|refine sC ?_
   refine⟨fun hlt=>?_,fun hge=>?_⟩
   .obtain⟨hx1,hx2⟩:=hrR _ (List.getElem_mem hlt);rw[List.drop_eq_getElem_cons hlt,List.foldl_cons] at hF2;have hstep:=bfsS_m (f:=f) (s:=(out2,q2)) (i:=r[j]) (by simp only[hol2];exact⟨hx1,hx2⟩);have hin:=bfsS_in (f:=f) (s:=(out2,q2)) (i:=r[j]) ⟨hx1,hx2⟩ hqr2;unfold bfsS at hF2 hstep hin;have hx3:r[j].toNat<out2.length:=by omega
    have hx4:r[j]<(g.length:Int):=hx2
    have hx5:r[j].toNat<f.length:=by omega
    have hx6:r[j]<(f.length:Int):=by omega
    have hg1:out2.getD r[j].toNat false=out2[r[j].toNat]:=by simp[hx3]
    have hg2:f.getD r[j].toNat false=f[r[j].toNat]:=by simp[hx5]
    have hrg:=rowsBX_get hx3 R;have hrs:=rowsBX_set out2 r[j].toNat hx3 true R;rw[hg1,hg2] at hF2 hstep hin;repeat first|simp[hlt,hx1,hx3,hx4,hx5,hrg]|refine sR ?_
    cases e1:out2[r[j].toNat]
    .try (simp[e1,hx1,hx3,hx4,hx5,hx6])
     repeat (first|(refine sR ?_;simp[e1,hx1,hx3,hx4,hx5,hx6])|(refine sC ?_;simp[e1,hx1,hx3,hx4,hx5,hx6])|(refine sX ?_;simp only[AU,↓reduceIte]))
     rw[e1] at hF2 hstep hin;simp only[true_and] at hF2 hstep hin;cases e2:f[r[j].toNat]
     .rw[e2] at hF2 hstep hin;simp only[Bool.false_eq_true,↓reduceIte] at hF2 hstep hin;try (simp[e2,hw2])
      repeat (first|(refine sR ?_;simp[e2,hw2])|(refine sC ?_;simp[e2,hw2])|(refine sX ?_;simp only[AU,↓reduceIte]))
      refine sE ?_;exact⟨⟨j+1,out2,q2,t2,tok6,nt6⟩,⟨hlt,htk6,hol2,hqr2,hF2,hm2⟩,by simp only;omega,wM htk6.le rfl (by simp[ToL,lk]) (by simp[BoxL,lk];exact hro _ _ _ _)⟩
     .rw[e2] at hF2 hstep hin;simp only[↓reduceIte] at hF2 hstep hin;have hx2':r[j]<(g.length:Int):=hx2
      have hq2l:q2.length<=g.length:=by
       have h1:bfM (out2,q2)<=g.length:=by omega
       simp[bfM] at h1;omega
      try (simp[e2,hrg,hrs,hx1,hx2',hx3,hw2])
      repeat (first|(refine sR ?_;simp[e2,hrg,hrs,hx1,hx2',hx3,hw2])|(refine sC ?_;simp[e2,hrg,hrs,hx1,hx2',hx3,hw2])|(refine sX ?_;simp only[AU,↓reduceIte]))
      refine⟨⟨by omega,htk6.live⟩,?_⟩;try (simp[hw2])
      repeat (first|(refine sR ?_;simp[hw2])|(refine sC ?_;simp[hw2])|(refine sX ?_;simp only[AU,↓reduceIte]))
      refine sE ?_;exact⟨⟨j+1,out2.set r[j].toNat true,q2++[r[j]],nt6,_,nt6+1⟩,⟨hlt,htk6.app,by simp[hol2],hin,hF2,hstep.1.trans hm2⟩,by simp only;omega,wM (Nat.le_succ_of_le htk6.le) rfl (by simp[ToL,lk]) (by simp[BoxL,lk];exact hro _ _ _ _)⟩
    .rw[e1] at hF2 hstep hin;simp only[Bool.true_eq_false,false_and,↓reduceIte] at hF2 hstep hin;try (simp[e1,hw2])
     repeat (first|(refine sR ?_;simp[e1,hw2])|(refine sC ?_;simp[e1,hw2])|(refine sX ?_;simp only[AU,↓reduceIte]))
     refine sE ?_;exact⟨⟨j+1,out2,q2,t2,tok6,nt6⟩,⟨hlt,htk6,hol2,hqr2,hF2,hm2⟩,by simp only;omega,wM htk6.le rfl (by simp[ToL,lk]) (by simp[BoxL,lk];exact hro _ _ _ _)⟩
   .refine sX ?_;simp only[AU,↓reduceIte];have:j=r.length:=by omega
    subst this;rw[List.drop_length,List.foldl_nil] at hF2;rw[<-hF2] at hbf hfm;try (simp)
    repeat (first|(refine sR ?_;simp)|(refine sC ?_;simp)|(refine sX ?_;simp only[AU,↓reduceIte]))
    refine sE ?_;exact⟨⟨out2,q2,t2,tok6,nt6⟩,⟨htk6,hol2,hqr2,by simp only;omega,by rw[hm2];exact hbf⟩,by simp only;omega,wM htk6.le rfl (by simp[ToL,lk]) (by simp[BoxL,lk];exact hro _ _ _ _)⟩
def stSmm(m:Mdl)(l:List Bool)(k:Nat)(nb:Nat)(box:Bxs)(tok:Tks)(nt:Nat)(i:Nat):AS :=
 ⟨tl [(16,I i),(15,I m.next.length),(14,.d (lls m.next)),(5,.msl (nb+12) 0 l.length 1),(1,.msl k 0 l.length 1),(2,.ptr (nb+2) 0 0)],lb nb box [(12,rowsB (smP m.next l i)),(2,[m.row])],tok,nt⟩
def stSmJm(m:Mdl)(l:List Bool)(k:Nat)(i:Nat)(r:List Int)(nb:Nat)(box:Bxs)(tok:Tks)(nt:Nat)(j:Nat):AS :=
 ⟨tl [(23,I j),(22,I r.length),(21,.d (ints r)),(6,I i),(16,I i),(15,I m.next.length),(14,.d (lls m.next)),(5,.msl (nb+12) 0 l.length 1),(1,.msl k 0 l.length 1),(2,.ptr (nb+2) 0 0)],lb nb box [(12,rowsB (smJ m.next l i r j)),(2,[m.row])],tok,nt⟩
set_option maxRecDepth 100000 in
theorem someTm_c(m:Mdl)(l:List Bool)(hm:m.Ok l.length)(box0:Bxs)(k:Nat)(R0:List (List AV))(hk0:box0 k=some (rowsB l++R0))(tok:Tks)(nt:Nat):RCall prog 158 [m.av,.msl k 0 l.length 1] box0 tok nt (.d (bools (someR m.next l))) tok nt:=by
 intro box nb he;have hk:=he _ _ hk0;have hle:=hm.le;have hnl:=hm.next;refine sI func158 ntmps158 fun Hb Ht=>?_
 have hkn:=key_lt Hb hk;repeat first|simp|refine sR ?_
 refine⟨by omega,?_⟩;repeat first|simp[rep_rBo]|refine sR ?_
 refine sN ?_;refine sL (stSmm m l k nb box tok nt) (fun i=>i<=m.next.length) (fun i=>m.next.length-i) 0 (Nat.zero_le _) (wM (nr _) rfl (by simp[ToL,lk];exact .same (.msl (by rw[lO hkn,hk];simp))) (by simp[BoxL,lk,smP_zero,hnl])) ?_;rintro i S hi hS;simp only[stSmm] at hS;subst hS;have hw:=sW (i:=i) (by omega);repeat first|simp|refine sR ?_|refine sC ?_
 refine⟨fun hlt=>?_,fun hge=>?_⟩
 .obtain⟨r,hr⟩:∃r,m.next[i]=r:=⟨_,rfl⟩
  have hrR:=hm.nextR _ (List.getElem_mem hlt);have hrL:=hm.nextL _ (List.getElem_mem hlt);have hz:=smJ_zero (l:=l) (m.next[i]) hlt;have hall:=smJ_all (l:=l) hlt;rw[hr] at hrR hrL hz hall;repeat first|simp[hlt,hr]|refine sR ?_
  refine sN ?_;refine sL (stSmJm m l k i r nb box tok nt) (fun j=>j<=r.length) (fun j=>r.length-j) 0 (Nat.zero_le _) (wM (nr _) rfl (by simp[ToL,lk];exact .same (.msl (by rw[lO hkn,hk];simp))) (by simp[BoxL,lk,hz])) ?_;rintro j S hj hS;simp only[stSmJm] at hS;subst hS;have hw2:=sW (i:=j) (by omega);repeat first|simp|refine sR ?_|refine sC ?_
  refine⟨fun hlt2=>?_,fun hge2=>?_⟩
  .obtain⟨hk1,hk2⟩:=hrR _ (List.getElem_mem hlt2);have hk3:r[j].toNat<l.length:=by omega
   have hset:=smJ_set (nx:=m.next) (l:=l) (i:=i) hlt2 hk3;have hjl:=smJ_len (l:=l) (r:=r) (j:=j) hi;have hja:=smJ_at (l:=l) (r:=r) (j:=j) hlt;have hil:i<(smJ m.next l i r j).length:=by omega
   have hja:=hja hil;have hil2:i<l.length:=by omega
   have hk4:r[j]<(l.length:Int):=by omega
   have hrg:=rowsBX_get hk3 R0;cases e:anyTo l r j
   .rw[e,Bool.false_or] at hset;rw[e] at hja;repeat first|simp[hlt2,hil,hil2,hja,hk1,hk3,hk4,hset,hw2,lO hkn,hk,hrg]|refine sR ?_
    refine sE ?_;exact⟨j+1,hlt2,by omega,wM (nr _) rfl (by simp[ToL,lk];exact .same (.msl (by rw[lO hkn,hk];simp))) (by simp[BoxL,lk])⟩
   .rw[e,Bool.true_or] at hset;rw[e] at hja;repeat first|simp[hlt2,hil,hil2,hja,hset,hw2]|refine sR ?_
    refine sE ?_;exact⟨j+1,hlt2,by omega,wM (nr _) rfl (by simp[ToL,lk];exact .same (.msl (by rw[lO hkn,hk];simp))) (by simp[BoxL,lk])⟩
  .refine sX ?_;simp only[AU,↓reduceIte];have:j=r.length:=by omega
   subst this;rw[hall];repeat first|simp[hw]|refine sR ?_
   refine sE ?_;exact⟨i+1,hlt,by omega,wM (nr _) rfl (by simp[ToL,lk];exact .same (.msl (by rw[lO hkn,hk];simp))) (by simp[BoxL,lk])⟩
 .refine sX ?_;simp only[AU,↓reduceIte];have:i=m.next.length:=by omega
  subst this;rw[smP_all];obtain⟨R,hR⟩:∃R,someR m.next l=R:=⟨_,rfl⟩
  have hRl:l.length=R.length:=by rw[<-hR];simp;omega
  rw[hR,hRl];refine AL.weak (Weaks.frz (l':=[(5,.d (bools R))]) (loc':=[]) 12 1 (rBo R) (nr _) rfl (by simp[lk,rowsB_eq]) (by simp[lk]) (fun e he=>by obtain⟨b,_,rfl⟩:=List.mem_map.1 he;rfl) (by simp[ToL,lk,lb_at]) (by simp[BoxL])) ?_;repeat first|simp|refine sR ?_
  refine sT (sH Hb Ht ?_);simp
theorem alwS_len{nx:List (List Int)}{out:List Bool}(h:nx.length=out.length):(alwS nx out).length=out.length:=by simp[alwS,h]
theorem alwS_get{nx:List (List Int)}{out:List Bool}{i:Nat}(h:i<(alwS nx out).length)(h1:i<out.length)(h2:i<(someR nx out).length):(alwS nx out)[i]=(out[i]&&(someR nx out)[i]):=by simp[alwS]
def alI(nx:List (List Int))(out:List Bool)(i:Nat):List Bool:=(alwS nx out).take i++out.drop i
theorem alI_zero(nx:List (List Int))(out:List Bool):alI nx out 0=out:=by simp[alI]
theorem alI_all{nx:List (List Int)}{out:List Bool}(h:nx.length=out.length):alI nx out out.length=alwS nx out:=by
 unfold alI;rw[List.drop_length,List.append_nil];exact List.take_of_length_le (by rw[alwS_len h];exact nr _)
theorem alI_len{nx:List (List Int)}{out:List Bool}{i:Nat}(h:nx.length=out.length)(hi:i<=out.length):(alI nx out i).length=out.length:=by simp[alI,alwS_len h];omega
theorem alI_at{nx:List (List Int)}{out:List Bool}{i:Nat}(h:nx.length=out.length)(hi:i<out.length):∀h2:i<(alI nx out i).length,(alI nx out i)[i]=out[i]:=by
 intro h2;have hl:((alwS nx out).take i).length=i:=by simp[alwS_len h];omega
 have hh:(alI nx out i)[i]?=some out[i]:=by
  unfold alI;rw[List.getElem?_append_right (by omega)];simp[hl,hi]
 rw[List.getElem?_eq_getElem h2] at hh;exact Option.some.inj hh
theorem alI_succ{nx:List (List Int)}{out:List Bool}{i:Nat}(h:nx.length=out.length)(hi:i<out.length)(h2:i<(someR nx out).length):alI nx out (i+1)=(alI nx out i).set i (out[i]&&(someR nx out)[i]):=by
 have hl1:i<(alwS nx out).length:=by rw[alwS_len h];exact hi
 have hg:=alwS_get hl1 hi h2;unfold alI;have hl:((alwS nx out).take i).length=i:=by simp[alwS_len h];omega
 rw[List.set_append_right _ _ (by omega),hl,Nat.sub_self,List.drop_eq_getElem_cons hi,List.set_cons_zero,List.take_succ_eq_append_getElem hl1,hg];simp
theorem alI_same{nx:List (List Int)}{out:List Bool}{i:Nat}(h:nx.length=out.length)(hi:i<out.length)(h2:i<(someR nx out).length)(he:(out[i]&&(someR nx out)[i])=out[i]):alI nx out (i+1)=alI nx out i:=by
 rw[alI_succ h hi h2,he];have hk:i<(alI nx out i).length:=by rw[alI_len h (by omega)];exact hi
 have:=alI_at h hi hk
 rw[<-this];exact List.set_getElem_self hk
theorem alI_ne0{nx:List (List Int)}{out:List Bool}{i:Nat}(h:nx.length=out.length)(hi:i<out.length)(h2:i<(someR nx out).length)(he:(out[i]&&(someR nx out)[i])≠out[i]):alwS nx out≠out:=by
 intro hc;have hl1:i<(alwS nx out).length:=by rw[alwS_len h];exact hi
 have hg:=alwS_get hl1 hi h2;apply he;rw[<-hg];simp only[hc]
theorem alI_succ'{nx:List (List Int)}{out sm:List Bool}{i:Nat}(hs:someR nx out=sm)(h:nx.length=out.length)(hi:i<out.length)(h2:i<sm.length):alI nx out (i+1)=(alI nx out i).set i (out[i]&&sm[i]):=by subst hs;exact alI_succ h hi h2
theorem alI_same'{nx:List (List Int)}{out sm:List Bool}{i:Nat}(hs:someR nx out=sm)(h:nx.length=out.length)(hi:i<out.length)(h2:i<sm.length)(he:(out[i]&&sm[i])=out[i]):alI nx out (i+1)=alI nx out i:=by subst hs;exact alI_same h hi h2 he
theorem alI_ne{nx:List (List Int)}{out sm:List Bool}{i:Nat}(hs:someR nx out=sm)(h:nx.length=out.length)(hi:i<out.length)(h2:i<sm.length)(he:(out[i]&&sm[i])≠out[i]):alwS nx out≠out:=by subst hs;exact alI_ne0 h hi h2 he
structure AlO where
 c:Bool
 out:List Bool
structure AlI where
 c:Bool
 i:Nat
def AlInv(nx:List (List Int))(Res:List Bool)(a:AlO):Prop:=if a.c=true then ∃n,a.out.count true<n/\alwN nx n a.out=Res else a.out=Res
def AlInvI(nx:List (List Int))(out:List Bool)(a:AlI):Prop:=if a.c=true then alwS nx out≠out else alI nx out a.i=out
def stAlO(m:Mdl)(f:List Bool)(n:Nat)(R:List (List AV))(nb:Nat)(box:Bxs)(tok:Tks)(nt:Nat)(a:AlO):AS :=
 ⟨tl [(6,.d (.raw (.bool a.c))),(5,.msl (nb+5) 0 n 1),(2,.ptr (nb+2) 0 0)],lb nb box [(5,rowsB a.out++R),(2,[m.row])],tok,nt⟩
def stAlI(m:Mdl)(out sm:List Bool)(n:Nat)(R:List (List AV))(nb:Nat)(box:Bxs)(tok:Tks)(nt:Nat)(a:AlI):AS :=
 ⟨tl [(16,I n),(17,I a.i),(7,.d (bools sm)),(6,.d (.raw (.bool a.c))),(5,.msl (nb+5) 0 n 1),(2,.ptr (nb+2) 0 0)],lb nb box [(5,rowsB (alI m.next out a.i)++R),(2,[m.row])],tok,nt⟩
theorem alw_step{nx:List (List Int)}{out Res:List Bool}{n:Nat}(h:nx.length=out.length)(hn:out.count true<n)(hr:alwN nx n out=Res):(alwS nx out=out/\out=Res)∨(alwS nx out≠out/\(alwS nx out).count true<out.count true/\alwN nx (n-1) (alwS nx out)=Res):=by
 obtain⟨n,rfl⟩:∃k,n=k+1:=⟨n-1,by omega⟩
 rw[alwN] at hr;by_cases hc:alwS nx out=out
 .rw[if_pos hc] at hr;exact .inl ⟨hc,hr⟩
 .rw[if_neg hc] at hr;exact .inr ⟨hc,(count_and out (someR nx out) (by simp[h])).2 hc,hr⟩
set_option maxRecDepth 100000 in
theorem alwaysT_c(m:Mdl)(f:List Bool)(hm:m.Ok f.length):DC 161 [m.av,.d (bools f)] (.d (bools (alwaysR m.next f))):=by
 intro tok nt box nb;have hle:=hm.le;have hpos:=hm.pos;have hgne:f≠[]:=fun h=>by rw[h] at hpos;simp at hpos
 obtain⟨Res,hRes⟩:∃Res,alwaysR m.next f=Res:=⟨_,rfl⟩
 rw[hRes];have hcl:=cloneB_c f hgne (by omega) tok nt;refine sI func161 ntmps161 fun Hb Ht=>?_
 repeat first|simp|refine sR ?_
 refine sD (hcl) ?_;repeat first|simp|refine sR ?_
 have htk0:TK tok nt (upd (upd (upd tok nt true) nt false) (nt+1) true) (nt+2) [.tok (nt+1)]:=(((TK.start Ht).full.app).app:TK _ _ _ _ _)
 generalize (upd (upd (upd tok nt true) nt false) (nt+1) true)=tok1 at *;refine AL.thawS (l':=[(6,.d (.raw (.bool true))),(5,.msl (nb+5) 0 f.length 1),(10,.bot),(9,.bot),(4,.bot),(2,.ptr (nb+2) 0 0),(0,.bot),(1,.bot)]) (loc':=[(2,[m.row])]) (nt+1) 5 1 (rBo f) 5 rfl (show (5:Nat)<36 by decide) rfl htk0.live (by simpa using hgne) rfl (by simp[CvL]) (cvB_refl (fun _=>.same) _) ?_;intro mm;rw[rowsD_Bo];have hro:=fun xs=>rowsBX_to xs mm
 generalize hRm:List.replicate mm (List.replicate 1 AV.bot)=R at *;have htk1:TK tok nt (upd tok1 (nt+1) false) (nt+2) [.full]:=by
  have:=htk0
  refine(TK.full ⟨fun t ht=>?_,this.lt,this.le,by simp,.nil⟩);have hlt:=Ht t ht;rw[uO _ _ (by omega)];exact this.old t ht
 generalize upd tok1 (nt+1) false=tok2 at *;generalize hnt2:nt+2=nt2 at *;refine sN ?_;refine sL (stAlO m f f.length R nb box tok2 nt2) (fun a=>a.out.length=f.length/\AlInv m.next Res a) (fun a=>2*a.out.count true+(if a.c=true then 1 else 0)) ⟨true,f⟩ ⟨rfl,by simp only[AlInv,↓reduceIte];exact⟨_,Nat.lt_succ_self _,hRes⟩⟩ (wM htk1.le rfl (by simp[ToL,lk]) (by simp[BoxL,lk];exact hro _ _ _ _)) ?_;rintro⟨c,out⟩ S ⟨hol,hinv⟩ hS;simp only[stAlO] at hS hol hinv;subst hS;have hmo:m.Ok out.length:=by rw[hol];exact hm
 have hnx:=hmo.next;cases c with
 | false =>
  simp only[AlInv,Bool.false_eq_true,↓reduceIte] at hinv;subst hinv;try (simp)
  repeat (first|(refine sR ?_;simp)|(refine sC ?_;simp)|(refine sX ?_;simp only[AU,↓reduceIte]))
  refine AL.weak (wM (l':=[(4,.msl (nb+5) 0 f.length 1)]) (loc':=[(5,rowsD (rBo out)++R)]) htk1.le rfl (by simp[ToL,lk,lb_at]) (by rw[rowsD_Bo];simp only[BoxL,lk_cons,↓reduceIte,and_true];exact⟨_,rfl,hro _ _ _ _⟩)) ?_;have hes:(rBo out).length=f.length:=by simpa using hol
  refine AL.trans (Trans.sealD (l:=[(4,.msl (nb+5) 0 f.length 1)]) (l':=[(4,.d (bools out))]) (loc:=[]) (loc':=[]) 5 1 (rBo out) R 4 rfl (fun e he=>by obtain⟨b,_,rfl⟩:=List.mem_map.1 he;rfl) (by rw[hes];rfl) rfl ⟨rfl,by have:=@SpTo.msl (nb+5) 1 (rBo out);rw[hes] at this;exact this,trivial⟩ trivial) ?_;refine sT (sG Hb Ht htk1.old htk1.le ?_);simp
 | true =>
  simp only[AlInv,↓reduceIte] at hinv;obtain⟨n,hn,hal⟩:=hinv;have hstep:=alw_step hnx hn hal;have hsl:(someR m.next out).length=out.length:=by simp[hnx]
  have h:=someTm_c m out hmo (lb nb box [(5,rowsB out++R),(2,[m.row])]) (nb+5) R (by simp[lb_at,lk]) tok2 nt2;rw[hol] at h;generalize hsm:someR m.next out=sm at *;try (simp)
  repeat (first|(refine sR ?_;simp)|(refine sC ?_;simp)|(refine sX ?_;simp only[AU,↓reduceIte]))
  refine Stop.of_r h ?_;repeat first|simp|refine sR ?_
  refine sN ?_;refine sL (stAlI m out sm f.length R nb box tok2 nt2) (fun a=>a.i<=f.length/\AlInvI m.next out a) (fun a=>f.length-a.i) ⟨false,0⟩ ⟨Nat.zero_le _,by simp only[AlInvI,Bool.false_eq_true,↓reduceIte];exact alI_zero _ _⟩ (wM htk1.le rfl (by simp[ToL,lk]) (by simp[BoxL,lk,alI_zero];exact hro _ _ _ _)) ?_;rintro⟨c,i⟩ S ⟨hi,hinv⟩ hS;simp only[stAlI] at hS hi hinv;subst hS;have hw:=sW (i:=i) (by omega);repeat first|simp|refine sR ?_|refine sC ?_
  refine⟨fun hlt=>?_,fun hge=>?_⟩
  .have hi1:i<out.length:=by omega
   have hi2:i<sm.length:=by omega
   have hi3:i<(alI m.next out i).length:=by rw[alI_len hnx (by omega)];exact hi1
   have hat:=alI_at hnx hi1 hi3;have hrg:=rowsBX_get hi3 R;have hsame:=alI_same' hsm hnx hi1 hi2;have hsucc:=alI_succ' hsm hnx hi1 hi2;have hne:=alI_ne hsm hnx hi1 hi2;have hrs:=rowsBX_set (alI m.next out i) i hi3 false R;rw[hat] at hrg;repeat first|simp[hlt,hi1,hi2,hi3,hrg]|refine sR ?_
   cases e1:out[i]
   .rw[e1] at hsame hsucc;simp only[Bool.false_and,true_implies] at hsame;try (simp[e1,hw])
    repeat (first|(refine sR ?_;simp[e1,hw])|(refine sC ?_;simp[e1,hw])|(refine sX ?_;simp only[AU,↓reduceIte]))
    refine sE ?_;refine⟨⟨c,i+1⟩,⟨hlt,?_⟩,by simp only;omega,wM htk1.le rfl (by simp[ToL,lk]) (by simp[BoxL,lk,hsame];exact hro _ _ _ _)⟩;simpa only[AlInvI,hsame] using hinv
   .rw[e1] at hsame hsucc hne;cases e2:sm[i]
    .rw[e2] at hsucc hne;simp only[Bool.and_false] at hsucc;try (simp[e1,hlt,hi1,hi2,hi3,hrg,e2,hrs,hw])
     repeat (first|(refine sR ?_;simp[e1,hlt,hi1,hi2,hi3,hrg,e2,hrs,hw])|(refine sC ?_;simp[e1,hlt,hi1,hi2,hi3,hrg,e2,hrs,hw])|(refine sX ?_;simp only[AU,↓reduceIte]))
     refine sE ?_;refine⟨⟨true,i+1⟩,⟨hlt,?_⟩,by simp only;omega,wM htk1.le rfl (by simp[ToL,lk]) (by simp[BoxL,lk,hsucc];exact hro _ _ _ _)⟩;simp only[AlInvI,↓reduceIte];exact hne (by simp)
    .rw[e2] at hsame;simp only[Bool.true_and,true_implies] at hsame;try (simp[e1,hlt,hi1,hi2,hi3,hrg,e2,hw])
     repeat (first|(refine sR ?_;simp[e1,hlt,hi1,hi2,hi3,hrg,e2,hw])|(refine sC ?_;simp[e1,hlt,hi1,hi2,hi3,hrg,e2,hw])|(refine sX ?_;simp only[AU,↓reduceIte]))
     refine sE ?_;refine⟨⟨c,i+1⟩,⟨hlt,?_⟩,by simp only;omega,wM htk1.le rfl (by simp[ToL,lk]) (by simp[BoxL,lk,hsame];exact hro _ _ _ _)⟩;simpa only[AlInvI,hsame] using hinv
  .refine sX ?_;simp only[AU,↓reduceIte];have:i=f.length:=by omega
   subst this;have hall:=alI_all hnx;rw[hol] at hall;have hall':alI m.next out f.length=alwS m.next out:=hall
   rw[hall'];cases c with
   | false =>
    simp only[AlInvI,Bool.false_eq_true,↓reduceIte,hall'] at hinv;rcases hstep with ⟨h1,h2⟩|⟨h1,h2⟩
    .rw[h1];try (simp)
     repeat (first|(refine sR ?_;simp)|(refine sC ?_;simp)|(refine sX ?_;simp only[AU,↓reduceIte]))
     refine sE ?_;refine⟨⟨false,out⟩,⟨hol,?_⟩,by simp,wM htk1.le rfl (by simp[ToL,lk]) (by simp[BoxL,lk];exact hro _ _ _ _)⟩;simp only[AlInv,Bool.false_eq_true,↓reduceIte];exact h2
    .exact absurd hinv h1
   | true =>
    simp only[AlInvI,↓reduceIte] at hinv;rcases hstep with ⟨h1,h2⟩|⟨h1,h2,h3⟩
    .exact absurd h1 hinv
    .try (simp)
     repeat (first|(refine sR ?_;simp)|(refine sC ?_;simp)|(refine sX ?_;simp only[AU,↓reduceIte]))
     refine sE ?_;refine⟨⟨true,alwS m.next out⟩,⟨by rw[alwS_len hnx];exact hol,?_⟩,by simp;omega,wM htk1.le rfl (by simp[ToL,lk]) (by simp[BoxL,lk];exact hro _ _ _ _)⟩;simp only[AlInv,↓reduceIte];exact⟨n-1,by omega,h3⟩
theorem auc_c(out:List Bool)(n:Nat)(hn:out.length=n)(k:Int)(hk:inR n k)(R:List (List AV))(k7 k8 nb:Nat)(box:Bxs)(tok:Tks)(nt:Nat)(h7:box k7=some [[.msl k8 0 n 1]])(h8:box k8=some (rowsB out++R)):
  ACalls prog 233 [I k,.ptr k7 0 0] ⟨box,nb,tok,nt⟩ fun v m=>v=B (!out.getD k.toNat false)/\m=⟨box,nb,tok,nt⟩:=by
 obtain⟨h1,h2⟩:=hk;have h3:k.toNat<out.length:=by omega
 have hg1:out.getD k.toNat false=out[k.toNat]:=by simp[h3]
 rw[hg1];refine sI func233 ntmps233 fun Hb Ht=>?_
 have hkn7:=key_lt Hb h7;have hkn8:=key_lt Hb h8;have hrg:=rowsBX_get h3 R;repeat first|simp|refine sR ?_
 repeat first|simp[lO hkn7,lO hkn8,h7,h8,hrg,h1,h2,h3]|refine sR ?_
 refine sT (sH Hb Ht ?_);simp
def AuInv(nx:List (List Int))(f Res:List Bool)(a:AlO):Prop:=if a.c=true then ∃n,a.out.count false<n/\auN nx f n a.out=Res else a.out=Res
def AuInvI(nx:List (List Int))(f out:List Bool)(a:AlI):Prop:=if a.c=true then (auP nx f out a.i).count false<out.count false else auP nx f out a.i=out
theorem au_step{nx:List (List Int)}{f out Res:List Bool}{n:Nat}(hn:out.count false<n)(hr:auN nx f n out=Res):(auP nx f out out.length=out/\out=Res)∨(auP nx f out out.length≠out/\auN nx f (n-1) (auP nx f out out.length)=Res):=by
 obtain⟨n,rfl⟩:∃k,n=k+1:=⟨n-1,by omega⟩
 rw[auN] at hr;by_cases hc:auP nx f out out.length=out
 .rw[if_pos hc] at hr;exact .inl ⟨hc,hr⟩
 .rw[if_neg hc] at hr;exact .inr ⟨hc,hr⟩
theorem AuInvI.same{nx:List (List Int)}{f out:List Bool}{c:Bool}{i:Nat}(h:AuInvI nx f out ⟨c,i⟩)(he:auP nx f out (i+1)=auP nx f out i):AuInvI nx f out ⟨c,i+1⟩:=by
 simpa only[AuInvI,he] using h
theorem AuInvI.down{nx:List (List Int)}{f out:List Bool}{c:Bool}{i:Nat}(h:AuInvI nx f out ⟨c,i⟩)(he:(auP nx f out (i+1)).count false+1=(auP nx f out i).count false):AuInvI nx f out ⟨true,i+1⟩:=by
 unfold AuInvI at h ⊢;cases c
 .simp only[Bool.false_eq_true,↓reduceIte] at h ⊢;rw[h] at he;omega
 .simp only[↓reduceIte] at h ⊢;omega
theorem rBo_len(l:List Bool):(rBo l).length=l.length:=by simp
theorem cvB_stk{t k b sz:Nat}{es:List (List D)}(rest:List (Nat × List (List AV))):CvB (TsTo t k sz es) ((b,[[.stk t sz es]])::rest) ((b,[[.msl k 0 es.length sz]])::rest):=by
 refine⟨rfl,⟨rfl,fun i h1 h2=>?_⟩,cvB_refl (fun _=>.same) _⟩;obtain rfl:i=0:=by simpa using h1
 refine⟨rfl,fun j g1 g2=>?_⟩;obtain rfl:j=0:=by simpa using g1
 exact TsTo.stk
def stAuO(m:Mdl)(f:List Bool)(n:Nat)(R:List (List AV))(nb:Nat)(box:Bxs)(tok:Tks)(nt:Nat)(a:AlO):AS :=
 ⟨tl [(8,.d (.raw (.bool a.c))),(7,.ptr (nb+7) 0 0),(1,.d (bools f)),(3,.ptr (nb+3) 0 0)],lb nb box [(11,rowsB a.out++R),(7,[[.msl (nb+11) 0 n 1]]),(3,[m.row])],tok,nt⟩
def stAuI(m:Mdl)(f out:List Bool)(n:Nat)(R:List (List AV))(nb:Nat)(box:Bxs)(tok:Tks)(nt:Nat)(a:AlI):AS :=
 ⟨tl [(14,I n),(15,I a.i),(8,.d (.raw (.bool a.c))),(7,.ptr (nb+7) 0 0),(1,.d (bools f)),(3,.ptr (nb+3) 0 0)],lb nb box [(11,rowsB (auP m.next f out a.i)++R),(7,[[.msl (nb+11) 0 n 1]]),(3,[m.row])],tok,nt⟩
set_option maxRecDepth 100000 in
theorem allUntilT_c(m:Mdl)(f g:List Bool)(hm:m.Ok g.length)(hf:f.length=g.length):DC 162 [m.av,.d (bools f),.d (bools g)] (.d (bools (allUntilR m.next f g))):=by
 intro tok nt box nb;have hle:=hm.le;have hpos:=hm.pos;have hgne:g≠[]:=fun h=>by rw[h] at hpos;simp at hpos
 obtain⟨Res,hRes⟩:∃Res,allUntilR m.next f g=Res:=⟨_,rfl⟩
 rw[hRes];have hcl:=cloneB_c g hgne (by omega) tok nt;refine sI func162 ntmps162 fun Hb Ht=>?_
 repeat first|simp|refine sR ?_
 refine sD (hcl) ?_;repeat first|simp|refine sR ?_
 have htk0:TK tok nt (upd (upd (upd tok nt true) nt false) (nt+1) true) (nt+2) [.tok (nt+1)]:=(((TK.start Ht).full.app).app:TK _ _ _ _ _)
 generalize (upd (upd (upd tok nt true) nt false) (nt+1) true)=tok1 at *;refine AL.thawS (l':=[(8,.d (.raw (.bool true))),(7,.ptr (nb+7) 0 0),(11,.bot),(10,.bot),(6,.bot),(3,.ptr (nb+3) 0 0),(0,.bot),(1,.d (bools f)),(2,.bot)]) (loc':=(7,[[.msl (nb+11) 0 (rBo g).length 1]])::_) (nt+1) 11 1 (rBo g) 11 rfl (show (11:Nat)<43 by decide) rfl htk0.live (by simpa using hgne) rfl (by simp[CvL]) (cvB_stk _) ?_;intro mm;rw[rowsD_Bo,rBo_len];have hro:=fun xs=>rowsBX_to xs mm
 generalize hRm:List.replicate mm (List.replicate 1 AV.bot)=R at *;have htk1:TK tok nt (upd tok1 (nt+1) false) (nt+2) [.full]:=by
  have:=htk0
  refine(TK.full ⟨fun t ht=>?_,this.lt,this.le,by simp,.nil⟩);have hlt:=Ht t ht;rw[uO _ _ (by omega)];exact this.old t ht
 generalize upd tok1 (nt+1) false=tok2 at *;generalize hnt2:nt+2=nt2 at *;refine sN ?_;refine sL (stAuO m f g.length R nb box tok2 nt2) (fun a=>a.out.length=g.length/\AuInv m.next f Res a) (fun a=>2*a.out.count false+(if a.c=true then 1 else 0)) ⟨true,g⟩ ⟨rfl,by simp only[AuInv,↓reduceIte];exact⟨_,Nat.lt_succ_self _,hRes⟩⟩ (wM htk1.le rfl (by simp[ToL,lk,lb_at]) (by simp[BoxL,lk];exact hro _ _ _ _)) ?_;rintro⟨c,out⟩ S ⟨hol,hinv⟩ hS;simp only[stAuO] at hS hol hinv;subst hS;have hnx:=hm.next;cases c with
 | false =>
  simp only[AuInv,Bool.false_eq_true,↓reduceIte] at hinv;subst hinv;try (simp)
  repeat (first|(refine sR ?_;simp)|(refine sC ?_;simp)|(refine sX ?_;simp only[AU,↓reduceIte]))
  refine AL.weak (wM (l':=[(6,.msl (nb+11) 0 g.length 1)]) (loc':=[(11,rowsD (rBo out)++R)]) htk1.le rfl (by simp[ToL,lk,lb_at]) (by rw[rowsD_Bo];simp only[BoxL,lk_cons,↓reduceIte,and_true];exact⟨_,rfl,hro _ _ _ _⟩)) ?_;have hes:(rBo out).length=g.length:=by simpa using hol
  refine AL.trans (Trans.sealD (l:=[(6,.msl (nb+11) 0 g.length 1)]) (l':=[(6,.d (bools out))]) (loc:=[]) (loc':=[]) 11 1 (rBo out) R 6 rfl (fun e he=>by obtain⟨b,_,rfl⟩:=List.mem_map.1 he;rfl) (by rw[hes];rfl) rfl ⟨rfl,by have:=@SpTo.msl (nb+11) 1 (rBo out);rw[hes] at this;exact this,trivial⟩ trivial) ?_;refine sT (sG Hb Ht htk1.old htk1.le ?_);simp
 | true =>
  simp only[AuInv,↓reduceIte] at hinv;obtain⟨n,hn,hal⟩:=hinv;have hstep:=au_step hn hal;try (simp)
  repeat (first|(refine sR ?_;simp)|(refine sC ?_;simp)|(refine sX ?_;simp only[AU,↓reduceIte]))
  refine sN ?_;refine sL (stAuI m f out g.length R nb box tok2 nt2) (fun a=>a.i<=g.length/\AuInvI m.next f out a) (fun a=>g.length-a.i) ⟨false,0⟩ ⟨Nat.zero_le _,by simp only[AuInvI,Bool.false_eq_true,↓reduceIte];rfl⟩ (wM htk1.le rfl (by simp[ToL,lk,lb_at]) (by simp[BoxL,lk];exact hro _ _ _ _)) ?_;rintro⟨c,i⟩ S ⟨hi,hinv⟩ hS;simp only[stAuI] at hS hi hinv;subst hS;have hw:=sW (i:=i) (by omega);have hsucc:=auP_succ m.next f out i;have hcl:=auP_len m.next f out i;obtain⟨cur,hcur⟩:∃cur,auP m.next f out i=cur:=⟨_,rfl⟩
  rw[hcur] at hsucc hcl;rw[hcur];repeat first|simp|refine sR ?_|refine sC ?_
  refine⟨fun hlt=>?_,fun hge=>?_⟩
  .have hi1:i<cur.length:=by omega
   have hi2:i<f.length:=by omega
   have hi3:i<m.next.length:=by omega
   have hrg:=rowsBX_get hi1 R;have hrs:=rowsBX_set cur i hi1 true R;have hgn:m.next.getD i []=m.next[i]:=by simp[hi3]
   have hg1:cur.getD i false=cur[i]:=by simp[hi1]
   have hg2:f.getD i false=f[i]:=by simp[hi2]
   have hrR:=hm.nextR _ (List.getElem_mem hi3);have hrL:=hm.nextL _ (List.getElem_mem hi3);have hau:=auS_count m.next f cur hi1;unfold auS at hsucc;rw[hgn,hg1,hg2] at hsucc;generalize hr:m.next[i]=r at *;have hsk:∀_:auP m.next f out (i+1)=cur,∀S',S'=stAuI m f out g.length R nb box tok2 nt2 ⟨c,i+1⟩->True:=fun _ _ _=>trivial
   clear hsk;cases e1:cur[i]
   .cases e2:f[i]
    .simp only[e1,e2,Bool.false_eq_true,true_or,or_true,↓reduceIte] at hsucc;try (simp[hlt,hi1,hi2,hi3,hrg,e1,e2,hw])
     repeat (first|(refine sR ?_;simp[hlt,hi1,hi2,hi3,hrg,e1,e2,hw])|(refine sC ?_;simp[hlt,hi1,hi2,hi3,hrg,e1,e2,hw])|(refine sX ?_;simp only[AU,↓reduceIte]))
     refine sE ?_;exact⟨⟨c,i+1⟩,⟨hlt,hinv.same (hsucc.trans hcur.symm)⟩,by simp only;omega,wM htk1.le rfl (by simp[ToL,lk,lb_at]) (by simp[BoxL,lk,hsucc];exact hro _ _ _ _)⟩
    .simp only[e1,e2,Bool.false_eq_true,Bool.true_eq_false,false_or] at hsucc;have hcf:=containsFunc_c r 233 [.ptr (nb+7) 0 0] (fun k=>!cur.getD k.toNat false) (by omega) (lb nb box [(11,rowsB cur++R),(7,[[.msl (nb+11) 0 g.length 1]]),(3,[m.row])]) (nb+43) tok2 nt2 (by simp[lb_at,lk]) (fun k hk box' nb' he=>auc_c cur g.length (by omega) k (hrR k hk) R (nb+7) (nb+11) nb' box' tok2 nt2 (he _ _ (by simp[lb_at,lk])) (he _ _ (by simp[lb_at,lk])));try (simp[hlt,hi1,hi2,hi3,hrg,e1,e2,hr,hw])
     repeat (first|(refine sR ?_;simp[hlt,hi1,hi2,hi3,hrg,e1,e2,hr,hw])|(refine sC ?_;simp[hlt,hi1,hi2,hi3,hrg,e1,e2,hr,hw])|(refine sX ?_;simp only[AU,↓reduceIte]))
     have hany:anyB (fun k:Int=>!cur.getD k.toNat false) r=r.any fun k=>!cur.getD k.toNat false:=rfl
     rw[hany] at hcf;generalize hA:(r.any fun k=>!cur.getD k.toNat false)=A at *;refine Stop.of_b (hcf) ?_;simp;cases A
     .simp only[Bool.false_eq_true,↓reduceIte] at hsucc;try (simp[hlt,hi1,hrg,hrs,hw])
      repeat (first|(refine sR ?_;simp[hlt,hi1,hrg,hrs,hw])|(refine sC ?_;simp[hlt,hi1,hrg,hrs,hw])|(refine sX ?_;simp only[AU,↓reduceIte]))
      try (simp[hw])
      repeat (first|(refine sR ?_;simp[hw])|(refine sC ?_;simp[hw])|(refine sX ?_;simp only[AU,↓reduceIte]))
      refine sE ?_;have hdn:(auP m.next f out (i+1)).count false+1=(auP m.next f out i).count false:=by
       rw[hsucc,hcur];exact count_set hi1 e1
      exact⟨⟨true,i+1⟩,⟨hlt,hinv.down hdn⟩,by simp only;omega,wM htk1.le rfl (by simp[ToL,lk,lb_at]) (by simp[BoxL,lk,hsucc];exact hro _ _ _ _)⟩
     .simp only[↓reduceIte] at hsucc;try (simp[hw])
      repeat (first|(refine sR ?_;simp[hw])|(refine sC ?_;simp[hw])|(refine sX ?_;simp only[AU,↓reduceIte]))
      refine sE ?_;exact⟨⟨c,i+1⟩,⟨hlt,hinv.same (hsucc.trans hcur.symm)⟩,by simp only;omega,wM htk1.le rfl (by simp[ToL,lk,lb_at]) (by simp[BoxL,lk,hsucc];exact hro _ _ _ _)⟩
   .simp only[e1,true_or,↓reduceIte] at hsucc;try (simp[hlt,hi1,hi2,hi3,hrg,e1,hw])
    repeat (first|(refine sR ?_;simp[hlt,hi1,hi2,hi3,hrg,e1,hw])|(refine sC ?_;simp[hlt,hi1,hi2,hi3,hrg,e1,hw])|(refine sX ?_;simp only[AU,↓reduceIte]))
    refine sE ?_;exact⟨⟨c,i+1⟩,⟨hlt,hinv.same (hsucc.trans hcur.symm)⟩,by simp only;omega,wM htk1.le rfl (by simp[ToL,lk,lb_at]) (by simp[BoxL,lk,hsucc];exact hro _ _ _ _)⟩
  .refine sX ?_;simp only[AU,↓reduceIte];have:i=g.length:=by omega
   subst this;rw[hol] at hstep;unfold AuInvI at hinv;simp only at hinv;rw[hcur] at hinv hstep;cases c with
   | false =>
    simp only[Bool.false_eq_true,↓reduceIte] at hinv;subst hinv;rcases hstep with ⟨h1,h2⟩|⟨h1,h2⟩
    .try (simp)
     repeat (first|(refine sR ?_;simp)|(refine sC ?_;simp)|(refine sX ?_;simp only[AU,↓reduceIte]))
     refine sE ?_;refine⟨⟨false,cur⟩,⟨hol,?_⟩,by simp,wM htk1.le rfl (by simp[ToL,lk,lb_at]) (by simp[BoxL,lk];exact hro _ _ _ _)⟩;simp only[AuInv,Bool.false_eq_true,↓reduceIte];exact h2
    .exact absurd rfl h1
   | true =>
    simp only[↓reduceIte] at hinv;rcases hstep with ⟨h1,h2⟩|⟨h1,h2⟩
    .rw[h1] at hinv;omega
    .try (simp)
     repeat (first|(refine sR ?_;simp)|(refine sC ?_;simp)|(refine sX ?_;simp only[AU,↓reduceIte]))
     refine sE ?_;refine⟨⟨true,cur⟩,⟨by simp only;omega,?_⟩,by simp;omega,wM htk1.le rfl (by simp[ToL,lk,lb_at]) (by simp[BoxL,lk];exact hro _ _ _ _)⟩;simp only[AuInv,↓reduceIte];exact⟨n-1,by omega,h2⟩
def hok1(m:Mdl)(k:Int)(s:ByteArray)(n:Nat):Prop:=(k=1->∃a∈m.atoms,a.1=s)/\(k≠1->1<=n)/\(k≠1->k≠2->k≠3->k≠4->k≠5->k≠9->k≠6->k≠11->k≠7->k≠10->2<=n)
mutual
def Fo.Hok(m:Mdl):Fo->Prop
 | .mk k s c=>hok1 m k s c.length/\Fo.HokL m c
def Fo.HokL(m:Mdl):List Fo->Prop
 | []=>True
 | x::r=>Fo.Hok m x/\Fo.HokL m r
end
theorem Fo.HokL_mem{m:Mdl}:∀{l:List Fo},Fo.HokL m l->∀x∈l,x.Hok m
 | [],_,x,hx=>absurd hx (by simp)
 | y::r,h,x,hx=>by
  simp only[Fo.HokL] at h;rcases List.mem_cons.1 hx with rfl|hx
  .exact h.1
  .exact Fo.HokL_mem h.2 x hx
theorem Fo.Hok.kid{m:Mdl}{f x:Fo}(h:f.Hok m)(hx:x∈f.kids):x.Hok m:=by
 cases f;simp only[Fo.Hok] at h;exact Fo.HokL_mem h.2 x hx
theorem Fo.Hok.one{m:Mdl}{f:Fo}(h:f.Hok m):hok1 m f.kind f.name f.kids.length:=by
 cases f;simp only[Fo.Hok] at h;exact h.1
theorem Fo.holdsL_map(m:Mdl):∀l:List Fo,Fo.holdsL m l=l.map (Fo.holds m)
 | []=>by simp[Fo.holdsL]
 | x::r=>by simp[Fo.holdsL,Fo.holdsL_map m r]
def holdV(m:Mdl)(k:Int)(s:ByteArray)(l:List (List Bool)):List Bool :=
 if k=1 then atomR m.atoms s else
  if k=2 then notR (l.headD []) else if k=3∨k=4 then l.tail.foldl (zipB k) (l.headD []) else if k=5 then someR m.next (l.headD []) else if k=9 then notR (someR m.next (notR (l.headD [])))
  else if k=6 then untilR m.prev (allR (l.headD []).length) (l.headD []) else if k=11 then notR (untilR m.prev (allR (l.headD []).length) (notR (l.headD []))) else if k=7 then alwaysR m.next (l.headD [])
  else if k=10 then notR (alwaysR m.next (notR (l.headD []))) else if k=8 then untilR m.prev (l.headD []) (l.tail.headD []) else allUntilR m.next (l.headD []) (l.tail.headD [])
theorem Fo.holds_eq(m:Mdl)(f:Fo):f.holds m=holdV m f.kind f.name (f.kids.map (Fo.holds m)):=by
 cases f;rw[Fo.holds,Fo.holdsL_map];rfl
theorem atomR_len{m:Mdl}{n:Nat}(hm:m.Ok n){s:ByteArray}(h:∃a∈m.atoms,a.1=s):(atomR m.atoms s).length=n:=by
 unfold atomR;cases e:m.atoms.find? fun e=>decide (e.1=s) with
 | some a=>exact hm.atoms _ (List.mem_of_find?_eq_some e)
 | none =>
  obtain⟨a,ha,rfl⟩:=h;have:=List.find?_eq_none.1 e a ha
  simp at this
theorem bfs_len(pv:List (List Int))(f:List Bool)(h:∀r∈pv,∀k∈r,inR pv.length k):∀(n:Nat) (out:List Bool) (q:List Int),out.length=pv.length->(bfs pv f n out q).length=pv.length
 | _,out,[],ho=>by rw[bfs_nil];exact ho
 | 0,out,k::q,ho=>by rw[bfs];exact ho
 | n+1,out,k::q,ho=>by
  rw[bfs];refine bfs_len pv f h n _ _ ?_;have hr:∀j∈pv.getD k.toNat [],inR out.length j:=by
   intro j hj;rw[ho];by_cases hk:k.toNat<pv.length
   .have:pv.getD k.toNat []=pv[k.toNat]:=by simp[hk]
    rw[this] at hj;exact h _ (List.getElem_mem hk) j hj
   .have:pv.getD k.toNat []=[]:=by simp[Nat.not_lt.1 hk]
    rw[this] at hj;simp at hj
  exact(bfsF_m (f:=f) _ (out,q) hr).2.trans ho
theorem untilR_len{m:Mdl}{n:Nat}(hm:m.Ok n)(f g:List Bool)(hg:g.length=n):(untilR m.prev f g).length=n:=by
 unfold untilR;rw[bfs_len _ _ (fun r hr k hk=>by rw[hm.prev];exact hm.prevR r hr k hk) _ _ _ (by rw[hm.prev];exact hg)];exact hm.prev
theorem alwN_len{nx:List (List Int)}:∀(n:Nat) (out:List Bool),nx.length=out.length->(alwN nx n out).length=out.length
 | 0,out,h=>by rw[alwN]
 | n+1,out,h=>by
  rw[alwN];split
  .rfl
  .rw[alwN_len n _ (by rw[alwS_len h];exact h),alwS_len h]
theorem alwaysR_len{m:Mdl}{n:Nat}(hm:m.Ok n)(f:List Bool)(hf:f.length=n):(alwaysR m.next f).length=n:=by
 unfold alwaysR;rw[alwN_len _ _ (by rw[hm.next,hf]),hf]
theorem auN_len{nx:List (List Int)}{f:List Bool}:∀(n:Nat) (out:List Bool),(auN nx f n out).length=out.length
 | 0,out=>by rw[auN]
 | n+1,out=>by
  rw[auN];split
  .rfl
  .rw[auN_len n _,auP_len]
theorem zipF_len(k:Int)(n:Nat):∀(l:List (List Bool)) (x:List Bool),x.length=n->(∀y∈l,y.length=n)->(l.foldl (zipB k) x).length=n
 | [],x,h,_=>h
 | y::l,x,h,hl=>by
  rw[List.foldl_cons];exact zipF_len k n l _ (by simp[zipB,h,hl y (by simp)]) fun z hz=>hl z (by simp[hz])
theorem holdV_len{m:Mdl}{n:Nat}(hm:m.Ok n){k:Int}{s:ByteArray}{l:List (List Bool)}(hk:hok1 m k s l.length)(hl:∀x∈l,x.length=n):(holdV m k s l).length=n:=by
 obtain⟨h1,h2,h3⟩:=hk;unfold holdV;by_cases c1:k=1
 .rw[if_pos c1];exact atomR_len hm (h1 c1)
 .rw[if_neg c1];have hx:(l.headD []).length=n:=by
   cases l with
   | nil=>have:=h2 c1;simp at this
   | cons a r=>exact hl a (by simp)
  have hn:=hm.next;by_cases c2:k=2
  .rw[if_pos c2];simp only[notR_len];exact hx
  rw[if_neg c2];by_cases c3:k=3∨k=4
  .rw[if_pos c3];exact zipF_len k n _ _ hx fun y hy=>hl y (List.mem_of_mem_tail hy)
  rw[if_neg c3];have c3':k≠3:=fun h=>c3 (.inl h)
  have c4':k≠4:=fun h=>c3 (.inr h)
  by_cases c5:k=5
  .rw[if_pos c5];simp[hn]
  rw[if_neg c5];by_cases c9:k=9
  .rw[if_pos c9];simp[hn]
  rw[if_neg c9];by_cases c6:k=6
  .rw[if_pos c6];exact untilR_len hm _ _ hx
  rw[if_neg c6];by_cases c11:k=11
  .rw[if_pos c11];simp only[notR_len];exact untilR_len hm _ _ (by simp only[notR_len];exact hx)
  rw[if_neg c11];by_cases c7:k=7
  .rw[if_pos c7];exact alwaysR_len hm _ hx
  rw[if_neg c7];by_cases c10:k=10
  .rw[if_pos c10];simp only[notR_len];exact alwaysR_len hm _ (by simp only[notR_len];exact hx)
  rw[if_neg c10];have hy:(l.tail.headD []).length=n:=by
   have h3:=h3 c1 c2 c3' c4' c5 c9 c6 c11 c7 c10
   match l,h3,hl with
   | a::b::r,_,hl=>exact hl b (by simp)
  by_cases c8:k=8
  .rw[if_pos c8];exact untilR_len hm _ _ hy
  rw[if_neg c8];unfold allUntilR;rw[auN_len];exact hy
theorem Fo.holds_len{m:Mdl}{n:Nat}(hm:m.Ok n):∀(b:Nat) (f:Fo),f.size<b->f.Hok m->(f.holds m).length=n
 | 0,f,hb,_=>absurd hb (Nat.not_lt_zero _)
 | b+1,f,hb,hf=>by
  rw[Fo.holds_eq];refine holdV_len hm (by simpa using hf.one) fun x hx=>?_
  obtain⟨y,hy,rfl⟩:=List.mem_map.1 hx;exact Fo.holds_len hm b y (by have:=Fo.kid_size hy;omega) (hf.kid hy)
end Go.AM
