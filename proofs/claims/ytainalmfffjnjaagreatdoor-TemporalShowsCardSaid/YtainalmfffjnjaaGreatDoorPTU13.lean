/-
 Parts of the proof, as merged from many texts: a machine over data, what the functions compute, plain laws.
-/
import Derived.Test.YtainalmfffjnjaaGreatDoorPTU12
import Derived.WalkKit
import Derived.ProofKit
import Derived.OpenShut
import Derived.ChangeStays
import Derived.SizedLaws
set_option linter.unusedSimpArgs false
set_option linter.unusedVariables false
namespace Go.AM
open Go Go.Proofs
structure Ar50 where
 ru:Int
 fr:Int
 to:Int
 m:Mo
 vs:List Int
abbrev Ar50.cells (a:Ar50):List D:=[.raw (.int .i64 a.ru),.raw (.int .i64 a.fr),.raw (.int .i64 a.to),ints a.m.nodes,ints a.m.edges,ints a.vs]
abbrev Ar50.pr (a:Ar50):Int × Int:=(a.fr,a.to)
abbrev arsD (A:List Ar50):D:=.sl 6 (A.map Ar50.cells)
abbrev Hs.cells (h:Hs):List D:=[ints h.g.nodes,AM.edges h.g.edges,lls h.vals]
abbrev hssD (H:List Hs):D:=.sl 3 (H.map Hs.cells)
abbrev spV (H:List Hs) (A:List Ar50):AV:=.agg [.d (hssD H),.d (arsD A)]
theorem TK.later {mtok:Nat→Bool} {nt0:Nat} {tok tok2:Nat→Bool} {nt nt2:Nat} {os os2:List Own} (h:TK mtok nt0 tok nt os) (k:TK (fun t=>tok t&&decide (t<nt)) nt tok2 nt2 os2):TK mtok nt0 tok2 nt2 os:=by
 have h1:=h.le;have h2:=k.le;refine ⟨fun t ht=>k.old t ?_,h.lt,by omega,fun o ho t e=>?_,h.ne⟩
 ·have:=h.lt t ht
  simp [h.old t ht];omega
 ·obtain ⟨g1,g2,g3⟩:=h.own o ho t e;exact ⟨k.old t (by simp [g1,g3]),g2,by omega⟩
theorem TK.begin (tok:Tks) (nt:Nat):TK (fun t=>tok t&&decide (t<nt)) nt tok nt [.full]:=by
 refine ⟨fun t ht=>?_,fun t ht=>?_,Nat.le_refl _,fun o ho t e=>?_,by simp⟩
 ·simp at ht; exact ht.1
 ·simp at ht; exact ht.2
 ·simp at ho; subst ho; cases e
theorem TK.fulls {mtok:Nat→Bool} {nt0:Nat} {tok:Nat→Bool} {nt:Nat} {os:List Own} (h:TK mtok nt0 tok nt os):∀ n,TK mtok nt0 tok nt (List.replicate n .full++os)
 | 0=>h
 | n+1=>by
  rw [List.replicate_succ,List.cons_append];exact (h.fulls n).full
def CutE {α:Type} (cx:Cx) (nt0:Nat) (T:α→AState) (inv:α→Prop) (S':AState):Prop:=∃ a S1,inv a∧Weaks cx nt0 S' S1∧Trans cx nt0 S1 (T a)
theorem CutE.mk {α:Type} {cx:Cx} {nt0:Nat} {T:α→AState} {inv:α→Prop} {S':AState} (a:α) (S1:AState) (h1:inv a) (h2:Weaks cx nt0 S' S1) (h3:Trans cx nt0 S1 (T a)):CutE cx nt0 T inv S':=⟨a,S1,h1,h2,h3⟩
theorem AL.cutT {P:Program} {cx:Cx} {nt0:Nat} {K:Exit→AState→Prop} {l r:List CI} {S:AState} {y:Code} {α:Type} (T:α→AState) (inv:α→Prop)
  (h1:AL P cx nt0 (fun e S'=>match e with
   | .normal=>CutE cx nt0 T inv S'
   | e=>AU P cx nt0 K (.c y::r) e S') l S) (h2:∀ a,inv a→AL P cx nt0 K (.c y::r) (T a)):AL P cx nt0 K (l++.c y::r) S:=by
 refine (AL.cut_aux ?_ ?_ l).1 S h1
 ·rintro S ⟨a,S1,ha,hw,ht⟩;exact AL.weak hw (AL.trans ht (h2 a ha))
 ·intro e S hne h;cases e with
  | normal=>exact absurd rfl hne
  | _=>exact h
theorem rowsTo_nils {p q:Nat→Prop} {fz:Option (Nat × Nat × List (List D))} (m n:Nat):RowsTo p q fz (List.replicate n [.osl 0 [] .full]) (opRows m n 0):=by
 rw [opRows_zero];refine rowsTo_same fun r hr x hx=>?_
 rw [(List.mem_replicate.1 hr).2] at hx;simp at hx;subst hx;exact .osl fun _ e=>by cases e
theorem opR_snd (m n:Nat):(opR m n).map (·.2)=List.replicate n []:=by
 apply List.ext_getElem <;> simp [opR]
theorem Trans.rfl' {cx:Cx} {nt0:Nat} {S:AState}:Trans cx nt0 S S:=fun G0 w0 G a w he hn hS hL=>⟨G,hS,hL⟩
structure GvH (t:Ty) (H:List Hs) (A:List Ar50) (f:Fo) (L:List Co):Prop where
 ft:t.Fit
 sm:f.Sm
 cos:Cos L
 va:VaF f L
 v0:validF f L=0
 ty:tyE t=0
 cn:∀ c∈L,cnE t c=0
 kd:∀ c∈L,c.kind=1
 hn:0<H.length
 hn2:H.length≤300
 an:A.length≤3000
 hg:∀ h∈H,h.g.Fit∧h.vals.length≤1000000∧(hostR t (atsK t) h).2=0
 ar:∀ a∈A,inR H.length a.fr∧inR H.length a.to
 vi:∀ h∈H,∀ c∈L,(vioS t c h.g fun _=>false).2=0
abbrev zMd:List AV:=[nilS,nilS,.d (.raw (.map none))]
def stGv1 (t:Ty) (H:List Hs) (A:List Ar50) (f:Fo) (L:List Co) (nb:Nat) (box:Bxs) (tok:Tks) (nt:Nat) (i:Nat):AState :=
 ⟨tl [(50,.d (cosD L)),(51,I L.length),(52,I i),(3,.d (cosD L)),(4,.ptr (nb+4) 0 0),(5,.ptr (nb+5) 0 0),(6,.ptr (nb+6) 0 0),(8,.ptr (nb+8) 0 0)],
  lb nb box [(4,[[.d (nts t.nodes),.d (ets t.edges)]]),(5,[[.d (hssD H),.d (arsD A)]]),(6,[f.row]),(8,[zMd])],tok,nt⟩
def stGv2 (t:Ty) (H:List Hs) (A:List Ar50) (f:Fo) (L:List Co) (nb:Nat) (box:Bxs) (tok:Tks) (nt:Nat) (i:Nat):AState :=
 ⟨tl [(80,.d (hssD H)),(81,I H.length),(82,I i),(16,I H.length),(3,.d (cosD L)),(4,.ptr (nb+4) 0 0),(5,.ptr (nb+5) 0 0),(6,.ptr (nb+6) 0 0),(8,.ptr (nb+8) 0 0)],
  lb nb box [(4,[[.d (nts t.nodes),.d (ets t.edges)]]),(5,[[.d (hssD H),.d (arsD A)]]),(6,[f.row]),(8,[zMd])],tok,nt⟩
structure GvA where
 i:Nat
 R:List (Nat × List Int)
 tok:Nat→Bool
 nt:Nat
abbrev gvM (nb n tm:Nat) (q:MpQ):List (List AV):=[[.msl (nb+98) 0 n 1,.msl (nb+100) 0 n 1,.mp tm (encQ q)]]
abbrev gvP (n:Nat):List (List Int × Own):=List.replicate n ([],.full)
def stGv3 (t:Ty) (H:List Hs) (A:List Ar50) (f:Fo) (L:List Co) (n tm nb:Nat) (box:Bxs) (x:GvA):AState :=
 ⟨tl [(104,.d (arsD A)),(105,I A.length),(106,I x.i),(16,I n),(3,.d (cosD L)),(21,.ptr (nb+21) 0 0),(4,.ptr (nb+4) 0 0),(5,.ptr (nb+5) 0 0),(6,.ptr (nb+6) 0 0),(8,.ptr (nb+8) 0 0)],
  lb nb box [(98,rowsS x.R),(100,rowsW (gvP n)),(4,[[.d (nts t.nodes),.d (ets t.edges)]]),(5,[[.d (hssD H),.d (arsD A)]]),(6,[f.row]),(8,[zMd]),(21,gvM nb n tm [])],x.tok,x.nt⟩
theorem rowsS_mpU (t n:Nat) (es:List (ByteArray × List (List D) × Own)) (R:List (Nat × List Int)):(rowsS R).map (fun r=>r.map (AV.mpU t n es))=rowsS R:=by
 simp [rowsS,AV.mpU]
theorem rowsW_mpU (t n:Nat) (es:List (ByteArray × List (List D) × Own)) (P:List (List Int × Own)):(rowsW P).map (fun r=>r.map (AV.mpU t n es))=rowsW P:=by
 simp [rowsW,AV.mpU]
theorem rowsD_mpF (t:Nat) (es:List (List D)):(rowsD es).map (fun r=>r.map (AV.mpF t))=rowsD es:=by
 simp only [rowsD,List.map_map];refine List.map_congr_left fun e _=>?_
 simp only [Function.comp,List.map_map];refine List.map_congr_left fun x _=>?_
 rfl
structure GvB where
 i:Nat
 q:MpQ
 t:Nat
 tok:Nat→Bool
 nt:Nat
structure GvI (R:List (Nat × List Int)) (mtok:Tks) (nt0:Nat) (es:List (ByteArray × List Bool)) (M:Nat) (x:GvB):Prop where
 pl:plQ x.q=es
 le:∀ e∈x.q,e.2.1.length≤M
 tk:TK mtok nt0 x.tok x.nt (.tok x.t::(ownQ x.q++ownR R))
def stGv4 (t:Ty) (H:List Hs) (L:List Co) (F:List ByteArray) (n:Nat) (R:List (Nat × List Int)) (nb:Nat) (box:Bxs) (x:GvB):AState :=
 ⟨tl [(160,.d (hssD H)),(161,I H.length),(162,I x.i),(24,.d (strs F)),(3,.d (cosD L)),(21,.ptr (nb+21) 0 0),(4,.ptr (nb+4) 0 0),(8,.ptr (nb+8) 0 0)],
  lb nb box [(98,rowsS R),(100,rowsW (gvP n)),(4,[[.d (nts t.nodes),.d (ets t.edges)]]),(8,[zMd]),(21,gvM nb n x.t x.q)],x.tok,x.nt⟩
def stGv5 (t:Ty) (H:List Hs) (L:List Co) (F:List ByteArray) (n:Nat) (R:List (Nat × List Int)) (h:Hs) (i:Nat) (nb:Nat) (box:Bxs) (x:GvB):AState :=
 ⟨tl [(166,.d (cosD L)),(167,I L.length),(168,I x.i),(26,.ptr (nb+26) 0 0),(160,.d (hssD H)),(161,I H.length),(162,I i),(24,.d (strs F)),(3,.d (cosD L)),(21,.ptr (nb+21) 0 0),(4,.ptr (nb+4) 0 0),(8,.ptr (nb+8) 0 0)],
  lb nb box [(98,rowsS R),(100,rowsW (gvP n)),(26,[[.d (ints h.g.nodes),.d (AM.edges h.g.edges),.d (lls h.vals)]]),(4,[[.d (nts t.nodes),.d (ets t.edges)]]),(8,[zMd]),(21,gvM nb n x.t x.q)],x.tok,x.nt⟩
structure GvC where
 i:Nat
 P:List (List Int × Own)
 tok:Nat→Bool
 nt:Nat
structure GvJ (R:List (Nat × List Int)) (q:MpQ) (tm:Nat) (mtok:Tks) (nt0:Nat) (x:GvC):Prop where
 pv:x.P.map (·.1)=pvP (nxR (R.map (·.2))) x.i
 le:∀ e∈x.P,e.1.length≤x.i * 300
 tk:TK mtok nt0 x.tok x.nt (ownR (R.drop x.i)++(ownW x.P++(.tok tm::ownQ q)))
def midL (A:List (List AV)) (x:List AV) (B:List (List AV)):List (List AV):=A++x::B
theorem midL_len (A:List (List AV)) (x:List AV) (B:List (List AV)):(midL A x B).length=A.length+1+B.length:=by simp [midL]; omega
theorem midL_get {A:List (List AV)} {x:List AV} {B:List (List AV)} {i:Nat} (hA:A.length=i) (h:i<(midL A x B).length):(midL A x B)[i]=x:=by
 subst hA;simp [midL]
theorem midL_set {A:List (List AV)} {x z:List AV} {B:List (List AV)} {i:Nat} (hA:A.length=i):(midL A x B).set i z=midL A z B:=by
 subst hA;simp [midL]
def rowsA (R:List (Nat × List Int)) (i:Nat):List (List AV):=rowsD (((nxR (R.map (·.2))).take i).map fun r=>[ints r])
def rowsX (R:List (Nat × List Int)) (i:Nat):List (List AV):=rowsA R i++rowsS (R.drop i)
theorem rowsX_zero (R:List (Nat × List Int)):rowsX R 0=rowsS R:=by simp [rowsX,rowsA,rowsD]
theorem rowsX_mid {R:List (Nat × List Int)} {i:Nat} (h:i<R.length):rowsX R i=midL (rowsA R i) [.stk R[i].1 1 (rI R[i].2)] (rowsS (R.drop (i+1)))∧(rowsA R i).length=i∧rowsX R (i+1)=midL (rowsA R i) [.d (ints (nx1 i R[i].2))] (rowsS (R.drop (i+1))):=by
 have hl:i<(nxR (R.map (·.2))).length:=by simpa using h
 refine ⟨?_,?_,?_⟩
 ·unfold rowsX midL;rw [List.drop_eq_getElem_cons h];simp only [rowsS,List.map_cons]
 ·simp [rowsA];omega
 ·have hg:(nxR (R.map (·.2)))[i]=nx1 i R[i].2:=by rw [nxR_at (by simpa using h)]; simp
  unfold rowsX midL rowsA;rw [List.take_succ_eq_append_getElem hl,hg];simp [rowsD]
def stGv6 (n tm:Nat) (q:MpQ) (R:List (Nat × List Int)) (nb:Nat) (box:Bxs) (x:GvC):AState :=
 ⟨tl [(207,I n),(208,I x.i),(21,.ptr (nb+21) 0 0),(8,.ptr (nb+8) 0 0)],lb nb box [(98,rowsX R x.i),(100,rowsW x.P),(8,[zMd]),(21,gvM nb n tm q)],x.tok,x.nt⟩
theorem rowsTo_app {p q:Nat→Prop} {fz:Option (Nat × Nat × List (List D))}:∀ {a a' b b':List (List AV)},RowsTo p q fz a a'→RowsTo p q fz b b'→RowsTo p q fz (a++b) (a'++b')
 | [],[],_,_,_,h=>h
 | x::a,y::a',_,_,h,k=>by
  rw [rowsTo_cons] at h;rw [List.cons_append,List.cons_append,rowsTo_cons];exact ⟨h.1,rowsTo_app h.2 k⟩
 | [],_::_,_,_,h,_=>by have:=h.1; simp at this
 | _::_,[],_,_,h,_=>by have:=h.1; simp at this
theorem midX_to {p:Nat→Prop} {fz:Option (Nat × Nat × List (List D))} {R:List (Nat × List Int)} {i j:Nat} {x y:AV} (h:To p (fun _=>True) fz x y):RowsTo p (fun _=>True) fz (midL (rowsA R i) [x] (rowsS (R.drop j))) (midL (rowsA R i) [y] (rowsS (R.drop j))):=by
 unfold midL;refine rowsTo_app (rowsTo_D _) (rowsTo_cons.2 ⟨rowTo_cons.2 ⟨h,rowTo_nil⟩,rowsS_to _⟩)
theorem rowsIX_to {p:Nat→Prop} {q:Nat→Prop} {fz:Option (Nat × Nat × List (List D))} (xs:List Int) (m:Nat):RowsTo p q fz (rowsI xs++List.replicate m (List.replicate 1 .bot)) (rowsI xs++List.replicate m (List.replicate 1 .bot)) :=
 rowsTo_app (rowsTo_I _) (rowsTo_same fun r hr x hx=>by rw [(List.mem_replicate.1 hr).2] at hx; simp at hx; subst hx; exact .bot)
theorem cvRs_cons {Rl:AV→AV→Prop} {x y:List AV} {a b:List (List AV)} (h:CvR Rl x y) (k:CvRs Rl a b):CvRs Rl (x::a) (y::b):=⟨by simp [k.1],fun i h1 h2=>by
 cases i with
 | zero=>exact h
 | succ i=>exact k.2 i (by simpa using h1) (by simpa using h2)⟩
theorem cvRs_ok {Rl:AV→AV→Prop} {a:List (List AV)} (h:∀ r∈a,∀ z∈r,Rl z z):CvRs Rl a a:=⟨rfl,fun i h1 _=>⟨rfl,fun j g1 _=>h _ (List.getElem_mem h1) _ (List.getElem_mem g1)⟩⟩
theorem cvRs_mid {Rl:AV→AV→Prop} {x y:AV} (h:Rl x y) {B:List (List AV)} (hB:∀ r∈B,∀ z∈r,Rl z z):∀ A:List (List AV),(∀ r∈A,∀ z∈r,Rl z z)→CvRs Rl (midL A [x] B) (midL A [y] B)
 | [],_=>cvRs_cons (cvR_cons h cvR_nil) (cvRs_ok hB)
 | a::A,hA=>cvRs_cons ⟨rfl,fun j g1 _=>hA a (by simp) _ (List.getElem_mem g1)⟩ (cvRs_mid h hB A fun r hr=>hA r (by simp [hr]))
theorem nx1_nil (i:Nat):nx1 i []=[(i:Int)]:=by simp [nx1,nx0,sortI]
structure GvD where
 o:Option (List (List AV))
 tok:Nat→Bool
def stGvT (n i tm:Nat) (q:MpQ) (P:List (List Int × Own)) (A B:List (List AV)) (r:List Int) (nt6 nb:Nat) (box:Bxs) (d:GvD):AState:=match d.o with
 | none=>⟨tl [(31,I i),(207,I n),(208,I i),(21,.ptr (nb+21) 0 0),(8,.ptr (nb+8) 0 0)],lb nb box [(98,midL A [.osl 1 (rI [(i:Int)]) .full] B),(100,rowsW P),(8,[zMd]),(21,gvM nb n tm q)],d.tok,nt6⟩
 | some Rr=>⟨tl [(31,I i),(207,I n),(208,I i),(21,.ptr (nb+21) 0 0),(8,.ptr (nb+8) 0 0)],lb nb box [(222,rowsI r++Rr),(98,midL A [.msl (nb+222) 0 r.length 1] B),(100,rowsW P),(8,[zMd]),(21,gvM nb n tm q)],d.tok,nt6⟩
structure GvDI (R:List (Nat × List Int)) (q:MpQ) (P:List (List Int × Own)) (r:List Int) (i tm:Nat) (mtok:Tks) (nt0 nt6:Nat) (d:GvD):Prop where
 no:d.o=none→r=[]
 so:d.o≠none→r≠[]
 to:∀ Rr,d.o=some Rr→∀ xs p q fz,RowsTo p q fz (rowsI xs++Rr) (rowsI xs++Rr)
 tk:TK mtok nt0 d.tok nt6 (ownR (R.drop (i+1))++(ownW P++(.tok tm::ownQ q)))
def stGvT2 (n i tm:Nat) (q:MpQ) (P:List (List Int × Own)) (A B:List (List AV)) (r:List Int) (nt6 nb:Nat) (box:Bxs) (tok2:Nat→Bool):AState :=
 ⟨tl [(31,I i),(207,I n),(208,I i),(21,.ptr (nb+21) 0 0),(8,.ptr (nb+8) 0 0),(228,.bot)],lb nb box [(98,midL A [.d (ints r)] B),(100,rowsW P),(8,[zMd]),(21,gvM nb n tm q)],tok2,nt6⟩
structure GvK (P0:List (List Int)) (i:Nat) (r:List Int) (os:List Own) (mtok:Tks) (nt0:Nat) (y:GvC):Prop where
 pv:y.P.map (·.1)=pvJ i r P0 y.i
 le:∀ e∈y.P,e.1.length≤i * 300+y.i
 tk:TK mtok nt0 y.tok y.nt (ownW y.P++os)
def stGv7 (n i tm:Nat) (q:MpQ) (A B:List (List AV)) (r:List Int) (nb:Nat) (box:Bxs) (y:GvC):AState :=
 ⟨tl [(234,.d (ints r)),(235,I r.length),(236,I y.i),(31,I i),(207,I n),(208,I i),(21,.ptr (nb+21) 0 0),(8,.ptr (nb+8) 0 0)],lb nb box [(98,midL A [.d (ints r)] B),(100,rowsW y.P),(8,[zMd]),(21,gvM nb n tm q)],y.tok,y.nt⟩
def GvTk (R:List (Nat × List Int)) (q:MpQ) (P:List (List Int × Own)) (i tm:Nat) (mtok:Tks) (nt0 nt6:Nat) (tok2:Nat→Bool):Prop:=TK mtok nt0 tok2 nt6 (ownR (R.drop (i+1))++(ownW P++(.tok tm::ownQ q)))
set_option maxRecDepth 100000 in
set_option maxHeartbeats 2000000 in
theorem given50_c (t:Ty) (H:List Hs) (A:List Ar50) (f:Fo) (L:List Co) (h:GvH t H A f L) (tok:Tks) (nt:Nat) :
  DCall Tryz.prog 90 [t.av,spV H A,f.av,.d (cosD L)] tok nt (.tup [(mdlR t H (A.map Ar50.pr) f L).av,I 0]) tok nt:=by
 intro box nb;have hsz:f.size≤1000000:=by have:=h.va.size; omega
 have hval:=validT_c f L hsz h.sm h.cos;rw [h.v0] at hval;have hty:=valid_c4 t h.ft h.ft.hM;rw [h.ty] at hty;have hcn:∀ c∈L,∀ tok nt,DCall Tryz.prog 17 [t.av,c.av] tok nt (I 0) tok nt:=fun c hc tok nt=>by
  have:=validK_c t h.ft c (h.cos.fit c hc) tok nt
  rw [h.cn c hc] at this;exact this
 have hho:∀ x∈H,∀ tok nt,DCall Tryz.prog 154 [t.av,x.av] tok nt (.tup [I (hostR t (atsK t) x).1,I 0]) tok nt:=fun x hx tok nt=>by
  obtain ⟨g1,g2,g3⟩:=h.hg x hx;have:=hostV_c t h.ft x g1 g2 tok nt
  rw [g3] at this;exact this
 have hvi:∀ x∈H,∀ c∈L,∀ tok nt,DCall Tryz.prog 47 [t.av,c.av,x.g.av] tok nt (.tup [.d (.sl 2 (mosR (vioS t c x.g fun _=>false).1)),I 0]) tok nt:=fun x hx c hc tok nt=>by
  have:=violationsK_c t h.ft c (h.cos.fit c hc) x.g (h.hg x hx).1 (fun _=>false) (fun e=>absurd (h.kd c hc) e) tok nt
  rw [h.vi x hx c hc] at this;exact this
 have hLn:=h.cos.n;have hn0:=h.hn;have hn2:=h.hn2;have han:=h.an;have har:=h.ar;obtain ⟨Res,hRes⟩:∃ Res,mdlR t H (A.map Ar50.pr) f L=Res:=⟨_,rfl⟩
 rw [hRes];refine sI Tryz.func90 Tryz.ntmps90 fun hbox htok=>?_
 repeat (first|simp|refine sR ?_)
 refine Stop.of_d (hval _ _) ?_;simp;try (simp)
 repeat (first|(refine sR ?_; simp)|(refine sC ?_; simp)|(refine sX ?_; simp only [AU, ↓reduceIte]))
 refine Stop.of_d (hty _ _) ?_;simp;try (simp)
 repeat (first|(refine sR ?_; simp)|(refine sC ?_; simp)|(refine sX ?_; simp only [AU, ↓reduceIte]))
 refine sN ?_;refine AL.loopT (stGv1 t H A f L nb box tok nt) (fun i=>i≤L.length) (fun i=>L.length - i) 0 (Nat.zero_le _) wkA ?_;rintro i S hi hS;simp only [stGv1] at hS;subst hS;have hw:=sW (i:=i) (by omega);repeat (first|simp|refine sR ?_|refine sC ?_)
 refine ⟨fun hlt=>?_,fun hge=>?_⟩
 ·have hc:=hcn _ (List.getElem_mem hlt);repeat (first|simp [hlt]|refine sR ?_)
  generalize L[i]=x at *;refine Stop.of_d (hc _ _) ?_;simp;try (simp [hw])
  repeat (first|(refine sR ?_; simp [hw])|(refine sC ?_; simp [hw])|(refine sX ?_; simp only [AU, ↓reduceIte]))
  refine sE ?_;exact ⟨i+1,hlt,by omega,wkA⟩
 ·refine sX ?_;simp only [AU, ↓reduceIte];clear hw;have b0:¬ (H.length:Int)=0:=by omega
  have b1:((H.length:Int)==0)=false:=by simpa using b0
  have b2:decide ((300:Int)<(H.length:Int))=false:=by simp; omega
  have b3:decide ((3000:Int)<(A.length:Int))=false:=by simp; omega
  try (simp [b1,b2,b3])
  repeat (first|(refine sR ?_; simp [b1,b2,b3])|(refine sC ?_; simp [b1,b2,b3])|(refine sX ?_; simp only [AU, ↓reduceIte]))
  refine sN ?_;refine AL.loopT (stGv2 t H A f L nb box tok nt) (fun i=>i≤H.length) (fun i=>H.length - i) 0 (Nat.zero_le _) wkA ?_;rintro i S hi hS;simp only [stGv2] at hS;subst hS;have hw:=sW (i:=i) (by omega);repeat (first|simp|refine sR ?_|refine sC ?_)
  refine ⟨fun hlt=>?_,fun hge=>?_⟩
  ·have hc:=hho _ (List.getElem_mem hlt);repeat (first|simp [hlt]|refine sR ?_)
   generalize H[i]=x at *;refine Stop.of_d (hc _ _) ?_;simp;try (simp [hw])
   repeat (first|(refine sR ?_; simp [hw])|(refine sC ?_; simp [hw])|(refine sX ?_; simp only [AU, ↓reduceIte]))
   refine sE ?_;exact ⟨i+1,hlt,by omega,wkA⟩
  ·refine sX ?_;simp only [AU, ↓reduceIte];clear hw;repeat (first|simp|refine sR ?_)
   try refine ⟨by omega,?_⟩
   try simp
   refine AL.weak (Weaks.mk (l':=[(16,I H.length),(3,.d (cosD L)),(21,.ptr (nb+21) 0 0),(4,.ptr (nb+4) 0 0),(5,.ptr (nb+5) 0 0),(6,.ptr (nb+6) 0 0),(8,.ptr (nb+8) 0 0)])
    (loc':=[(98,opRows (nt+1) H.length 0),(100,rowsW (gvP H.length)),(4,[[.d (nts t.nodes),.d (ets t.edges)]]),(5,[[.d (hssD H),.d (arsD A)]]),(6,[f.row]),(8,[zMd]),(21,gvM nb H.length nt [])]) (Nat.le_succ _) rfl (by simp [ToL,lk]) (by simp [BoxL,lk]; exact ⟨rowsTo_nils _ _,rowsW_nil _⟩)) ?_
   refine AL.trans (Trans.opnRows 98 H.length H.length) ?_;rw [opRows_all];have htk0:TK tok nt (upd tok nt true) (nt+1) [.tok nt]:=((TK.start htok).full.app:TK _ _ _ _ _)
   have htk1:=htk0.opTok H.length;have hR0:(opR (nt+1) H.length).map (·.2)=arP H.length (A.map Ar50.pr) 0:=by rw [opR_snd,arP_zero]
   have hnt1:nt≤nt+1+H.length:=by omega
   generalize opR (nt+1) H.length=R0 at *;generalize opTok (upd tok nt true) (nt+1) H.length=tok1 at *;generalize nt+1+H.length=nt1 at *;repeat (first|simp|refine sR ?_)
   refine sN ?_;refine AL.loopT (stGv3 t H A f L H.length nt nb box) (fun x=>x.i≤A.length∧x.R.map (·.2)=arP H.length (A.map Ar50.pr) x.i∧TK tok nt x.tok x.nt (ownR x.R++[.tok nt])) (fun x=>A.length - x.i) ⟨0,R0,tok1,nt1⟩ ⟨Nat.zero_le _,hR0,htk1⟩ (Weaks.mk hnt1 rfl (by simp [ToL,lk]) (by simp [BoxL,lk]; exact ⟨rowsS_to _,rowsW_to _⟩)) ?_;rintro ⟨i,R,tok3,nt3⟩ S ⟨hi,hR,htk⟩ hS;simp only [stGv3] at hS hi hR htk;subst hS;have hw:=sW (i:=i) (by omega);have harm:∀ a∈A.map Ar50.pr,inR H.length a.1∧inR H.length a.2:=fun a ha=>by obtain ⟨x,hx,rfl⟩:=List.mem_map.1 ha; exact har x hx
   have hok:=arP_ok harm i (by simpa using hi);have hRl:R.length=H.length:=by have:=congrArg List.length hR; rw [hok.len] at this; simpa using this
   repeat (first|simp|refine sR ?_|refine sC ?_)
   refine ⟨fun hlt=>?_,fun hge=>?_⟩
   ·obtain ⟨⟨f1,f2⟩,f3,f4⟩:=har _ (List.getElem_mem hlt);have hsucc:=arP_succ (n:=H.length) (A:=A.map Ar50.pr) (i:=i) (by simpa using hlt);have hpr:(A.map Ar50.pr)[i]'(by simpa using hlt)=A[i].pr:=by simp
    rw [hpr] at hsucc;repeat (first|simp [hlt]|refine sR ?_)
    generalize A[i]=x at *;have g1:¬ x.fr<0:=by omega
    have g2:¬ (H.length:Int)≤x.fr:=by omega
    have g3:¬ x.to<0:=by omega
    have g4:¬ (H.length:Int)≤x.to:=by omega
    have fk:x.fr.toNat<R.length:=by omega
    have fk2:x.fr.toNat<H.length:=by omega
    have hRk:(arP H.length (A.map Ar50.pr) i).getD x.fr.toNat []=R[x.fr.toNat].2:=by rw [←hR]; simp [fk]
    have hRn:R[x.fr.toNat].2.length≤300:=by
     have:=hok.le ((arP H.length (A.map Ar50.pr) i).getD x.fr.toNat []) (by
      have hl:x.fr.toNat<(arP H.length (A.map Ar50.pr) i).length:=by rw [hok.len]; exact fk2
      rw [List.getD_eq_getElem?_getD,List.getElem?_eq_getElem hl,Option.getD_some];exact List.getElem_mem _)
     rw [hRk] at this;omega
    have hrg:∀ h,(rowsS R)[x.fr.toNat]'h=[AV.stk R[x.fr.toNat].1 1 (rI R[x.fr.toNat].2)]:=fun h=>by simp [rowsS]
    obtain ⟨hlv,hap⟩:=htk.rowApp fk (R[x.fr.toNat].2++[x.to]);unfold arS at hsucc;simp only [Ar50.pr] at hsucc;rw [hRk] at hsucc;try (simp [g1,g2,g3,g4,fk,fk2,f1,f2,hrg])
    repeat (first|(refine sR ?_; simp [g1,g2,g3,g4,fk,fk2,f1,f2,hrg])|(refine sC ?_; simp [g1,g2,g3,g4,fk,fk2,f1,f2,hrg])|(refine sX ?_; simp only [AU, ↓reduceIte]))
    have hct:=fun tok=>contains_c R[x.fr.toNat].2 x.to (by omega) tok nt3
    refine Stop.of_r (RCall.lends rfl hct ⟨.stk hlv,.same (by simp),trivial⟩) ?_;cases ed:decide (x.to∈R[x.fr.toNat].2)
    ·rw [ed] at hsucc;simp only [Bool.false_eq_true, ↓reduceIte] at hsucc;try (simp [g1,g2,g3,g4,fk,fk2,f1,f2,hrg])
     repeat (first|(refine sR ?_; simp [g1,g2,g3,g4,fk,fk2,f1,f2,hrg])|(refine sC ?_; simp [g1,g2,g3,g4,fk,fk2,f1,f2,hrg])|(refine sX ?_; simp only [AU, ↓reduceIte]))
     refine ⟨⟨by omega,hlv⟩,?_⟩;have hset:=rowsS_set R x.fr.toNat nt3 (R[x.fr.toNat].2++[x.to]);rw [←rI_snoc] at hset;try (simp [hset,hw])
     repeat (first|(refine sR ?_; simp [hset,hw])|(refine sC ?_; simp [hset,hw])|(refine sX ?_; simp only [AU, ↓reduceIte]))
     refine sE ?_;exact ⟨⟨i+1,R.set x.fr.toNat (nt3,R[x.fr.toNat].2++[x.to]),_,nt3+1⟩,⟨hlt,by simp only; rw [hsucc,←hR,List.map_set],hap⟩,by simp only; omega,Weaks.mk hap.le rfl (by simp [ToL,lk]) (by simp [BoxL,lk]; exact ⟨rowsS_to _,rowsW_to _⟩)⟩
    ·rw [ed] at hsucc;simp only [↓reduceIte] at hsucc;try (simp [hw])
     repeat (first|(refine sR ?_; simp [hw])|(refine sC ?_; simp [hw])|(refine sX ?_; simp only [AU, ↓reduceIte]))
     refine sE ?_;exact ⟨⟨i+1,R,tok3,nt3⟩,⟨hlt,by simp only; rw [hsucc]; exact hR,htk⟩,by simp only; omega,Weaks.mk htk.le rfl (by simp [ToL,lk]) (by simp [BoxL,lk]; exact ⟨rowsS_to _,rowsW_to _⟩)⟩
   ·refine sX ?_;simp only [AU, ↓reduceIte];have:i=A.length:=by omega
    subst this;clear hw;have hrg:R.map (·.2)=arP H.length (A.map Ar50.pr) (A.map Ar50.pr).length:=by rw [hR,List.length_map]
    have hat:=atomsT_c (fun t=>tok3 t&&decide (t<nt3)) nt3 _ f (Nat.lt_succ_self _) hsz [] .full 0 tok3 nt3 (TK.begin tok3 nt3) (.inr ⟨rfl,rfl⟩) (by simp; omega);rw [List.nil_append] at hat;obtain ⟨F,hF⟩:∃ F,f.ats=F:=⟨_,rfl⟩
    have hFl:F.length≤1000000:=by rw [←hF]; have:=f.ats_len _ (Nat.lt_succ_self _); omega
    rw [hF] at hat;repeat (first|simp|refine sR ?_)
    refine Stop.of_a (hat _ _) ?_;rintro v m' ⟨sz,own,tok4,nt4,rfl,rfl,htk4,hle4,hsz4⟩;have hto:∀ p q fz,To p q fz (.osl sz (rSt F) own) (.d (strs F)):=fun p q fz=>by
     rcases hsz4 with h|⟨h,_⟩
     ·subst h; exact .data
     ·subst h; exact .odsub .emp
    have htk5:TK tok nt tok4 nt4 (.tok nt::(ownQ []++ownR R)):=(htk.later htk4).perm List.perm_append_comm
    clear htk htk4 hat hle4 hsz4;repeat (first|simp|refine sR ?_)
    refine sN ?_;refine AL.loopT (stGv4 t H L F H.length R nb box) (fun x=>x.i≤H.length∧GvI R tok nt ((H.take x.i).foldl (atmH (memS F) (bitS t) L) []) (x.i * 20) x) (fun x=>H.length - x.i) ⟨0,[],nt,tok4,nt4⟩ ⟨Nat.zero_le _,⟨by simp,by simp,htk5⟩⟩ (Weaks.mk htk5.le rfl (by simp [ToL,lk]; exact hto _ _ _) (by simp [BoxL,lk]; exact ⟨rowsS_to _,rowsW_to _⟩)) ?_;clear htk5 hto;rintro ⟨i,q,tm,tok5,nt5⟩ S ⟨hi,hI⟩ hS;simp only [stGv4] at hS hi hI;subst hS;have hw:=sW (i:=i) (by omega);repeat (first|simp|refine sR ?_|refine sC ?_)
    refine ⟨fun hlt=>?_,fun hge=>?_⟩
    ·have hvh:=hvi _ (List.getElem_mem hlt);have hsucc:(H.take (i+1)).foldl (atmH (memS F) (bitS t) L) []=L.foldl (atmS (memS F) (bitS t H[i])) ((H.take i).foldl (atmH (memS F) (bitS t) L) []):=by
      rw [List.take_succ_eq_append_getElem hlt,List.foldl_append];rfl
     have hI0:GvI R tok nt ((L.take 0).foldl (atmS (memS F) (bitS t H[i])) ((H.take i).foldl (atmH (memS F) (bitS t) L) [])) (i * 20+0) ⟨0,q,tm,tok5,nt5⟩:=⟨hI.pl,hI.le,hI.tk⟩
     have hle0:=hI.tk.le;clear hI;generalize (H.take i).foldl (atmH (memS F) (bitS t) L) []=es0 at *;repeat (first|simp [hlt]|refine sR ?_)
     generalize H[i]=hh at *;repeat (first|simp|refine sR ?_)
     refine sN ?_;refine AL.loopT (stGv5 t H L F H.length R hh i nb box) (fun x=>x.i≤L.length∧GvI R tok nt ((L.take x.i).foldl (atmS (memS F) (bitS t hh)) es0) (i * 20+x.i) x) (fun x=>L.length - x.i) ⟨0,q,tm,tok5,nt5⟩ ⟨Nat.zero_le _,hI0⟩ (Weaks.mk hle0 rfl (by simp [ToL,lk]) (by simp [BoxL,lk]; exact ⟨rowsS_to _,rowsW_to _⟩)) ?_;clear hI0 hle0;rintro ⟨j,q,tm,tok5,nt5⟩ S ⟨hj,hI⟩ hS;simp only [stGv5] at hS hj hI;subst hS;have hw2:=sW (i:=j) (by omega);repeat (first|simp|refine sR ?_|refine sC ?_)
     refine ⟨fun hlt2=>?_,fun hge2=>?_⟩
     ·have hvc:=hvh _ (List.getElem_mem hlt2);have hstep:(L.take (j+1)).foldl (atmS (memS F) (bitS t hh)) es0=atmS (memS F) (bitS t hh) ((L.take j).foldl (atmS (memS F) (bitS t hh)) es0) L[j]:=by
       rw [List.take_succ_eq_append_getElem hlt2,List.foldl_append];rfl
      generalize hes2:(L.take (j+1)).foldl (atmS (memS F) (bitS t hh)) es0=es2 at *;generalize (L.take j).foldl (atmS (memS F) (bitS t hh)) es0=es1 at *;repeat (first|simp [hlt2]|refine sR ?_)
      generalize L[j]=c at *;refine Stop.of_d (containsS_c F c.name hFl _ _) ?_;simp;unfold atmS at hstep;have hle1:=hI.tk.le;cases eu:memS F c.name
      ·rw [eu] at hstep;simp only [Bool.false_eq_true, ↓reduceIte] at hstep;try (simp [hw2])
       repeat (first|(refine sR ?_; simp [hw2])|(refine sC ?_; simp [hw2])|(refine sX ?_; simp only [AU, ↓reduceIte]))
       refine sE ?_;exact ⟨⟨j+1,q,tm,tok5,nt5⟩,⟨hlt2,by simp only; rw [hes2,hstep]; exact ⟨hI.pl,fun e he=>by have:=hI.le e he; omega,hI.tk⟩⟩,by simp only; omega,Weaks.mk hle1 rfl (by simp [ToL,lk]) (by simp [BoxL,lk]; exact ⟨rowsS_to _,rowsW_to _⟩)⟩
      ·rw [eu] at hstep;simp only [↓reduceIte] at hstep;try (simp)
       repeat (first|(refine sR ?_; simp)|(refine sC ?_; simp)|(refine sX ?_; simp only [AU, ↓reduceIte]))
       refine Stop.of_d (hvc _ _) ?_;simp;unfold bitS at hstep;generalize (vioS t c hh.g fun _=>false).1=V at *;obtain ⟨b,hb⟩:∃ b,((V.length:Int)==0)=b:=⟨_,rfl⟩
       have hb2:decide (V.length=0)=b:=by rw [←hb,Bool.eq_iff_iff]; simp
       rw [hb2] at hstep;obtain ⟨sz,xs,own,hget,hsz2,hlv,hxs,hput⟩:=mp_step c.name (hI.tk.perm List.perm_middle.symm);obtain ⟨hpq,hpt⟩:=hput b;have hxl:xs.length≤i * 20+j:=by
        rcases hxs with h|⟨e,he,h⟩
        ·rw [h]; exact Nat.zero_le _
        ·rw [←h]; exact hI.le e he
       have hpt2:TK tok nt (upd (upd (upd (own.kill tok5) nt5 true) tm false) (nt5+1) true) (nt5+1+1) (.tok (nt5+1)::(ownQ (putQ q c.name b nt5)++ownR R)):=(hpt.perm List.perm_middle).app
       have hpl:plQ (putQ q c.name b nt5)=es2:=by rw [putQ_pl,hI.pl,hstep]
       have hple:=putQ_len (s:=c.name) (b:=b) (t:=nt5) hI.le;have hmt:mapT Tryz.prog 178=true:=by kernel_rfl
       have htt:tok5 tm=true:=hI.tk.live
       refine sR ?_;simp;refine sC ?_;simp;refine sN ?_;refine AL.splitLG (by rfl) (by rfl) follows_Tryz (Nat.le_refl _) (by kernel_rfl) ?_;simp [hget,hmt,hb];refine ⟨htt,⟨hsz2,by omega,hlv⟩,?_⟩;refine LastK.put tm (encQ q) c.name (rBo xs++[[D.raw (.bool b)]]) (.tok nt5) rfl rfl hmt (hpt.own (.tok tm) (by simp) tm rfl).1 (by simp) (by simp) (by simp) ?_;rw [hpq];simp [rowsS_mpU,rowsW_mpU];try (simp [hw2])
       repeat (first|(refine sR ?_; simp [hw2])|(refine sC ?_; simp [hw2])|(refine sX ?_; simp only [AU, ↓reduceIte]))
       refine sE ?_;exact ⟨⟨j+1,putQ q c.name b nt5,nt5+1,_,nt5+1+1⟩,⟨hlt2,by simp only; rw [hes2]; exact ⟨hpl,fun e he=>by have:=hple e he; omega,hpt2⟩⟩,by simp only; omega,Weaks.mk hpt2.le rfl (by simp [ToL,lk]) (by simp [BoxL,lk]; exact ⟨rowsS_to _,rowsW_to _⟩)⟩
     ·refine sX ?_;simp only [AU, ↓reduceIte];have:j=L.length:=by omega
      subst this;rw [List.take_length,←hsucc] at hI;have hle1:=hI.tk.le;have hnL:=h.va.nL;try (simp [hw])
      repeat (first|(refine sR ?_; simp [hw])|(refine sC ?_; simp [hw])|(refine sX ?_; simp only [AU, ↓reduceIte]))
      refine sE ?_;exact ⟨⟨i+1,q,tm,tok5,nt5⟩,⟨hlt,⟨hI.pl,fun e he=>by have:=hI.le e he; simp only at this ⊢; omega,hI.tk⟩⟩,by simp only; omega,Weaks.mk hle1 rfl (by simp [ToL,lk]) (by simp [BoxL,lk]; exact ⟨rowsS_to _,rowsW_to _⟩)⟩
    ·refine sX ?_;simp only [AU, ↓reduceIte];have:i=H.length:=by omega
     subst this;rw [List.take_length] at hI;clear hw;have hNok:=arP_ok harm (A.map Ar50.pr).length (Nat.le_refl _);rw [←hrg] at hNok;obtain ⟨hXok,hXne⟩:=nxR_ok hNok;have hpl:=hI.pl;simp only at hpl;have hres:Res=⟨nxR (R.map (·.2)),pvP (nxR (R.map (·.2))) H.length,plQ q⟩:=by
      rw [←hRes,hpl,hrg];unfold mdlR usedF;rw [hF];rfl
     have htk6:TK tok nt tok5 nt5 (ownR (R.drop 0)++(ownW (gvP H.length)++(.tok tm::ownQ q))):=by
      have h0:TK tok nt tok5 nt5 ((.tok tm::ownQ q)++ownR R):=hI.tk
      have h1:=(h0.perm List.perm_append_comm).fulls H.length;have h2:=h1.perm (List.perm_append_comm_assoc _ _ _);have e:ownW (gvP H.length)=List.replicate H.length .full:=by simp
      rw [e,List.drop_zero];exact h2
     have hP0:(gvP H.length).map (·.1)=pvP (nxR (R.map (·.2))) 0:=by simp [pvP,hRl]
     have hL0:∀ e∈gvP H.length,e.1.length≤0 * 300:=by
      intro e he;rw [(List.mem_replicate.1 he).2];simp
     clear hI hpl hRes hval hty hcn hho hvi hF hFl hR hrg;repeat (first|simp|refine sR ?_)
     refine sN ?_;refine AL.loopT (stGv6 H.length tm q R nb box) (fun x=>x.i≤H.length∧GvJ R q tm tok nt x) (fun x=>H.length - x.i) ⟨0,gvP H.length,tok5,nt5⟩ ⟨Nat.zero_le _,⟨hP0,hL0,htk6⟩⟩ (Weaks.mk htk6.le rfl (by simp [ToL,lk]) (by simp [BoxL,lk,rowsX_zero]; exact ⟨rowsS_to _,rowsW_to _⟩)) ?_;clear htk6 hP0 hL0;rintro ⟨i,P,tok6,nt6⟩ S ⟨hi,hJ⟩ hS;simp only [stGv6] at hS hi;subst hS;have hw:=sW (i:=i) (by omega);obtain ⟨hJp,hJl,hJt⟩:=hJ;simp only at hJp hJl hJt;have hle6:=hJt.le;repeat (first|simp|refine sR ?_|refine sC ?_)
     refine ⟨fun hlt=>?_,fun hge=>?_⟩
     ·have hiR:i<R.length:=by omega
      obtain ⟨hX,hAl,hX1⟩:=rowsX_mid hiR;have hml:=fun y=>midL_len (rowsA R i) y (rowsS (R.drop (i+1)))
      have hBl:(rowsS (R.drop (i+1))).length=H.length - (i+1):=by simp [hRl]
      have hml:∀ y,(midL (rowsA R i) y (rowsS (R.drop (i+1)))).length=H.length:=fun y=>by rw [midL_len,hAl,hBl]; omega
      have hmg:∀ y h,(midL (rowsA R i) y (rowsS (R.drop (i+1))))[i]'h=y:=fun y h=>midL_get hAl h
      have hms:∀ y z,(midL (rowsA R i) y (rowsS (R.drop (i+1)))).set i z=midL (rowsA R i) z (rowsS (R.drop (i+1))):=fun y z=>midL_set hAl
      have hdr:R.drop i=R[i]::R.drop (i+1):=List.drop_eq_getElem_cons hiR
      rw [hdr] at hJt;have hri:R[i].2∈R.map (·.2):=List.mem_map.2 ⟨_,List.getElem_mem hiR,rfl⟩
      have hrn:=hNok.nod _ hri;have hrr:=hNok.rng _ hri;have hrl:=hNok.le _ hri;rw [hX];have hrv:nx1 i R[i].2=(nxR (R.map (·.2))).getD i []:=by simp [nxR,hiR]
      generalize R[i]=r at *;obtain ⟨tr,r⟩:=r;simp only at hX1 hrv hrn hrr hrl hJt;have htr:tok6 tr=true:=(hJt.own (.tok tr) (by simp) tr rfl).1
      repeat (first|simp [hlt,hml,hmg]|refine sR ?_)
      refine AL.midT (stGvT H.length i tm q P (rowsA R i) (rowsS (R.drop (i+1))) r nt6 nb box) (GvDI R q P r i tm tok nt nt6) ?_ ?_
      ·by_cases hr:r=[]
       ·subst hr;have ht2:=hJt.tail;refine sC ?_;simp;repeat (first|simp [hlt,hml,hmg,hms]|refine sR ?_)
        refine sE ?_;exact ⟨⟨none,tok6⟩,⟨fun _=>rfl,fun h=>absurd rfl h,fun _ h=>by simp at h,ht2⟩,Weaks.mk hle6 rfl (by simp [ToL,lk]) (by simp [BoxL,lk]; exact ⟨midX_to (.same (.osl fun _ e=>by cases e)),rowsW_to _⟩)⟩
       ·have hne:rI r≠[]:=by simpa using hr
        have b:((r.length:Int)==0)=false:=by simpa using hr
        refine AL.weak (Weaks.mk (l':=[(217,.d (.raw (.bool false))),(215,.stk tr 1 (rI r)),(31,I i),(207,I H.length),(208,I i),(21,.ptr (nb+21) 0 0),(8,.ptr (nb+8) 0 0)])
         (loc':=[(98,midL (rowsA R i) [.stk tr 1 (rI r)] (rowsS (R.drop (i+1)))),(100,rowsW P),(8,[zMd]),(21,gvM nb H.length tm q)]) hle6 rfl (by simp [ToL,lk,b]) (by simp [BoxL,lk]; exact ⟨midX_to (.same (.stk trivial)),rowsW_to _⟩)) ?_
        refine AL.thawS (l':=[(217,.d (.raw (.bool false))),(215,.msl (nb+222) 0 r.length 1),(31,I i),(207,I H.length),(208,I i),(21,.ptr (nb+21) 0 0),(8,.ptr (nb+8) 0 0)])
         (loc':=[(98,midL (rowsA R i) [.msl (nb+222) 0 r.length 1] (rowsS (R.drop (i+1)))),(100,rowsW P),(8,[zMd]),(21,gvM nb H.length tm q)]) tr 222 1 (rI r) 215 rfl (show (222:Nat)<255 by decide) rfl htr hne rfl (by simp [CvL])
         ⟨rfl,cvRs_mid (by simp) (fun _ _ _ _=>.same) _ (fun _ _ _ _=>.same),cvB_refl (fun _=>.same) _⟩ ?_
        intro mm;rw [←rowsI_eq];refine sC ?_;simp;refine sE ?_;exact ⟨⟨some (List.replicate mm (List.replicate 1 .bot)),upd tok6 tr false⟩,⟨fun h=>by simp at h,fun _=>hr,fun Rr h=>by cases h; exact fun xs p q fz=>rowsIX_to xs mm,hJt.spend⟩,
         Weaks.mk hle6 rfl (by simp [ToL,lk]) (by simp [BoxL,lk]; exact ⟨rowsIX_to _ _,midX_to (.same (.msl (by simp [lb_at,lk]))),rowsW_to _⟩)⟩
      ·rintro ⟨o,tok7⟩ ⟨hd1,hd2,hd3,hdt⟩;simp only at hd1 hd2 hd3 hdt;refine AL.seq ?_;refine AL.cutT (l:=[_]) (stGvT2 H.length i tm q P (rowsA R i) (rowsS (R.drop (i+1))) (nx1 i r) nt6 nb box) (GvTk R q P i tm tok nt nt6) ?_ ?_
       ·cases o with
        | none =>
         obtain rfl:=hd1 rfl;simp only [stGvT];repeat (first|simp [hlt,hml,hmg]|refine sR ?_)
         refine Stop.data ?_;refine Stop.of_d (sortOne_c _ _ _) ?_;simp;refine sE ?_;exact CutE.mk tok7 (stGvT2 H.length i tm q P (rowsA R i) (rowsS (R.drop (i+1))) (nx1 i []) nt6 nb box tok7) hdt (Weaks.mk hle6 rfl (by simp [ToL,lk]) (by simp [BoxL,lk]; exact ⟨midX_to (by rw [nx1_nil]; exact .data),rowsW_to _⟩)) Trans.rfl'
        | some Rr =>
         have hr:=hd2 (by simp);have hRr:=hd3 Rr rfl;have hsb:=fun bx hk=>sortBox_c r (by omega) bx (nb+222) (nb+255) Rr hk tok7 nt6
         have e0:nx0 i r=r:=by unfold nx0; rw [if_neg hr]
         have hsl:r.length=(rI (sortI r)).length:=by simp [sortI]
         simp only [stGvT];repeat (first|simp [hlt,hml,hmg]|refine sR ?_)
         refine Stop.of_a (hsb _ (by simp [lb_at,lk])) ?_;rintro v m' ⟨rfl,rfl⟩;simp;refine sE ?_;refine CutE.mk tok7 ⟨tl [(31,I i),(207,I H.length),(208,I i),(21,.ptr (nb+21) 0 0),(8,.ptr (nb+8) 0 0),(228,.msl (nb+222) 0 (rI (sortI r)).length 1)],
          lb nb box ((222,rowsD (rI (sortI r))++Rr)::[(98,midL (rowsA R i) [.msl (nb+222) 0 (rI (sortI r)).length 1] (rowsS (R.drop (i+1)))),(100,rowsW P),(8,[zMd]),(21,gvM nb H.length tm q)]),tok7,nt6⟩ hdt ?_ ?_
         ·rw [←hsl,←rowsI_eq];exact Weaks.mk hle6 rfl (by simp [ToL,lk]) (by simp [BoxL,lk]; exact ⟨hRr _ _ _ _,midX_to (.same (.msl (by simp [lb_at,lk]))),rowsW_to _⟩)
         ·refine Trans.sealD (l':=[(31,I i),(207,I H.length),(208,I i),(21,.ptr (nb+21) 0 0),(8,.ptr (nb+8) 0 0),(228,.bot)]) (loc':=[(98,midL (rowsA R i) [.d (ints (nx1 i r))] (rowsS (R.drop (i+1)))),(100,rowsW P),(8,[zMd]),(21,gvM nb H.length tm q)])
           222 1 (rI (sortI r)) Rr 228 rfl (fun e he=>by obtain ⟨b,_,rfl⟩:=List.mem_map.1 he; rfl) rfl rfl ?_ ?_
          ·exact ⟨rfl,.same .d,rfl,.same .d,rfl,.same .d,rfl,.same (.ptr (show nb+21≠nb+222 by omega)),rfl,.same (.ptr (show nb+8≠nb+222 by omega)),rfl,.bot,trivial⟩
          ·refine ⟨rfl,cvRs_mid (by unfold nx1; rw [e0]; exact .msl) ?_ _ ?_,rfl,cvRs_ok ?_,rfl,cvRs_ok ?_,rfl,cvRs_ok ?_,trivial⟩
           ·intro a ha z hz; obtain ⟨y,_,rfl⟩:=List.mem_map.1 ha; simp at hz; subst hz; exact .same (.stk trivial)
           ·intro a ha z hz; obtain ⟨y,_,rfl⟩:=List.mem_map.1 ha; obtain ⟨y',_,rfl⟩:=List.mem_map.1 hz; exact .same .d
           ·intro a ha z hz; obtain ⟨y,_,rfl⟩:=List.mem_map.1 ha; simp at hz; subst hz; exact .same (.osl fun _ _=>trivial)
           ·intro a ha z hz; simp at ha; subst ha; simp at hz; rcases hz with rfl|rfl <;> exact .same (by constructor <;> simp)
           ·intro a ha z hz; simp at ha; subst ha; simp at hz; rcases hz with rfl|rfl|rfl
            ·exact .same (.msl (show nb+98≠nb+222 by omega))
            ·exact .same (.msl (show nb+100≠nb+222 by omega))
            ·exact .same (.mp trivial fun _ _ _ _=>trivial)
       ·intro tok2 ht2;have ht2:TK tok nt tok2 nt6 (ownR (R.drop (i+1))++(ownW P++(.tok tm::ownQ q))):=ht2
        simp only [stGvT2];obtain ⟨hs1,hs2,hs3⟩:=nx1_ok hlt hrn hrr;have hs4:=nodup_len _ _ hs1 hs2;have hNX:(nxR (R.map (·.2))).getD i []=nx1 i r:=by rw [←hrv]
        have hpvs:=pvP_succ hNX;have ht3:TK tok nt tok2 nt6 (ownW P++(ownR (R.drop (i+1))++(.tok tm::ownQ q))):=ht2.perm (List.perm_append_comm_assoc _ _ _)
        generalize nx1 i r=r2 at *;have hJ0:GvK (pvP (nxR (R.map (·.2))) i) i r2 (ownR (R.drop (i+1))++(.tok tm::ownQ q)) tok nt ⟨0,P,tok2,nt6⟩:=⟨by rw [hJp,pvJ_zero],fun e he=>by have:=hJl e he; omega,ht3⟩
        have hPl:P.length=H.length:=by have:=congrArg List.length hJp; rw [pvP_len,nxR_len] at this; simp at this; omega
        generalize pvP (nxR (R.map (·.2))) i=P0 at *;repeat (first|simp [hlt,hml,hmg]|refine sR ?_)
        refine sN ?_;refine AL.loopT (stGv7 H.length i tm q (rowsA R i) (rowsS (R.drop (i+1))) r2 nb box) (fun y=>y.i≤r2.length∧y.P.length=H.length∧GvK P0 i r2 (ownR (R.drop (i+1))++(.tok tm::ownQ q)) tok nt y) (fun y=>r2.length - y.i) ⟨0,P,tok2,nt6⟩ ⟨Nat.zero_le _,hPl,hJ0⟩ (Weaks.mk hle6 rfl (by simp [ToL,lk]) (by simp [BoxL,lk]; exact ⟨midX_to (.same .d),rowsW_to _⟩)) ?_;clear hJ0 hJl hJt ht2 ht3 hdt hJp hPl;rintro ⟨j,Q,tok8,nt8⟩ S ⟨hj,hQl,hK⟩ hS;simp only [stGv7] at hS hj hQl;subst hS;have hw2:=sW (i:=j) (by omega);obtain ⟨hKp,hKl,hKt⟩:=hK;simp only at hKp hKl hKt;have hle8:=hKt.le;repeat (first|simp|refine sR ?_|refine sC ?_)
        refine ⟨fun hlt2=>?_,fun hge2=>?_⟩
        ·obtain ⟨k1,k2⟩:=hs2 _ (List.getElem_mem hlt2);have hstep:=pvJ_succ (i:=i) (P:=P0) hlt2;repeat (first|simp [hlt2]|refine sR ?_)
         generalize r2[j]=k at *;have k3:k.toNat<Q.length:=by omega
         have k4:k.toNat<H.length:=by omega
         have hqg:∀ h,(rowsW Q)[k.toNat]'h=[AV.osl 1 (rI Q[k.toNat].1) Q[k.toNat].2]:=fun h=>by simp [rowsW]
         have hql:=hKl _ (List.getElem_mem k3);obtain ⟨hlv,hap⟩:=hKt.rowWApp k3 (Q[k.toNat].1++[(i:Int)]);have hqs:=rowsW_set Q k.toNat (Q[k.toNat].1++[(i:Int)]) (.tok nt8);rw [←rI_snoc] at hqs;have hpq:(Q.set k.toNat (Q[k.toNat].1++[(i:Int)],.tok nt8)).map (·.1)=pvJ i r2 P0 (j+1):=by
          rw [hstep,←hKp,List.map_set];unfold pvS;congr 2
          simp [k3]
         try (simp [k1,k2,k3,k4,hqg])
         repeat (first|(refine sR ?_; simp [k1,k2,k3,k4,hqg])|(refine sC ?_; simp [k1,k2,k3,k4,hqg])|(refine sX ?_; simp only [AU, ↓reduceIte]))
         refine ⟨⟨by omega,hlv⟩,?_⟩;try (simp [hqs,hw2])
         repeat (first|(refine sR ?_; simp [hqs,hw2])|(refine sC ?_; simp [hqs,hw2])|(refine sX ?_; simp only [AU, ↓reduceIte]))
         refine sE ?_;have hKl2:∀ e∈Q.set k.toNat (Q[k.toNat].1++[(i:Int)],.tok nt8),e.1.length≤i * 300+(j+1):=fun e he=>by
          rcases List.mem_or_eq_of_mem_set he with he|rfl
          ·have:=hKl e he; omega
          ·simp; omega
         exact ⟨⟨j+1,Q.set k.toNat (Q[k.toNat].1++[(i:Int)],.tok nt8),upd (Own.kill tok8 Q[k.toNat].2) nt8 true,nt8+1⟩,⟨hlt2,by simp [hQl],⟨hpq,hKl2,by have hmd:ownR (R.drop (i+1))=List.drop (i+1) (List.map (fun r=>Own.tok r.1) R):=List.map_drop; rw [hmd] at hap; exact hap⟩⟩,by simp only; omega,Weaks.mk hap.le rfl (by simp [ToL,lk]) (by simp [BoxL,lk]; exact ⟨midX_to (.same .d),rowsW_to _⟩)⟩
        ·refine sX ?_;simp only [AU, ↓reduceIte];have:j=r2.length:=by omega
         subst this;rw [←hpvs] at hKp;have ht9:TK tok nt tok8 nt8 (ownR (R.drop (i+1))++(ownW Q++(.tok tm::ownQ q))):=hKt.perm (List.perm_append_comm_assoc _ _ _)
         try (simp [hw])
         repeat (first|(refine sR ?_; simp [hw])|(refine sC ?_; simp [hw])|(refine sX ?_; simp only [AU, ↓reduceIte]))
         refine sE ?_;exact ⟨⟨i+1,Q,tok8,nt8⟩,⟨hlt,⟨hKp,fun e he=>by have:=hKl e he; simp only; omega,ht9⟩⟩,by simp only; omega,Weaks.mk ht9.le rfl (by simp [ToL,lk]) (by simp [BoxL,lk]; rw [hX1]; exact ⟨midX_to (.same .d),rowsW_to _⟩)⟩
     ·refine sX ?_;simp only [AU, ↓reduceIte];have:i=H.length:=by omega
      subst this;have hdn:R.drop H.length=[]:=List.drop_eq_nil_of_le (by omega)
      have hfin:rowsX R H.length=rowsD ((nxR (R.map (·.2))).map fun r=>[ints r]):=by
       unfold rowsX rowsA;rw [List.take_of_length_le (by simp; omega),hdn];simp [rowsS]
      have hPd:(P.map fun r=>[ints r.1])=(pvP (nxR (R.map (·.2))) H.length).map fun r=>[ints r]:=by rw [←hJp]; simp
      rw [hfin];rw [hdn] at hJt;have hz:TK tok nt tok6 nt6 (.tok tm::(ownW P++ownQ q)):=by
       have h0:TK tok nt tok6 nt6 (ownW P++(.tok tm::ownQ q)):=hJt
       exact h0.perm List.perm_middle
      have hz2:=hz.spend;have hl1:(nxR (R.map (·.2))).length=H.length:=by simp [hRl]
      have hl2:(pvP (nxR (R.map (·.2))) H.length).length=H.length:=by simp [hRl]
      have hmp:mpE (encQ q)=Res.atoms.map fun a=>(a.1,rBo a.2):=by rw [hres]; simp [mpE]
      have hn1:nxR (R.map (·.2))=Res.next:=by rw [hres]
      have hp1:pvP (nxR (R.map (·.2))) H.length=Res.prev:=by rw [hres]
      rw [hp1] at hPd hl2;rw [hn1] at hl1 ⊢;clear hres hn1 hp1;refine AL.weak (Weaks.mk (l':=[(21,.ptr (nb+21) 0 0),(8,.ptr (nb+8) 0 0)]) (loc':=[(98,rowsD (Res.next.map fun r=>[ints r])),(100,rowsD (Res.prev.map fun r=>[ints r])),(8,[zMd]),(21,gvM nb H.length tm q)]) hle6 rfl (by simp [ToL,lk]) (by simp [BoxL,lk]; rw [←hPd]; exact rowsW_d _)) ?_;refine AL.mapD tm hz.live ?_;simp [rowsD_mpF,hmp];refine AL.weak (Weaks.frz (l':=[(21,.ptr (nb+21) 0 0),(8,.ptr (nb+8) 0 0)]) (loc':=[(100,rowsD (Res.prev.map fun r=>[ints r])),(8,[zMd]),(21,[[.d (lls Res.next),.msl (nb+100) 0 H.length 1,.mpd (Res.atoms.map fun a=>(a.1,rBo a.2))]])]) 98 1 (Res.next.map fun r=>[ints r]) hle6 rfl (by simp [lk]) (by simp [lk]) (fun e he=>by obtain ⟨b,_,rfl⟩:=List.mem_map.1 he; rfl) (by simp [ToL,lk,lb_at]) (by simp [BoxL,lk,lb_at,hl1])) ?_;refine AL.weak (Weaks.frz (l':=[(21,.ptr (nb+21) 0 0),(8,.ptr (nb+8) 0 0)]) (loc':=[(8,[zMd]),(21,[[.d (lls Res.next),.d (lls Res.prev),.mpd (Res.atoms.map fun a=>(a.1,rBo a.2))]])]) 100 1 (Res.prev.map fun r=>[ints r]) hle6 rfl (by simp [lk]) (by simp [lk]) (fun e he=>by obtain ⟨b,_,rfl⟩:=List.mem_map.1 he; rfl) (by simp [ToL,lk,lb_at]) (by simp [BoxL,lk,lb_at,hl2])) ?_;try (simp)
      repeat (first|(refine sR ?_; simp)|(refine sC ?_; simp)|(refine sX ?_; simp only [AU, ↓reduceIte]))
      refine sT (sG hbox htok hz2.old hle6 ?_);simp [packA]
def tyT:Ty:=⟨[⟨⟨#[78]⟩, -1,false,[]⟩],[⟨⟨#[101]⟩,0,0,0, -1,0, -1⟩]⟩
def coA:Co:=⟨⟨#[97]⟩,1,⟨[0],[]⟩,[]⟩
def coB:Co:=⟨⟨#[98]⟩,1,⟨[0,0],[]⟩,[]⟩
def coC:Co:=⟨⟨#[99]⟩,1,⟨[0],[⟨0,0,0⟩]⟩,[]⟩
def coD:Co:=⟨⟨#[100]⟩,1,⟨[0,0],[⟨0,0,1⟩]⟩,[]⟩
def cosT:List Co:=[coA,coB,coC,coD]
theorem tyT_fit:tyT.Fit:=⟨by decide,by decide,by decide,by decide,by simp [tyT]⟩
set_option maxRecDepth 100000 in
theorem types50_c (tok:Tks) (nt:Nat):DCall Tryz.prog 36 [] tok nt tyT.av tok nt:=by
 intro box nb;refine sI Tryz.func36 Tryz.ntmps36 fun hbox htok=>?_
 repeat (first|simp|refine sR ?_)
 try refine ⟨rfl,?_⟩
 repeat (first|simp|refine sR ?_)
 try refine ⟨rfl,?_⟩
 repeat (first|simp|refine sR ?_)
 refine sT (sH hbox htok ?_);simp [packA,tyT,nts,ets,atts,strs];exact to_dss (by simp [dss_cons,dss_nil,dsub_all,atts,strs])
theorem atom50_c (s:ByteArray) (tok:Tks) (nt:Nat):DCall Tryz.prog 79 [Sb s] tok nt (Fo.mk 1 s []).av tok nt:=by
 intro box nb;refine sI Tryz.func79 Tryz.ntmps79 fun hbox htok=>?_
 repeat (first|simp|refine sR ?_)
 refine sT (sH hbox htok ?_);simp [packA,Fo.kind,Fo.name,Fo.kids];exact .odsub .emp
theorem of50_c (k:Int) (l:List Fo) (tok:Tks) (nt:Nat):DCall Tryz.prog 33 [I k,.d (fos l)] tok nt (Fo.mk k ⟨#[]⟩ l).av tok nt:=by
 intro box nb;refine sI Tryz.func33 Tryz.ntmps33 fun hbox htok=>?_
 repeat (first|simp|refine sR ?_)
 refine sT (sH hbox htok ?_);simp [packA,Fo.kind,Fo.name,Fo.kids]
def gcT (i:Nat):List D:=match i with
 | 0=>[ints [0],AM.edges []]
 | 1=>[ints [0,0],AM.edges []]
 | 2=>[ints [0],AM.edges [⟨0,0,0⟩]]
 | _=>[ints [0,0],AM.edges [⟨0,0,1⟩]]
def csP (i:Nat):List (List D):=rCo (cosT.take i)
theorem csP1:csP 1=csP 0++[[.raw (.string ⟨#[97]⟩),.raw (.int .i64 1),ints [0],AM.edges [],xts []]]:=rfl
theorem csP2:csP 2=csP 1++[[.raw (.string ⟨#[98]⟩),.raw (.int .i64 1),ints [0,0],AM.edges [],xts []]]:=rfl
theorem csP3:csP 3=csP 2++[[.raw (.string ⟨#[99]⟩),.raw (.int .i64 1),ints [0],AM.edges [⟨0,0,0⟩],xts []]]:=rfl
theorem csP4:csP 4=csP 3++[[.raw (.string ⟨#[100]⟩),.raw (.int .i64 1),ints [0,0],AM.edges [⟨0,0,1⟩],xts []]]:=rfl
theorem csP_len:∀ i,(csP i).length≤4:=fun i=>by simp only [csP,List.length_map,List.length_take]; have:cosT.length=4:=rfl; omega
theorem ex97:(⟨#[97,98,99,100]⟩:ByteArray).extract 0 1=⟨#[97]⟩:=by decide
theorem ex98:(⟨#[97,98,99,100]⟩:ByteArray).extract 1 2=⟨#[98]⟩:=by decide
theorem ex99:(⟨#[97,98,99,100]⟩:ByteArray).extract 2 3=⟨#[99]⟩:=by decide
theorem ex100:(⟨#[97,98,99,100]⟩:ByteArray).extract 3 4=⟨#[100]⟩:=by decide
theorem w1:IntKind.i64.wrap 1=1:=by decide
theorem w2:IntKind.i64.wrap 2=2:=by decide
theorem w3:IntKind.i64.wrap 3=3:=by decide
theorem w4:IntKind.i64.wrap 4=4:=by decide
def stCo5 (nb:Nat) (box:Bxs) (x:Acc):AState :=
 ⟨tl [(1,.d (.sl 2 [gcT 0,gcT 1,gcT 2,gcT 3])),(2,.osl 5 (csP x.i) x.own),(3,I x.i)],lb nb box [],x.tok,x.nt⟩
set_option maxRecDepth 100000 in
theorem constraints50_c (tok:Tks) (nt:Nat):DCall Tryz.prog 37 [] tok nt (.d (cosD cosT)) tok nt:=by
 intro box nb;refine sI Tryz.func37 Tryz.ntmps37 fun hbox htok=>?_
 repeat (first|simp|refine sR ?_)
 try refine ⟨rfl,?_⟩
 repeat (first|simp|refine sR ?_)
 try refine ⟨rfl,?_⟩
 repeat (first|simp|refine sR ?_)
 refine sN ?_;refine AL.loopT (stCo5 nb box) (fun x=>x.i≤4∧TK tok nt x.tok x.nt [x.own]) (fun x=>4 - x.i) ⟨0,.full,tok,nt⟩ ⟨Nat.zero_le _,(TK.start htok).full⟩ (Weaks.mk (Nat.le_refl _) rfl (by simp [ToL,lk]; exact ⟨to_dss (by simp [gcT,dss_cons,dss_nil,ints,AM.edges,DSub.emp,DSub.refl,E.cells]),.nil (by decide) rfl⟩) trivial) ?_;rintro ⟨i,own,tok',nt'⟩ S ⟨hi,htk⟩ hS;simp only [stCo5] at hS hi htk;subst hS;have hcl:=csP_len;by_cases hlt:i<4
 ·have hi4:i=0∨i=1∨i=2∨i=3:=by omega
  rcases hi4 with rfl|rfl|rfl|rfl
  case' inl=>have e:=csP1
  case' inr.inl=>have e:=csP2
  case' inr.inr.inl=>have e:=csP3
  case' inr.inr.inr=>have e:=csP4
  all_goals
   try (simp [gcT,w1,w2,w3,w4,ex97,ex98,ex99,ex100])
   repeat (first|(refine sR ?_; simp [gcT,w1,w2,w3,w4,ex97,ex98,ex99,ex100])|(refine sC ?_; simp [gcT,w1,w2,w3,w4,ex97,ex98,ex99,ex100])|(refine sX ?_; simp only [AU, ↓reduceIte]))
   refine ⟨by decide,?_⟩;try (simp [gcT,w1,w2,w3,w4,ex97,ex98,ex99,ex100])
   repeat (first|(refine sR ?_; simp [gcT,w1,w2,w3,w4,ex97,ex98,ex99,ex100])|(refine sC ?_; simp [gcT,w1,w2,w3,w4,ex97,ex98,ex99,ex100])|(refine sX ?_; simp only [AU, ↓reduceIte]))
   refine ⟨⟨by have:=csP_len 0; have:=csP_len 1; have:=csP_len 2; have:=csP_len 3; omega,htk.live⟩,?_⟩;try (simp [gcT,w1,w2,w3,w4,ex97,ex98,ex99,ex100])
   repeat (first|(refine sR ?_; simp [gcT,w1,w2,w3,w4,ex97,ex98,ex99,ex100])|(refine sC ?_; simp [gcT,w1,w2,w3,w4,ex97,ex98,ex99,ex100])|(refine sX ?_; simp only [AU, ↓reduceIte]))
   refine sE ?_;first
    | exact ⟨⟨1,.tok nt',_,nt'+1⟩,⟨by simp,htk.app⟩,by simp,Weaks.mk htk.app.le rfl (by simp [ToL,lk,gcT,e]; exact to_snoc (by simp [DSub.refl]; exact .emp) _) trivial⟩
    | exact ⟨⟨2,.tok nt',_,nt'+1⟩,⟨by simp,htk.app⟩,by simp,Weaks.mk htk.app.le rfl (by simp [ToL,lk,gcT,e]; exact to_snoc (by simp [DSub.refl]; exact .emp) _) trivial⟩
    | exact ⟨⟨3,.tok nt',_,nt'+1⟩,⟨by simp,htk.app⟩,by simp,Weaks.mk htk.app.le rfl (by simp [ToL,lk,gcT,e]; exact to_snoc (by simp [DSub.refl]; exact .emp) _) trivial⟩
    | exact ⟨⟨4,.tok nt',_,nt'+1⟩,⟨by simp,htk.app⟩,by simp,Weaks.mk htk.app.le rfl (by simp [ToL,lk,gcT,e]; exact to_snoc (by simp [DSub.refl]; exact .emp) _) trivial⟩
 ·have:i=4:=by omega
  subst this;try (simp)
  repeat (first|(refine sR ?_; simp)|(refine sC ?_; simp)|(refine sX ?_; simp only [AU, ↓reduceIte]))
  have e:csP 4=rCo cosT:=rfl
  refine sT (sG hbox htok htk.old htk.le ?_);simp [packA,e]
def hst0:Hs:=⟨⟨[],[]⟩,[]⟩
def hst1:Hs:=⟨⟨[0],[]⟩,[[]]⟩
def hst2:Hs:=⟨⟨[0,0],[]⟩,[[],[]]⟩
def hs3:List Hs:=[hst0,hst1,hst2]
def ar3:List Ar50:=[⟨0,0,1,⟨[],[]⟩,[]⟩,⟨0,1,0,⟨[],[]⟩,[]⟩,⟨0,1,2,⟨[],[]⟩,[]⟩]
def foA:Fo:=.mk 1 ⟨#[97]⟩ []
def foB:Fo:=.mk 1 ⟨#[98]⟩ []
def foS:Fo:=.mk 2 ⟨#[]⟩ [foA]
def fo1:Fo:=.mk 6 ⟨#[]⟩ [foS]
def fo2:Fo:=.mk 11 ⟨#[]⟩ [foB]
def fo3:Fo:=.mk 7 ⟨#[]⟩ [foB]
def fo4:Fo:=.mk 10 ⟨#[]⟩ [foS]
theorem cosT_ok:Cos cosT:=⟨by decide,fun c hc=>by
 simp only [cosT,List.mem_cons,List.not_mem_nil,or_false] at hc;rcases hc with rfl|rfl|rfl|rfl
 ·exact ⟨by decide,⟨by decide,by decide⟩,by decide,by simp [coA]⟩
 ·exact ⟨by decide,⟨by decide,by decide⟩,by decide,by simp [coB]⟩
 ·exact ⟨by decide,⟨by decide,by decide⟩,by decide,by simp [coC]⟩
 ·exact ⟨by decide,⟨by decide,by decide⟩,by decide,by simp [coD]⟩⟩
theorem cosT_cn:∀ c∈cosT,cnE tyT c=0:=by decide +kernel
theorem cosT_kd:∀ c∈cosT,c.kind=1:=by decide +kernel
theorem tyT_ok:tyE tyT=0:=by decide +kernel
theorem hs3_r:∀ h∈hs3,(hostR tyT (atsK tyT) h).2=0:=by decide +kernel
theorem hs3_v:∀ h∈hs3,∀ c∈cosT,(vioS tyT c h.g fun _=>false).2=0:=by decide +kernel
theorem gvh3 (f:Fo) (hs:f.Sm) (hv:validF f cosT=0):GvH tyT hs3 ar3 f cosT where
 ft:=tyT_fit
 sm:=hs
 cos:=cosT_ok
 va:=validF_zero hv
 v0:=hv
 ty:=tyT_ok
 cn:=cosT_cn
 kd:=cosT_kd
 hn:=by decide
 hn2:=by decide
 an:=by decide
 hg:=fun h hh=>by
  refine ⟨?_,?_,hs3_r h hh⟩
  ·simp only [hs3,List.mem_cons,List.not_mem_nil,or_false] at hh;rcases hh with rfl|rfl|rfl <;> exact ⟨by decide,by decide⟩
  ·simp only [hs3,List.mem_cons,List.not_mem_nil,or_false] at hh;rcases hh with rfl|rfl|rfl <;> decide
 ar:=fun a ha=>by
  simp only [ar3,List.mem_cons,List.not_mem_nil,or_false] at ha;rcases ha with rfl|rfl|rfl <;> exact ⟨⟨by decide,by decide⟩,by decide,by decide⟩
 vi:=hs3_v
theorem sortI_id {l:List Int} (h:l.Pairwise fun a b=>a≤b):sortI l=l:=by
 unfold sortI;refine List.mergeSort_of_pairwise (h.imp fun h=>by simpa using h)
def mdX (X:List (ByteArray × List Bool)):Mdl:=⟨[[1],[0,2],[2]],[[1],[0],[1,2]],X⟩
theorem mdX_eq {f:Fo} {X:List (ByteArray × List Bool)} (hX:atmR (usedF f) (bitS tyT) cosT hs3=X):mdlR tyT hs3 (ar3.map Ar50.pr) f cosT=mdX X:=by
 have h1:arP hs3.length (ar3.map Ar50.pr) (ar3.map Ar50.pr).length=[[1],[0,2],[]]:=by decide +kernel
 have e:ar3.length=(ar3.map Ar50.pr).length:=by simp
 have h2:nxR [[1],[0,2],[]]=[[1],[0,2],[2]]:=by
  have e1:nx1 0 [1]=[1]:=sortI_id (by decide)
  have e2:nx1 1 [0,2]=[0,2]:=sortI_id (by decide)
  have e3:nx1 2 []=[2]:=nx1_nil 2
  show [nx1 0 [1],nx1 1 [0,2],nx1 2 []]=_
  rw [e1,e2,e3]
 have h3:pvP [[1],[0,2],[2]] hs3.length=[[1],[0],[1,2]]:=by decide +kernel
 unfold mdlR;rw [hX,h1,h2,h3];rfl
def atX1:List (ByteArray × List Bool):=[(⟨#[97]⟩,[true,false,false])]
def atX2:List (ByteArray × List Bool):=[(⟨#[98]⟩,[true,true,false])]
theorem ax1:atmR (usedF fo1) (bitS tyT) cosT hs3=atX1:=by decide +kernel
theorem ax2:atmR (usedF fo2) (bitS tyT) cosT hs3=atX2:=by decide +kernel
theorem ax3:atmR (usedF fo3) (bitS tyT) cosT hs3=atX2:=by decide +kernel
theorem ax4:atmR (usedF fo4) (bitS tyT) cosT hs3=atX1:=by decide +kernel
theorem va1:validF fo1 cosT=0:=by decide +kernel
theorem va2:validF fo2 cosT=0:=by decide +kernel
theorem va3:validF fo3 cosT=0:=by decide +kernel
theorem va4:validF fo4 cosT=0:=by decide +kernel
theorem ho1:fo1.holds (mdX atX1)=[true,true,true]:=by decide +kernel
theorem tr2:(askR (mdX atX2) fo2).map (fun q=>(pathQ (mdX atX2) q,q.verdict))=some ([0,1,2],false):=by decide +kernel
theorem tr3:(askR (mdX atX2) fo3).map (fun q=>(pathQ (mdX atX2) q,q.verdict))=some ([0,1,0],true):=by decide +kernel
theorem rk4:rankR (mdX atX1) (kidV (mdX atX1) fo4 0)=[1,0,0]:=by decide +kernel
theorem traceA_of {m:Mdl} {f:Fo} {p:List Int} {b:Bool} (h:(askR m f).map (fun q=>(pathQ m q,q.verdict))=some (p,b)) (hp:p≠[]):traceA m f=.tup [.d (ints p),B b,I 0]:=by
 unfold traceA;cases hq:askR m f with
 | none=>rw [hq] at h; cases h
 | some q =>
  rw [hq] at h;simp only [Option.map_some,Option.some.injEq,Prod.mk.injEq] at h;obtain ⟨h1,h2⟩:=h;simp only;rw [h1,h2,if_neg hp]
theorem sm_atom (s:ByteArray) (hs:s.size≤1000):(Fo.mk 1 s []).Sm:=.mk (by simp only [Fo.name]; omega) (by simp [Fo.kids]) (fun x hx=>by simp [Fo.kids] at hx)
theorem sm_one {k:Int} {x:Fo} (h:x.Sm):(Fo.mk k ⟨#[]⟩ [x]).Sm:=.mk (by simp only [Fo.name]; decide) (by simp [Fo.kids]) (fun y hy=>by simp [Fo.kids] at hy; subst hy; exact h)
theorem sm1:fo1.Sm:=sm_one (sm_one (sm_atom _ (by decide)))
theorem sm2:fo2.Sm:=sm_one (sm_atom _ (by decide))
theorem sm3:fo3.Sm:=sm_one (sm_atom _ (by decide))
theorem sm4:fo4.Sm:=sm_one (sm_one (sm_atom _ (by decide)))
abbrev prU (l:List (Int × Int)):D:=.sl 2 (l.map fun a=>[u8 a.1,u8 a.2])
def spK (n:Int):Nat:=(n % 3).toNat
def spE1 (n:Int):List E:=if 0<spK n∧n / 3 % 2=1 then [⟨0,0,0⟩] else []
def spE2 (n:Int):List E:=if 1<spK n∧n / 6 % 2=1 then [⟨0,0,1⟩] else []
def spE (n:Int):List E:=spE1 n++spE2 n
def spH (n:Int):Hs:=⟨⟨List.replicate (spK n) 0,spE n⟩,List.replicate (spK n) []⟩
def spN (cs:List Int):Nat:=max 1 (min cs.length 10)
def spS (cs:List Int) (i:Nat):List Hs:=(List.range i).map fun j=>spH (cs.getD j 0)
theorem spS_succ (cs:List Int) (i:Nat):spS cs (i+1)=spS cs i++[spH (cs.getD i 0)]:=by simp [spS,List.range_succ]
@[simp] theorem spS_len (cs:List Int) (i:Nat):(spS cs i).length=i:=by simp [spS]
def spA (k:Nat) (ar:List (Int × Int)) (i:Nat):List Ar50:=(ar.take i).map fun a=>⟨0,a.1 % k,a.2 % k,⟨[],[]⟩,[]⟩
theorem spA_succ (k:Nat) {ar:List (Int × Int)} {i:Nat} (h:i<ar.length):spA k ar (i+1)=spA k ar i++[⟨0,ar[i].1 % k,ar[i].2 % k,⟨[],[]⟩,[]⟩]:=by
 unfold spA;rw [List.take_succ_eq_append_getElem h,List.map_append];rfl
theorem rowsN_to {p:Nat→Prop} {q:Nat→Prop} {fz:Option (Nat × Nat × List (List D))} (k:Nat):RowsTo p q fz (List.replicate k [nilS]) (rowsD (List.replicate k [ints []])):=by
 refine ⟨by simp,fun i h1 h2=>⟨by simp [rowsD],fun j g1 g2=>?_⟩⟩;simp only [rowsD,List.getElem_map,List.getElem_replicate,List.map_cons,List.map_nil] at g1 g2 ⊢;have:j=0:=by simp at g1; omega
 subst this;exact .odsub .emp
theorem frzK {p q:Nat→Prop} (k s:Nat):To p q (some (s,1,List.replicate k [D.raw (.int .i64 0)])) (.msl s 0 k 1) (.d (ints (List.replicate k 0))):=by
 have e:ints (List.replicate k 0)=.sl 1 (List.replicate k [D.raw (.int .i64 0)]):=by simp [ints]
 rw [e];exact to_frz (by simp)
theorem frzL {p q:Nat→Prop} (k s:Nat):To p q (some (s,1,List.replicate k [ints []])) (.msl s 0 k 1) (.d (lls (List.replicate k []))):=by
 have e:lls (List.replicate k [])=.sl 1 (List.replicate k [ints []]):=by simp
 rw [e];exact to_frz (by simp)
structure SpX where
 i:Nat
 o:Own
 tok:Nat→Bool
 nt:Nat
structure SpY where
 oe:Own
 oh:Own
 tok:Nat→Bool
 nt:Nat
def stSp1 (cs:List Int) (ar:List (Int × Int)) (nb:Nat) (box:Bxs) (x:SpX):AState :=
 ⟨tl [(6,I x.i),(0,.d (bytes cs)),(1,.d (prU ar)),(4,.ptr (nb+4) 0 0),(5,.ptr (nb+5) 0 0)],lb nb box [(5,[[.osl 3 ((spS cs x.i).map Hs.cells) x.o,nilS]]),(4,[[nilS,nilS]])],x.tok,x.nt⟩
def stSpH (cs:List Int) (ar:List (Int × Int)) (n:Int) (k i:Nat) (e:List E) (A:List (List D)) (nb:Nat) (box:Bxs) (y:SpY):AState :=
 ⟨tl [(7,I n),(8,.ptr (nb+8) 0 0),(6,I i),(0,.d (bytes cs)),(1,.d (prU ar)),(4,.ptr (nb+4) 0 0),(5,.ptr (nb+5) 0 0)],
  lb nb box [(8,[[.msl (nb+35) 0 k 1,.osl 3 (rE e) y.oe,.msl (nb+39) 0 k 1]]),(35,rowsI (List.replicate k 0)),(39,List.replicate k [nilS]),(5,[[.osl 3 A y.oh,nilS]]),(4,[[nilS,nilS]])],y.tok,y.nt⟩
def stSp2 (cs:List Int) (ar:List (Int × Int)) (H:List Hs) (nb:Nat) (box:Bxs) (oh:Own) (x:SpX):AState :=
 ⟨tl [(9,I x.i),(1,.d (prU ar)),(4,.ptr (nb+4) 0 0),(5,.ptr (nb+5) 0 0)],lb nb box [(5,[[.osl 3 (H.map Hs.cells) oh,.osl 6 ((spA H.length ar x.i).map Ar50.cells) x.o]]),(4,[[nilS,nilS]])],x.tok,x.nt⟩
set_option maxRecDepth 100000 in
theorem space_c (cs:List Int) (hc:U8s cs) (ar:List (Int × Int)) (ha:∀ a∈ar,(0≤a.1∧a.1<256)∧0≤a.2∧a.2<256) (tok:Tks) (nt:Nat) :
  DCall Tryz.prog 31 [.d (bytes cs),.d (prU ar)] tok nt (spV (spS cs (spN cs)) (spA (spN cs) ar (min ar.length 30))) tok nt:=by
 intro box nb;refine sI Tryz.func31 Tryz.ntmps31 fun hbox htok=>?_
 repeat (first|simp|refine sR ?_)
 refine sN ?_;refine AL.loopT (stSp1 cs ar nb box) (fun x=>x.i≤spN cs∧TK tok nt x.tok x.nt [x.o]) (fun x=>spN cs - x.i) ⟨0,.full,tok,nt⟩ ⟨Nat.zero_le _,(TK.start htok).full⟩ (Weaks.mk (Nat.le_refl _) rfl (by simp [ToL,lk]) (by simp [BoxL,lk,spS])) ?_;rintro ⟨i,o,tok1,nt1⟩ S ⟨hi,htk⟩ hS;simp only [stSp1] at hS hi htk;subst hS;have hN:spN cs≤10:=by unfold spN; omega
 have hw:=sW (i:=i) (by omega);by_cases hlt:i<spN cs
 ·have hlt2:i=0∨i<cs.length∧i<10:=by unfold spN at hlt; omega
  obtain ⟨n,hn⟩:∃ n,cs.getD i 0=n:=⟨_,rfl⟩
  have hn1:0≤n∧n<256:=by
   rw [←hn];by_cases e:i<cs.length
   ·rw [show cs.getD i 0=cs[i] by simp [e]]; exact hc _ (List.getElem_mem e)
   ·rw [show cs.getD i 0=0 by simp [e]]; decide
  obtain ⟨hn1,hn2⟩:=hn1;have hsucc:=spS_succ cs i;rw [hn] at hsucc;have hAl:((spS cs i).map Hs.cells).length=i:=by simp
  refine AL.seq ?_;refine AL.mid ⟨tl [(6,I i),(0,.d (bytes cs)),(1,.d (prU ar)),(4,.ptr (nb+4) 0 0),(5,.ptr (nb+5) 0 0)],lb nb box [(5,[[.osl 3 ((spS cs i).map Hs.cells) o,nilS]]),(4,[[nilS,nilS]])],tok1,nt1⟩ ?_ ?_
  ·by_cases h0:i=0
   ·subst h0;try (simp)
    repeat (first|(refine sR ?_; simp)|(refine sC ?_; simp)|(refine sX ?_; simp only [AU, ↓reduceIte]))
    refine sE ?_;exact Weaks.mk htk.le rfl (by simp [ToL,lk]) (by simp [BoxL,lk])
   ·have b0:((i:Int)==0)=false:=by simpa using h0
    have c1:i<cs.length:=by omega
    have c2:(i:Int)<10:=by omega
    have c3:i<10:=by omega
    try (simp [b0,c1,c2,c3,h0])
    repeat (first|(refine sR ?_; simp [b0,c1,c2,c3,h0])|(refine sC ?_; simp [b0,c1,c2,c3,h0])|(refine sX ?_; simp only [AU, ↓reduceIte]))
    refine sE ?_;exact Weaks.mk htk.le rfl (by simp [ToL,lk]) (by simp [BoxL,lk])
  ·refine sR ?_;simp;refine AL.seq ?_;refine AL.mid ⟨tl [(7,I n),(6,I i),(0,.d (bytes cs)),(1,.d (prU ar)),(4,.ptr (nb+4) 0 0),(5,.ptr (nb+5) 0 0)],lb nb box [(5,[[.osl 3 ((spS cs i).map Hs.cells) o,nilS]]),(4,[[nilS,nilS]])],tok1,nt1⟩ ?_ ?_
   ·by_cases e:i<cs.length
    ·have hnc:cs[i]=n:=by rw [←hn]; simp [e]
     have hb:=bytes_at e;have hwn:IntKind.i64.wrap n=n:=wrap_in (by omega) (by omega)
     try (simp [e,hb,hnc,hwn])
     repeat (first|(refine sR ?_; simp [e,hb,hnc,hwn])|(refine sC ?_; simp [e,hb,hnc,hwn])|(refine sX ?_; simp only [AU, ↓reduceIte]))
     refine sE ?_;exact Weaks.mk htk.le rfl (by simp [ToL,lk]) (by simp [BoxL,lk])
    ·have hn0:n=0:=by rw [←hn]; simp [e]
     subst hn0;try (simp [e])
     repeat (first|(refine sR ?_; simp [e])|(refine sC ?_; simp [e])|(refine sX ?_; simp only [AU, ↓reduceIte]))
     refine sE ?_;exact Weaks.mk htk.le rfl (by simp [ToL,lk]) (by simp [BoxL,lk])
   ·clear hn;obtain ⟨k,hk⟩:∃ k,spK n=k:=⟨_,rfl⟩
    have hk3:(k:Int)=n % 3:=by rw [←hk]; unfold spK; omega
    have hk2:k≤2:=by omega
    have tm3:n.tmod 3=(k:Int):=by rw [Int.tmod_eq_emod_of_nonneg hn1,hk3]
    have td3:n.tdiv 3=n / 3:=Int.tdiv_eq_ediv_of_nonneg hn1
    have td6:n.tdiv 6=n / 6:=Int.tdiv_eq_ediv_of_nonneg hn1
    have tw3:IntKind.i64.wrap (n / 3)=n / 3:=wrap_in (by omega) (by omega)
    have tw6:IntKind.i64.wrap (n / 6)=n / 6:=wrap_in (by omega) (by omega)
    have tn3:(n / 3).tmod 2=n / 3 % 2:=Int.tmod_eq_emod_of_nonneg (by omega)
    have tn6:(n / 6).tmod 2=n / 6 % 2:=Int.tmod_eq_emod_of_nonneg (by omega)
    refine sR ?_;simp [tm3];refine ⟨by omega,by omega,?_⟩;refine AL.seq ?_;have hX:∀ p fz,RowsTo p (fun _=>True) fz (List.replicate k [nilS]) (List.replicate k [nilS]):=fun p fz=>rowsTo_same fun r hr x hx=>by
     rw [(List.mem_replicate.1 hr).2] at hx;simp at hx;subst hx;exact .osl fun _ e=>by cases e
    refine AL.midT (stSpH cs ar n k i (spE1 n) ((spS cs i).map Hs.cells) nb box) (fun y=>TK tok nt y.tok y.nt [y.oe,y.oh]) ?_ ?_
    ·by_cases c1:0<k
     ·by_cases c2:n / 3 % 2=1
      ·have he:spE1 n=[⟨0,0,0⟩]:=by unfold spE1; rw [hk,if_pos ⟨c1,c2⟩]
       have b2:(n / 3 % 2==1)=true:=by simp [c2]
       try (simp [tm3,td3,tw3,tn3,c1,c2,b2])
       repeat (first|(refine sR ?_; simp [tm3,td3,tw3,tn3,c1,c2,b2])|(refine sC ?_; simp [tm3,td3,tw3,tn3,c1,c2,b2])|(refine sX ?_; simp only [AU, ↓reduceIte]))
       refine sE ?_;exact ⟨⟨.tok nt1,o,_,nt1+1⟩,htk.full.app,Weaks.mk (Nat.le_succ_of_le htk.le) rfl (by simp [ToL,lk]) (by simp [BoxL,lk,he]; exact hX _ _)⟩
      ·have he:spE1 n=[]:=by unfold spE1; rw [if_neg (fun h=>c2 h.2)]
       have b2:(n / 3 % 2==1)=false:=by simp [c2]
       try (simp [tm3,td3,tw3,tn3,c1,c2,b2])
       repeat (first|(refine sR ?_; simp [tm3,td3,tw3,tn3,c1,c2,b2])|(refine sC ?_; simp [tm3,td3,tw3,tn3,c1,c2,b2])|(refine sX ?_; simp only [AU, ↓reduceIte]))
       refine sE ?_;exact ⟨⟨.full,o,tok1,nt1⟩,htk.full,Weaks.mk htk.le rfl (by simp [ToL,lk]) (by simp [BoxL,lk,he]; exact hX _ _)⟩
     ·have he:spE1 n=[]:=by unfold spE1; rw [hk,if_neg (fun h=>c1 h.1)]
      try (simp [tm3,td3,tw3,tn3,c1])
      repeat (first|(refine sR ?_; simp [tm3,td3,tw3,tn3,c1])|(refine sC ?_; simp [tm3,td3,tw3,tn3,c1])|(refine sX ?_; simp only [AU, ↓reduceIte]))
      refine sE ?_;exact ⟨⟨.full,o,tok1,nt1⟩,htk.full,Weaks.mk htk.le rfl (by simp [ToL,lk]) (by simp [BoxL,lk,he]; exact hX _ _)⟩
    ·clear htk;rintro ⟨oe,oh,tok2,nt2⟩ htk;simp only at htk;have hel:(spE1 n).length≤1:=by unfold spE1; split <;> simp
     simp only [stSpH];refine AL.seq ?_;refine AL.midT (stSpH cs ar n k i (spE n) ((spS cs i).map Hs.cells) nb box) (fun y=>TK tok nt y.tok y.nt [y.oe,y.oh]) ?_ ?_
     ·by_cases c1:1<k
      ·have c1':(1:Int)<(k:Int):=by omega
       by_cases c2:n / 6 % 2=1
       ·have he:spE n=spE1 n++[⟨0,0,1⟩]:=by unfold spE spE2; rw [hk,if_pos ⟨c1,c2⟩]
        have b2:(n / 6 % 2==1)=true:=by simp [c2]
        try (simp [tm3,td6,tw6,tn6,c1,c1',c2,b2])
        repeat (first|(refine sR ?_; simp [tm3,td6,tw6,tn6,c1,c1',c2,b2])|(refine sC ?_; simp [tm3,td6,tw6,tn6,c1,c1',c2,b2])|(refine sX ?_; simp only [AU, ↓reduceIte]))
        refine ⟨⟨by omega,htk.live⟩,?_⟩;try (simp)
        repeat (first|(refine sR ?_; simp)|(refine sC ?_; simp)|(refine sX ?_; simp only [AU, ↓reduceIte]))
        refine sE ?_;exact ⟨⟨.tok nt2,oh,_,nt2+1⟩,htk.app,Weaks.mk htk.app.le rfl (by simp [ToL,lk]) (by simp [BoxL,lk,he]; exact hX _ _)⟩
       ·have he:spE n=spE1 n:=by unfold spE spE2; rw [if_neg (fun h=>c2 h.2),List.append_nil]
        have b2:(n / 6 % 2==1)=false:=by simp [c2]
        try (simp [tm3,td6,tw6,tn6,c1,c1',c2,b2])
        repeat (first|(refine sR ?_; simp [tm3,td6,tw6,tn6,c1,c1',c2,b2])|(refine sC ?_; simp [tm3,td6,tw6,tn6,c1,c1',c2,b2])|(refine sX ?_; simp only [AU, ↓reduceIte]))
        refine sE ?_;exact ⟨⟨oe,oh,tok2,nt2⟩,htk,Weaks.mk htk.le rfl (by simp [ToL,lk]) (by simp [BoxL,lk,he]; exact hX _ _)⟩
      ·have he:spE n=spE1 n:=by unfold spE spE2; rw [hk,if_neg (fun h=>c1 h.1),List.append_nil]
       have c1':¬ (1:Int)<(k:Int):=by omega
       try (simp [tm3,td6,tw6,tn6,c1,c1'])
       repeat (first|(refine sR ?_; simp [tm3,td6,tw6,tn6,c1,c1'])|(refine sC ?_; simp [tm3,td6,tw6,tn6,c1,c1'])|(refine sX ?_; simp only [AU, ↓reduceIte]))
       refine sE ?_;exact ⟨⟨oe,oh,tok2,nt2⟩,htk,Weaks.mk htk.le rfl (by simp [ToL,lk]) (by simp [BoxL,lk,he]; exact hX _ _)⟩
     ·clear htk;rintro ⟨oe,oh,tok2,nt2⟩ htk;simp only at htk;simp only [stSpH];have htk2:=htk.tail;have hH:spH n=⟨⟨List.replicate k 0,spE n⟩,List.replicate k []⟩:=by unfold spH; rw [hk]
      have hcl:(spS cs (i+1)).map Hs.cells=(spS cs i).map Hs.cells++[[ints (List.replicate k 0),AM.edges (spE n),lls (List.replicate k [])]]:=by rw [hsucc,List.map_append,hH]; rfl
      refine AL.weak (Weaks.mk (l':=[(8,.ptr (nb+8) 0 0),(6,I i),(0,.d (bytes cs)),(1,.d (prU ar)),(4,.ptr (nb+4) 0 0),(5,.ptr (nb+5) 0 0)])
       (loc':=[(8,[[.msl (nb+35) 0 k 1,.d (AM.edges (spE n)),.msl (nb+39) 0 k 1]]),(35,rowsI (List.replicate k 0)),(39,rowsD (List.replicate k [ints []])),(5,[[.osl 3 ((spS cs i).map Hs.cells) oh,nilS]]),(4,[[nilS,nilS]])]) htk.le rfl (by simp [ToL,lk]) (by simp [BoxL,lk]; exact rowsN_to k)) ?_
      refine AL.weak (Weaks.frz (l':=[(8,.ptr (nb+8) 0 0),(6,I i),(0,.d (bytes cs)),(1,.d (prU ar)),(4,.ptr (nb+4) 0 0),(5,.ptr (nb+5) 0 0)])
       (loc':=[(8,[[.d (ints (List.replicate k 0)),.d (AM.edges (spE n)),.msl (nb+39) 0 k 1]]),(39,rowsD (List.replicate k [ints []])),(5,[[.osl 3 ((spS cs i).map Hs.cells) oh,nilS]]),(4,[[nilS,nilS]])]) 35 1 (rI (List.replicate k 0)) htk.le rfl (by simp [lk,rowsI_eq]) (by simp [lk]) (fun e he=>by obtain ⟨b,_,rfl⟩:=List.mem_map.1 he; rfl) (by simp [ToL,lk,lb_at]) (by simp [BoxL,lk,lb_at]; exact frzK _ _)) ?_
      refine AL.weak (Weaks.frz (l':=[(8,.ptr (nb+8) 0 0),(6,I i),(0,.d (bytes cs)),(1,.d (prU ar)),(4,.ptr (nb+4) 0 0),(5,.ptr (nb+5) 0 0)])
       (loc':=[(8,[[.d (ints (List.replicate k 0)),.d (AM.edges (spE n)),.d (lls (List.replicate k []))]]),(5,[[.osl 3 ((spS cs i).map Hs.cells) oh,nilS]]),(4,[[nilS,nilS]])]) 39 1 (List.replicate k [ints []]) htk.le rfl (by simp [lk]) (by simp [lk]) (fun e he=>by rw [(List.mem_replicate.1 he).2]; rfl) (by simp [ToL,lk,lb_at]) (by simp [BoxL,lk,lb_at]; exact frzL _ _)) ?_
      try (simp)
      repeat (first|(refine sR ?_; simp)|(refine sC ?_; simp)|(refine sX ?_; simp only [AU, ↓reduceIte]))
      refine ⟨⟨by omega,htk2.live⟩,?_⟩;try (simp [hw])
      repeat (first|(refine sR ?_; simp [hw])|(refine sC ?_; simp [hw])|(refine sX ?_; simp only [AU, ↓reduceIte]))
      refine sE ?_;exact ⟨⟨i+1,.tok nt2,_,nt2+1⟩,⟨hlt,htk2.app⟩,by simp only; omega,Weaks.mk htk2.app.le rfl (by simp [ToL,lk]) (by simp [BoxL,lk,hcl])⟩
 ·have:i=spN cs:=by omega
  subst this;clear hw hi;have hm1:1≤spN cs:=by unfold spN; omega
  have hm2:¬ (spN cs<cs.length∧spN cs<10):=by unfold spN; omega
  obtain ⟨m,hm⟩:∃ m,spN cs=m:=⟨_,rfl⟩
  have hHl:(spS cs (spN cs)).length=spN cs:=by simp
  rw [hm] at hN hm1 hm2 hHl ⊢;generalize spS cs m=H at *;have b00:¬ m=0:=by omega
  have b0:((m:Int)==0)=false:=by simpa using b00
  by_cases c1:m<cs.length
  case' pos=>have c2:¬ (m:Int)<10:=by omega
  case' pos=>have c3:¬ m<10:=by omega
  case' neg=>have c2:¬ (m:Int)<(cs.length:Int):=by omega
  case' neg=>have c3:¬ m<cs.length:=c1
  all_goals
   try (simp [b0,c1,c2,c3])
   repeat (first|(refine sR ?_; simp [b0,c1,c2,c3])|(refine sC ?_; simp [b0,c1,c2,c3])|(refine sX ?_; simp only [AU, ↓reduceIte]))
   refine sN ?_;refine AL.loopT (stSp2 cs ar H nb box o) (fun x=>x.i≤min ar.length 30∧TK tok nt x.tok x.nt [x.o,o]) (fun x=>min ar.length 30 - x.i) ⟨0,.full,tok1,nt1⟩ ⟨Nat.zero_le _,htk.full⟩ (Weaks.mk htk.le rfl (by simp [ToL,lk]) (by simp [BoxL,lk,spA])) ?_;clear htk;rintro ⟨i,o2,tok2,nt2⟩ S ⟨hi,htk⟩ hS;simp only [stSp2] at hS hi htk;subst hS;have hw:=sW (i:=i) (by omega);by_cases hlt:i<ar.length∧i<30
   ·obtain ⟨d1,d2⟩:=hlt;have d3:(i:Int)<30:=by omega
    have hsucc:=spA_succ H.length d1;obtain ⟨⟨e1,e2⟩,e3,e4⟩:=ha _ (List.getElem_mem d1);have hpr:(ar.map fun a=>[u8 a.1,u8 a.2])[i]?=some [u8 ar[i].1,u8 ar[i].2]:=by simp [d1]
    have hb1:IntKind.i64.wrap ar[i].1=ar[i].1:=wrap_in (by omega) (by omega)
    have hb2:IntKind.i64.wrap ar[i].2=ar[i].2:=wrap_in (by omega) (by omega)
    have ht1:ar[i].1.tmod (H.length:Int)=ar[i].1 % (H.length:Int):=Int.tmod_eq_emod_of_nonneg e1
    have ht2:ar[i].2.tmod (H.length:Int)=ar[i].2 % (H.length:Int):=Int.tmod_eq_emod_of_nonneg e3
    have hHz:¬ (H.length:Int)=0:=by omega
    have hsl:(spA H.length ar i).length≤30:=by simp [spA]; omega
    have hHn:H=[]→False:=fun e=>by rw [e] at hHz; simp at hHz
    try (simp [d1,d2,d3,hpr,hb1,hb2,ht1,ht2])
    repeat (first|(refine sR ?_; simp [d1,d2,d3,hpr,hb1,hb2,ht1,ht2])|(refine sC ?_; simp [d1,d2,d3,hpr,hb1,hb2,ht1,ht2])|(refine sX ?_; simp only [AU, ↓reduceIte]))
    refine ⟨hHn,?_⟩;try (simp [d1,d2,d3,hpr,hb1,hb2,ht1,ht2])
    repeat (first|(refine sR ?_; simp [d1,d2,d3,hpr,hb1,hb2,ht1,ht2])|(refine sC ?_; simp [d1,d2,d3,hpr,hb1,hb2,ht1,ht2])|(refine sX ?_; simp only [AU, ↓reduceIte]))
    try refine ⟨hHn,?_⟩
    try (simp [d1,d2,d3,hpr,hb1,hb2,ht1,ht2])
    repeat (first|(refine sR ?_; simp [d1,d2,d3,hpr,hb1,hb2,ht1,ht2])|(refine sC ?_; simp [d1,d2,d3,hpr,hb1,hb2,ht1,ht2])|(refine sX ?_; simp only [AU, ↓reduceIte]))
    refine ⟨⟨by omega,htk.live⟩,?_⟩;try (simp [hw])
    repeat (first|(refine sR ?_; simp [hw])|(refine sC ?_; simp [hw])|(refine sX ?_; simp only [AU, ↓reduceIte]))
    refine sE ?_;exact ⟨⟨i+1,.tok nt2,_,nt2+1⟩,⟨by simp only; omega,htk.app⟩,by simp only; omega,Weaks.mk htk.app.le rfl (by simp [ToL,lk]) (by simp [BoxL,lk,hsucc]; exact to_snoc (by simp [DSub.refl]; exact .emp) _)⟩
   ·have:i=min ar.length 30:=by omega
    subst this;by_cases d1:min ar.length 30<ar.length
    case' pos=>have d2:¬ ((min ar.length 30:Nat):Int)<30:=by omega
    case' pos=>have d3:¬ min ar.length 30<30:=by omega
    case' neg=>have d2:¬ ((min ar.length 30:Nat):Int)<(ar.length:Int):=by omega
    case' neg=>have d3:¬ min ar.length 30<ar.length:=d1
    all_goals
     generalize min ar.length 30=z at *;try (simp [d1,d2,d3])
     repeat (first|(refine sR ?_; simp [d1,d2,d3])|(refine sC ?_; simp [d1,d2,d3])|(refine sX ?_; simp only [AU, ↓reduceIte]))
     refine sT (sG hbox htok htk.old htk.le ?_);simp [packA,hHl]
variable {P:Program}
def lkv:List (Nat × Value)→Nat→Option Value
 | [],_=>none
 | (j,v)::r,i=>if i=j then some v else lkv r i
def swpL (l:List (Nat × Value)):Nat→List Oper→List Oper
 | _,[]=>[]
 | i,o::r=>(match lkv l i with|some v=>{ o with op:=.move (.const v) }|none=>o)::swpL l (i+1) r
theorem swpL_get (l:List (Nat × Value)):∀ (ops:List Oper) (k i:Nat),(swpL l k ops)[i]?=(ops[i]?).map fun o=>match lkv l (k+i) with|some v=>{ o with op:=.move (.const v) }|none=>o
 | [],k,i=>by simp [swpL]
 | o::r,k,0=>by simp [swpL]
 | o::r,k,i+1=>by
  have:=swpL_get l r (k+1) i
  simp only [swpL,List.getElem?_cons_succ,this];rw [show k+1+i=k+(i+1) by omega]
theorem swpL_len (l:List (Nat × Value)):∀ (ops:List Oper) (k:Nat),(swpL l k ops).length=ops.length
 | [],k=>rfl
 | o::r,k=>by simp [swpL,swpL_len l r]
def SwpOk (P:Program) (ops:List Oper) (l:List (Nat × Value)):Prop:=∀ i v o,lkv l i=some v→ops[i]?=some o→∀ (a:Act) (w:World),(execOp a.eval o).run P w=.ok (.value v) w
theorem wpOps_swap {ops:List Oper} {l:List (Nat × Value)} {Q:Exit→Act→World→Prop} (h:SwpOk P ops l):∀ (is:List Nat) (a:Act) (w:World),wpOps P (swpL l 0 ops).toArray Q is a w→wpOps P ops.toArray Q is a w
 | [],a,w,hq=>hq
 | i::is,a,w,hq=>by
  have ih:=wpOps_swap (Q:=Q) h is;have hg:=swpL_get l ops 0 i;have hy:∀ tm,yielded (swpL l 0 ops).toArray tm=yielded ops.toArray tm:=fun tm=>by
   funext j
   unfold yielded;have hj:=swpL_get l ops 0 j;simp only [List.getElem?_toArray];rw [hj];cases ops[j]? with
   | none=>rfl
   | some o =>
    simp only [Option.map_some];cases lkv l (0+j) <;> rfl
  unfold wpOps at hq ⊢;simp only [List.getElem?_toArray] at hq ⊢;rw [hg] at hq;cases ho:ops[i]? with
  | none=>rw [ho] at hq; exact ih a w hq
  | some o =>
   rw [ho] at hq;simp only [Option.map_some,Nat.zero_add] at hq ⊢;cases hv:lkv l i with
   | none =>
    rw [hv] at hq;simp only at hq;rw [hy] at hq;split at hq
    ·rename_i hw;rw [if_pos hw];rcases hq with hq|hq
     ·left;unfold Oper.wp at hq ⊢;generalize (execOp a.eval o).run P w=r at *;cases r with
      | ok n w' =>
       cases n <;> simp only [Oper.upon] at hq ⊢ <;>
        first
         | exact ih _ _ hq
         | exact Calls.mono hq (fun e w'' he=>by cases e <;> first|exact ih _ _ he|exact he)
         | exact Rows.mono hq (fun _ _ he=>ih _ _ he)
      | halt x w'=>cases x <;> simp only [Oper.upon] at hq ⊢ <;> exact hq
     ·exact .inr hq
    ·rename_i hw;rw [if_neg hw];exact ih _ _ hq
   | some v =>
    rw [hv] at hq;simp only at hq;rw [hy] at hq;have hr:=h i v o hv ho a w;have hwt:Region.wanted { o with op:=.move (.const v) } (yielded ops.toArray a.tmps)=Region.wanted o (yielded ops.toArray a.tmps):=rfl
    rw [hwt] at hq;split at hq
    ·rename_i hw;rw [if_pos hw];rcases hq with hq|⟨hq,_⟩
     ·left;unfold Oper.wp at hq ⊢;rw [hr,Oper.upon_value];have hr2:(execOp a.eval { o with op:=.move (.const v) }).run P w=.ok (.value v) w:=by simp [execOp,Act.eval]
      rw [hr2,Oper.upon_value] at hq;exact ih _ _ hq
     ·exfalso
      have:=hq.1
      simp [execOp,Act.eval] at this;have h0:Sem.events P (pure (Next.value v)) w #[] = #[]:=rfl
      rw [h0] at this;simp at this
    ·rename_i hw;rw [if_neg hw];exact ih _ _ hq
theorem AL.swap {cx:Cx} {nt0 id:Nat} {ops:List Oper} {S:AState} {K:Exit→AState→Prop} {r:List CI} (l:List (Nat × Value)) (h:SwpOk P ops l) (hnb:cx.base+cx.n≤cx.nb) (hok:regionOk cx.n (swpL l 0 ops).toArray false=true)
  (hr:FReg P cx (swpL l 0 ops).toArray false (AL P cx nt0 K r) S):AL P cx nt0 K (.c (.region id ops.toArray false)::r) S:=by
 simp only [AL];have hA:=fReg_sound hr;clear hr;simp only [regionOk,Bool.and_eq_true,Bool.or_eq_true,Bool.not_eq_true'] at hok;obtain ⟨⟨hal,hdst⟩,hreg⟩:=hok;have hsz:(swpL l 0 ops).toArray.size=ops.toArray.size:=by simp [swpL_len]
 obtain ⟨ops',ho'⟩:∃ o,(swpL l 0 ops).toArray=o:=⟨_,rfl⟩
 intro G0 w0 he hn G a w hr hl;have hsw:=fun is a w (Q:Exit→Act→World→Prop)=>wpOps_swap (Q:=Q) h is a w
 rw [ho'] at hal hdst hA hsz hsw;have hd:=dstOk_spec hdst;obtain ⟨b,hb,hr1,hp,hkeep⟩:=preB_sound hnb ops'.toList S.box (S:=S) hr (fun o ho d hod=>hd o d (by simpa using ho) hod) (allocOk_nodup hal) hA;have hl1:LeC cx G0 w0 G w { S with box:=b }:=⟨hl.1,fun k hk hg=>by
  rw [←hl.2 k hk hg];refine hkeep k fun hm=>?_
  obtain ⟨o,ho,he⟩:=List.mem_filterMap.1 hm;split at he
  ·rename_i T s h1 h2;simp only [Option.some.injEq] at he;subst he;exact absurd hk (by simp)
  ·cases he⟩
 simp only at hb;refine wp_region ?_;rw [←hsz];refine hsw _ _ _ _ ?_;rw [show List.range ops'.size=List.range' 0 ops'.toList.length by simp [List.range_eq_range']];exact aops_sound hd hnb hal (fun S' a' w' G' h1 h2 h3=>⟨S',G',h1,h2,h3⟩) ops'.toList 0 { S with box:=b } a w G (by simp) hp hr1 hl1 hb
theorem gok (f:Fo) (hs:f.Sm) (hv:validF f cosT=0) {X:List (ByteArray × List Bool)} (hX:atmR (usedF f) (bitS tyT) cosT hs3=X):MdlG (mdX X) 3 f ∧
  ∀ tok nt,DCall Tryz.prog 90 [tyT.av,spV hs3 ar3,f.av,.d (cosD cosT)] tok nt (.tup [(mdX X).av,I 0]) tok nt:=by
 have h:=gvh3 f hs hv;have h1:=mdl_ok tyT hs3 (ar3.map Ar50.pr) f cosT h.hn h.hn2 (fun a ha=>by obtain ⟨x,hx,rfl⟩:=List.mem_map.1 ha; exact h.ar x hx) h.va;have h2:=given50_c tyT hs3 ar3 f cosT h;rw [mdX_eq hX] at h1 h2;exact ⟨h1,h2⟩
theorem hold1 (tok:Tks) (nt:Nat):DCall Tryz.prog 35 [tyT.av,spV hs3 ar3,fo1.av,.d (cosD cosT)] tok nt (.tup [.d (bools [true,true,true]),I 0]) tok nt:=by
 obtain ⟨h1,h2⟩:=gok fo1 sm1 va1 ax1;have:=holds50_c (mdX atX1) 3 h1.ok fo1 (by decide) h1.hok _ _ _ _ _ tok nt (h2 tok nt)
 rw [ho1] at this;exact this
theorem trac2 (tok:Tks) (nt:Nat):DCall Tryz.prog 39 [tyT.av,spV hs3 ar3,fo2.av,.d (cosD cosT)] tok nt (.tup [.d (ints [0,1,2]),B false,I 0]) tok nt:=by
 obtain ⟨h1,h2⟩:=gok fo2 sm2 va2 ax2;have:=trace_c (mdX atX2) 3 h1.ok h1.cv fo2 (by decide) h1.hok _ _ _ _ _ tok nt (h2 tok nt)
 rw [traceA_of tr2 (by simp)] at this;exact this
theorem trac3 (tok:Tks) (nt:Nat):DCall Tryz.prog 39 [tyT.av,spV hs3 ar3,fo3.av,.d (cosD cosT)] tok nt (.tup [.d (ints [0,1,0]),B true,I 0]) tok nt:=by
 obtain ⟨h1,h2⟩:=gok fo3 sm3 va3 ax3;have:=trace_c (mdX atX2) 3 h1.ok h1.cv fo3 (by decide) h1.hok _ _ _ _ _ tok nt (h2 tok nt)
 rw [traceA_of tr3 (by simp)] at this;exact this
theorem rank4 (tok:Tks) (nt:Nat):DCall Tryz.prog 40 [tyT.av,spV hs3 ar3,fo4.av,.d (cosD cosT)] tok nt (.tup [.d (ints [1,0,0]),I 0]) tok nt:=by
 obtain ⟨h1,h2⟩:=gok fo4 sm4 va4 ax4;have:=rank_c (mdX atX1) 3 h1.ok h1.ne fo4 (by decide) h1.hok rfl _ _ _ _ _ tok nt (h2 tok nt)
 rw [rk4] at this;exact this
theorem spc3 (tok:Tks) (nt:Nat):DCall Tryz.prog 31 [.d (bytes [0,1,2]),.d (prU [(0,1),(1,0),(1,2)])] tok nt (spV hs3 ar3) tok nt:=by
 have:=space_c [0,1,2] (by unfold U8s; decide) [(0,1),(1,0),(1,2)] (by decide) tok nt
 have e1:spS [0,1,2] (spN [0,1,2])=hs3:=by rfl
 have e2:spA (spN [0,1,2]) [(0,1),(1,0),(1,2)] (min [((0:Int),(1:Int)),(1,0),(1,2)].length 30)=ar3:=by rfl
 rw [e1,e2] at this;exact this
abbrev u8p (x y:Int):Value:=.agg #[.int .u8 x,.int .u8 y]
set_option maxRecDepth 100000 in
theorem bld2 (x y:Int) (w:World):(Instr.build 169 #[(0,.int .u8 x),(1,.int .u8 y)]).run Tryz.prog w=.ok (u8p x y) w:=by
 have hu:=Tryz.underlying169;have he:zeroT Tryz.prog 169=some [.int .u8 0,.int .u8 0]:=by kernel_rfl
 have hs:szOf Tryz.prog 5=some 1:=by kernel_rfl
 unfold zeroT at he;split at he
 ·rename_i z hz;obtain ⟨i,hi,hzi⟩:=Option.bind_eq_some_iff.1 hz;split at he
  ·simp only [Option.some.injEq] at he;have hzr:(zeroValue 169).run Tryz.prog w=.ok z w:=by simp [zeroValue,typeInfo,hi,hzi]
   have hz2:z.cells = #[.int .u8 0,.int .u8 0]:=by rw [←he]
   simp only [Instr.build,Sem.run_bind,hzr,Result.andThen_ok,run_underlying hu,run_sizeOf hs,hz2];simp [Instr.fill,Value.cells]
  ·cases he
 ·cases he
set_option maxRecDepth 100000 in
theorem awake50_c (tok:Tks) (nt:Nat):DCall Tryz.prog 26 [] tok nt (B true) tok nt:=by
 intro box nb;refine sI Tryz.func26 Tryz.ntmps26 fun hbox htok=>?_
 refine sR ?_;simp;refine sN ?_;refine AL.swap [(1,u8p 0 1),(2,u8p 1 0),(3,u8p 1 2)] ?_ (Nat.le_refl _) (by kernel_rfl) ?_
 ·intro i v o h1 h2 a w;unfold lkv lkv lkv lkv at h1;split at h1
  ·rename_i e; subst e; cases h1; cases h2; simp [execOp,Act.eval,bld2]
  ·split at h1
   ·rename_i e; subst e; cases h1; cases h2; simp [execOp,Act.eval,bld2]
   ·split at h1
    ·rename_i e; subst e; cases h1; cases h2; simp [execOp,Act.eval,bld2]
    ·cases h1
 have oc:∀ n,(Value.int .u8 n).oneCell'=true:=fun _=>rfl
 simp [swpL,lkv,oc];refine ⟨rfl,?_⟩;refine Stop.data ?_;refine Stop.of_d (spc3 _ _) ?_;try (simp)
 repeat (first|(refine sR ?_; simp)|(refine sC ?_; simp)|(refine sX ?_; simp only [AU, ↓reduceIte]))
 refine Stop.of_d (constraints50_c _ _) ?_;simp;try (simp)
 repeat (first|(refine sR ?_; simp)|(refine sC ?_; simp)|(refine sX ?_; simp only [AU, ↓reduceIte]))
 refine Stop.of_d (atom50_c _ _ _) ?_;simp;refine Stop.data ?_;refine Stop.of_d (of50_c 2 [foA] _ _) ?_;try (simp)
 repeat (first|(refine sR ?_; simp)|(refine sC ?_; simp)|(refine sX ?_; simp only [AU, ↓reduceIte]))
 refine Stop.of_d (types50_c _ _) ?_;simp;refine Stop.data ?_;refine Stop.of_d (of50_c 6 [foS] _ _) ?_;simp;refine Stop.of_d (hold1 _ _) ?_;simp;try (simp)
 repeat (first|(refine sR ?_; simp)|(refine sC ?_; simp)|(refine sX ?_; simp only [AU, ↓reduceIte]))
 refine Stop.of_d (types50_c _ _) ?_;simp;refine Stop.of_d (atom50_c _ _ _) ?_;simp;refine Stop.data ?_;refine Stop.of_d (of50_c 11 [foB] _ _) ?_;simp;refine Stop.of_d (trac2 _ _) ?_;try (simp)
 repeat (first|(refine sR ?_; simp)|(refine sC ?_; simp)|(refine sX ?_; simp only [AU, ↓reduceIte]))
 refine Stop.of_d (types50_c _ _) ?_;simp;refine Stop.of_d (atom50_c _ _ _) ?_;simp;refine Stop.data ?_;refine Stop.of_d (of50_c 7 [foB] _ _) ?_;simp;refine Stop.of_d (trac3 _ _) ?_;try (simp)
 repeat (first|(refine sR ?_; simp)|(refine sC ?_; simp)|(refine sX ?_; simp only [AU, ↓reduceIte]))
 refine Stop.of_d (types50_c _ _) ?_;simp;refine Stop.data ?_;refine Stop.of_d (of50_c 10 [foS] _ _) ?_;simp;refine Stop.of_d (rank4 _ _) ?_;try (simp)
 repeat (first|(refine sR ?_; simp)|(refine sC ?_; simp)|(refine sX ?_; simp only [AU, ↓reduceIte]))
 refine ⟨rfl,?_⟩;refine Stop.data ?_;refine Stop.of_d (equalB_c [true,true,true] [true,true,true] (by decide) (by decide) _ _) ?_;try (simp)
 repeat (first|(refine sR ?_; simp)|(refine sC ?_; simp)|(refine sX ?_; simp only [AU, ↓reduceIte]))
 refine ⟨rfl,?_⟩;refine Stop.data ?_;refine Stop.of_d (equalI_c [0,1,2] [0,1,2] (by decide) (by decide) _ _) ?_;try (simp)
 repeat (first|(refine sR ?_; simp)|(refine sC ?_; simp)|(refine sX ?_; simp only [AU, ↓reduceIte]))
 refine ⟨rfl,?_⟩;refine Stop.data ?_;refine Stop.of_d (equalI_c [0,1,0] [0,1,0] (by decide) (by decide) _ _) ?_;try (simp)
 repeat (first|(refine sR ?_; simp)|(refine sC ?_; simp)|(refine sX ?_; simp only [AU, ↓reduceIte]))
 refine ⟨rfl,?_⟩;refine Stop.data ?_;refine Stop.of_d (equalI_c [1,0,0] [1,0,0] (by decide) (by decide) _ _) ?_;try (simp)
 repeat (first|(refine sR ?_; simp)|(refine sC ?_; simp)|(refine sX ?_; simp only [AU, ↓reduceIte]))
 refine sT (sH hbox htok ?_);simp [packA]
def abT (k:Int):ByteArray:=if k=0 then ⟨#[97]⟩ else if k=1 then ⟨#[98]⟩ else if k=2 then ⟨#[99]⟩ else ⟨#[100]⟩
def foK (g:List Int→Fo × List Int):Nat→List Int→List Fo × List Int
 | 0,cs=>([],cs)
 | i+1,cs=>((foK g i cs).1++[(g (foK g i cs).2).1],(g (foK g i cs).2).2)
def foC (k:Int):Nat:=if k=3∨k=4∨k=8∨k=12 then 2 else 1
def fdA (n:Int):Fo:=.mk 1 (abT (n / 12 % 4)) []
def foG:Nat→List Int→Fo × List Int
 | 0,cs=>(fdA (cs.headD 0),cs.tail)
 | l+1,cs=>if 1+cs.headD 0 % 12=1 then (fdA (cs.headD 0),cs.tail) else (.mk (1+cs.headD 0 % 12) ⟨#[]⟩ (foK (foG l) (foC (1+cs.headD 0 % 12)) cs.tail).1,(foK (foG l) (foC (1+cs.headD 0 % 12)) cs.tail).2)
theorem foC_le (k:Int):1≤foC k∧foC k≤2:=by unfold foC; split <;> omega
theorem foK_len (g:List Int→Fo × List Int) (cs:List Int):∀ i,(foK g i cs).1.length=i
 | 0=>rfl
 | i+1=>by simp [foK,foK_len g cs i]
structure MkP (l:Nat) (f:Fo):Prop where
 form:f.formE=0
 size:f.size+1≤2 ^ (l+1)
 depth:f.depth≤l+1
 ats:∀ s∈f.ats,s=⟨#[97]⟩∨s=⟨#[98]⟩∨s=⟨#[99]⟩∨s=⟨#[100]⟩
 sm:f.Sm
theorem abT_ok (k:Int):abT k=⟨#[97]⟩∨abT k=⟨#[98]⟩∨abT k=⟨#[99]⟩∨abT k=⟨#[100]⟩:=by
 unfold abT;split
 ·exact .inl rfl
 ·split
  ·exact .inr (.inl rfl)
  ·split
   ·exact .inr (.inr (.inl rfl))
   ·exact .inr (.inr (.inr rfl))
theorem fat_ab:fatB ⟨#[97]⟩=true∧fatB ⟨#[98]⟩=true∧fatB ⟨#[99]⟩=true∧fatB ⟨#[100]⟩=true:=by decide +kernel
theorem fdA_ok (n:Int) (l:Nat):MkP l (fdA n):=by
 have h:=abT_ok (n / 12 % 4);have hp:2≤2 ^ (l+1):=by rw [Nat.pow_succ]; have:=Nat.one_le_two_pow (n:=l); omega
 unfold fdA;refine ⟨?_,by simp [Fo.size,Fo.sizeL]; omega,by simp [Fo.depth,Fo.depthL],?_,sm_atom _ ?_⟩
 ·rw [Fo.formE];have hb:badF 1 (abT (n / 12 % 4)) ([]:List Fo).length=false:=by simp [badF,arB]
  rw [if_neg (by rw [hb]; simp)];have hf:fatB (abT (n / 12 % 4))=true:=by
   obtain ⟨f1,f2,f3,f4⟩:=fat_ab;rcases h with h|h|h|h <;> rw [h] <;> assumption
  rw [if_neg (by rw [hf]; simp),Fo.formL]
 ·intro s hs;simp [Fo.ats,Fo.atsL] at hs;subst hs;exact h
 ·rcases h with h|h|h|h <;> rw [h] <;> decide
theorem Fo.formL_all:∀ l:List Fo,(∀ x∈l,x.formE=0)→Fo.formL l=0
 | [],_=>by rw [Fo.formL]
 | x::r,h=>by rw [Fo.formL,if_neg (by rw [h x (by simp)]; simp),Fo.formL_all r fun y hy=>h y (by simp [hy])]
theorem Fo.sizeL_le (M:Nat):∀ l:List Fo,(∀ x∈l,x.size≤M)→Fo.sizeL l≤l.length * M
 | [],_=>by simp [Fo.sizeL]
 | x::r,h=>by
  have h1:=h x (by simp);have h2:=Fo.sizeL_le M r fun y hy=>h y (by simp [hy])
  simp only [Fo.sizeL,List.length_cons,Nat.succ_mul];omega
theorem Fo.depthL_le (M:Nat):∀ l:List Fo,(∀ x∈l,x.depth≤M)→Fo.depthL l≤M
 | [],_=>by simp [Fo.depthL]
 | x::r,h=>by
  have h1:=h x (by simp);have h2:=Fo.depthL_le M r fun y hy=>h y (by simp [hy])
  simp only [Fo.depthL];omega
theorem Fo.atsL_mem:∀ (l:List Fo) (s:ByteArray),s∈Fo.atsL l→∃ x∈l,s∈x.ats
 | [],s,h=>by simp [Fo.atsL] at h
 | x::r,s,h=>by
  rw [Fo.atsL] at h;rcases List.mem_append.1 h with h|h
  ·exact ⟨x,by simp,h⟩
  ·obtain ⟨y,hy,hs⟩:=Fo.atsL_mem r s h;exact ⟨y,by simp [hy],hs⟩
theorem fo_ok {k:Int} {c:List Fo} {l:Nat} (hk:k≠1) (ha:arB k c.length=true) (hl:c.length≤2) (hc:∀ x∈c,MkP l x):MkP (l+1) (.mk k ⟨#[]⟩ c):=by
 have hp:=Nat.one_le_two_pow (n:=l+1);have hsz:=Fo.sizeL_le (2 ^ (l+1) - 1) c fun x hx=>by have:=(hc x hx).size; omega
 refine ⟨?_,?_,?_,?_,.mk (by simp only [Fo.name]; decide) (by simp only [Fo.kids]; omega) (fun x hx=>(hc x (by simpa [Fo.kids] using hx)).sm)⟩
 ·rw [Fo.formE];have hb:badF k ⟨#[]⟩ c.length=false:=by unfold badF; rw [ha]; simp
  rw [if_neg (by rw [hb]; simp),if_neg (fun h=>hk h.1),Fo.formL_all c fun x hx=>(hc x hx).form]
 ·simp only [Fo.size];have h2:c.length * (2 ^ (l+1) - 1)≤2 * (2 ^ (l+1) - 1):=Nat.mul_le_mul_right _ hl
  rw [Nat.pow_succ 2 (l+1)];omega
 ·simp only [Fo.depth];have:=Fo.depthL_le (l+1) c fun x hx=>(hc x hx).depth
  omega
 ·intro s hs;rw [Fo.ats,if_neg hk] at hs;obtain ⟨x,hx,h⟩:=Fo.atsL_mem c s hs;exact (hc x hx).ats s h
theorem foK_all {g:List Int→Fo × List Int} {p:Fo→Prop} (h:∀ cs,p (g cs).1) (cs:List Int):∀ i,∀ x∈(foK g i cs).1,p x
 | 0,x,hx=>by simp [foK] at hx
 | i+1,x,hx=>by
  simp only [foK,List.mem_append,List.mem_singleton] at hx;rcases hx with hx|rfl
  ·exact foK_all h cs i x hx
  ·exact h _
theorem arB_fo {k:Int} (h1:2≤k) (h2:k≤12):arB k (foC k)=true:=by
 unfold arB foC;rw [if_neg (by omega)];by_cases c1:k=3∨k=4
 ·rw [if_pos c1,if_pos (by omega)];rfl
 ·rw [if_neg c1];by_cases c2:k=8∨k=12
  ·rw [if_pos c2,if_pos (by omega)];rfl
  ·rw [if_neg c2,if_neg (by omega)];simp;omega
theorem foG_ok:∀ (l:Nat) (cs:List Int),MkP l (foG l cs).1:=by
 intro l;induction l with
 | zero=>intro cs; exact fdA_ok _ 0
 | succ l ih =>
  intro cs;rw [foG];split
  ·exact fdA_ok _ _
  ·rename_i hk;refine fo_ok hk (by rw [foK_len]; exact arB_fo (by omega) (by omega)) (by rw [foK_len]; exact (foC_le _).2) (foK_all ih _ _)
theorem foK_suf {g:List Int→Fo × List Int} (h:∀ cs,(g cs).2 <:+ cs) (cs:List Int):∀ i,(foK g i cs).2 <:+ cs
 | 0=>List.suffix_refl _
 | i+1=>(h _).trans (foK_suf h cs i)
theorem foG_suf:∀ (l:Nat) (cs:List Int),(foG l cs).2 <:+ cs:=by
 intro l;induction l with
 | zero=>intro cs; exact List.tail_suffix _
 | succ l ih =>
  intro cs;rw [foG];split
  ·exact List.tail_suffix _
  ·exact (foK_suf ih _ _).trans (List.tail_suffix _)
def hostL:List Hs:=[⟨⟨[],[]⟩,[]⟩,⟨⟨[0],[]⟩,[[]]⟩,⟨⟨[0],[⟨0,0,0⟩]⟩,[[]]⟩,⟨⟨[0,0],[]⟩,[[],[]]⟩,⟨⟨[0,0],[⟨0,0,0⟩]⟩,[[],[]]⟩,⟨⟨[0,0],[⟨0,0,1⟩]⟩,[[],[]]⟩,⟨⟨[0,0],[⟨0,0,0⟩,⟨0,0,1⟩]⟩,[[],[]]⟩]
theorem spH_mem (n:Int):spH n∈hostL:=by
 have h:spK n=0∨spK n=1∨spK n=2:=by unfold spK; omega
 unfold spH spE spE1 spE2;rcases h with h|h|h <;> rw [h] <;> simp only [Nat.lt_irrefl,false_and, ↓reduceIte,List.nil_append,List.append_nil,List.replicate] <;> (repeat' split) <;> simp_all [hostL]
theorem hostL_r:∀ h∈hostL,(hostR tyT (atsK tyT) h).2=0:=by decide +kernel
theorem hostL_v:∀ h∈hostL,∀ c∈cosT,(vioS tyT c h.g fun _=>false).2=0:=by decide +kernel
theorem hostL_n:∀ h∈hostL,h.g.nodes.length≤1000000∧h.g.edges.length≤1000000∧h.vals.length≤1000000:=by decide
theorem spS_mem {cs:List Int} {i:Nat} {h:Hs} (hh:h∈spS cs i):h∈hostL:=by
 unfold spS at hh;obtain ⟨j,_,rfl⟩:=List.mem_map.1 hh;exact spH_mem _
theorem spN_r (cs:List Int):1≤spN cs∧spN cs≤10:=by unfold spN; omega
theorem spA_r {k:Nat} (hk:1≤k) {ar:List (Int × Int)} {i:Nat}:∀ a∈spA k ar i,inR k a.fr∧inR k a.to:=by
 intro a ha;unfold spA at ha;obtain ⟨x,_,rfl⟩:=List.mem_map.1 ha;have h0:(k:Int)≠0:=by omega
 exact ⟨⟨Int.emod_nonneg _ h0,Int.emod_lt_of_pos _ (by omega)⟩,Int.emod_nonneg _ h0,Int.emod_lt_of_pos _ (by omega)⟩
structure FmP (S D:Nat) (f:Fo):Prop where
 form:f.formE=0
 size:f.size≤S
 depth:f.depth≤D
 ats:∀ s∈f.ats,s=⟨#[97]⟩∨s=⟨#[98]⟩∨s=⟨#[99]⟩∨s=⟨#[100]⟩
 sm:f.Sm
abbrev foO (k:Int) (c:List Fo):Fo:=.mk k ⟨#[]⟩ c
theorem fmp_made (cs:List Int):FmP 15 4 (foG 3 cs).1:=by
 have h:=foG_ok 3 cs;have:=h.size
 exact ⟨h.form,by omega,h.depth,h.ats,h.sm⟩
theorem fmp1 {S D:Nat} {f:Fo} {k:Int} (h:FmP S D f) (hk:k≠1) (ha:arB k 1=true):FmP (S+1) (D+1) (foO k [f]):=by
 have h1:=h.size;have h2:=h.depth;refine ⟨?_,by simp [Fo.size,Fo.sizeL]; omega,by simp [Fo.depth,Fo.depthL]; omega,?_,sm_one h.sm⟩
 ·rw [Fo.formE];have hb:badF k ⟨#[]⟩ [f].length=false:=by unfold badF; rw [show [f].length=1 from rfl,ha]; simp
  rw [if_neg (by rw [hb]; simp),if_neg (fun h=>hk h.1),Fo.formL_all [f] fun x hx=>by rw [List.mem_singleton.1 hx]; exact h.form]
 ·intro s hs;rw [Fo.ats,if_neg hk] at hs;obtain ⟨x,hx,h3⟩:=Fo.atsL_mem _ s hs;rw [List.mem_singleton.1 hx] at h3;exact h.ats s h3
theorem fmp2 {S D S' D':Nat} {f g:Fo} {k:Int} (h:FmP S D f) (h':FmP S' D' g) (hk:k≠1) (ha:arB k 2=true):FmP (S+S'+1) (max D D'+1) (foO k [f,g]):=by
 have h1:=h.size;have h2:=h.depth;have h3:=h'.size;have h4:=h'.depth;have hm:∀ x∈[f,g],x.formE=0∧x.Sm:=by
  intro x hx;rcases List.mem_cons.1 hx with rfl|hx
  ·exact ⟨h.form,h.sm⟩
  ·rw [List.mem_singleton.1 hx]; exact ⟨h'.form,h'.sm⟩
 refine ⟨?_,by simp [Fo.size,Fo.sizeL]; omega,by simp [Fo.depth,Fo.depthL]; omega,?_,.mk (by simp only [Fo.name]; decide) (by simp [Fo.kids]) (fun x hx=>(hm x (by simpa [Fo.kids] using hx)).2)⟩
 ·rw [Fo.formE];have hb:badF k ⟨#[]⟩ [f,g].length=false:=by unfold badF; rw [show [f,g].length=2 from rfl,ha]; simp
  rw [if_neg (by rw [hb]; simp),if_neg (fun h=>hk h.1),Fo.formL_all [f,g] fun x hx=>(hm x hx).1]
 ·intro s hs;rw [Fo.ats,if_neg hk] at hs;obtain ⟨x,hx,h5⟩:=Fo.atsL_mem _ s hs;rcases List.mem_cons.1 hx with rfl|hx
  ·exact h.ats s h5
  ·rw [List.mem_singleton.1 hx] at h5; exact h'.ats s h5
theorem cosT_co:coF cosT cosT.length 0=0:=by decide +kernel
theorem cosT_has:hasCo cosT ⟨#[97]⟩=true∧hasCo cosT ⟨#[98]⟩=true∧hasCo cosT ⟨#[99]⟩=true∧hasCo cosT ⟨#[100]⟩=true:=by decide +kernel
theorem fmp_valid {S D:Nat} {f:Fo} (h:FmP S D f) (hS:S≤40) (hD:D≤8):validF f cosT=0:=by
 have h1:=h.size;have h2:=h.depth;have hsh:shapeF f=0:=by
  unfold shapeF;rw [h.form,if_neg (by simp),if_neg (by omega),if_neg (by omega)]
 unfold validF;rw [hsh,if_neg (by simp),if_neg (by decide),cosT_co,if_neg (by simp),if_pos];rw [List.all_eq_true];intro s hs;obtain ⟨g1,g2,g3,g4⟩:=cosT_has;rcases h.ats s hs with rfl|rfl|rfl|rfl <;> assumption
theorem gvhD (cs:List Int) (ar:List (Int × Int)) {S D:Nat} {f:Fo} (h:FmP S D f) (hS:S≤40) (hD:D≤8):GvH tyT (spS cs (spN cs)) (spA (spN cs) ar (min ar.length 30)) f cosT where
 ft:=tyT_fit
 sm:=h.sm
 cos:=cosT_ok
 va:=validF_zero (fmp_valid h hS hD)
 v0:=fmp_valid h hS hD
 ty:=tyT_ok
 cn:=cosT_cn
 kd:=cosT_kd
 hn:=by have:=spN_r cs; simp; omega
 hn2:=by have:=spN_r cs; simp; omega
 an:=by simp [spA]; omega
 hg:=fun x hx=>by
  obtain ⟨g1,g2,g3⟩:=hostL_n x (spS_mem hx);exact ⟨⟨g1,g2⟩,g3,hostL_r x (spS_mem hx)⟩
 ar:=fun a ha=>by
  have h1:=spN_r cs;have:=spA_r h1.1 a ha
  rw [spS_len];exact this
 vi:=fun x hx=>hostL_v x (spS_mem hx)
theorem mdlR_cong {t:Ty} {H:List Hs} {A:List (Int × Int)} {f g:Fo} {L:List Co} (h:∀ s,s∈f.ats↔s∈g.ats):mdlR t H A f L=mdlR t H A g L:=by
 have:usedF f=usedF g:=funext fun s=>by
  unfold usedF;rw [Bool.eq_iff_iff,memS_iff,memS_iff];exact h s
 unfold mdlR;rw [this]
theorem mdl_cv2 (t:Ty) (H:List Hs) (A:List (Int × Int)) (f:Fo) (L:List Co) (hA:∀ a∈A,inR H.length a.1∧inR H.length a.2):Conv2 H.length (mdlR t H A f L).next (mdlR t H A f L).prev:=by
 obtain ⟨hx,_⟩:=nxR_ok (arP_ok hA A.length (Nat.le_refl _));have e1:(mdlR t H A f L).next=nxR (arP H.length A A.length):=rfl
 have e2:(mdlR t H A f L).prev=pvP (nxR (arP H.length A A.length)) H.length:=rfl
 rw [e1,e2];generalize nxR (arP H.length A A.length)=NX at *;have hl:=hx.len;have hx2:RwI NX.length NX:=by rw [hl]; exact hx
 intro i k hi hk;rw [pvP_get hx2 H.length (by omega) k (by omega)];constructor
 ·intro h;exact List.mem_map.2 ⟨i,List.mem_filter.2 ⟨List.mem_range.2 hi,by simpa using h⟩,rfl⟩
 ·intro h;obtain ⟨j,hj,he⟩:=List.mem_map.1 h;have:j=i:=by omega
  subst this;simpa using (List.mem_filter.1 hj).2
theorem holds1 (m:Mdl) (k:Int) (f:Fo):(foO k [f]).holds m=holdV m k ⟨#[]⟩ [f.holds m]:=by rw [Fo.holds_eq]; rfl
theorem holds2 (m:Mdl) (k:Int) (f g:Fo):(foO k [f,g]).holds m=holdV m k ⟨#[]⟩ [f.holds m,g.holds m]:=by rw [Fo.holds_eq]; rfl
theorem at_or {a b:List Bool} {i:Nat} (ha:i<a.length) (hb:i<b.length):at_ (zipB 4 a b) i=(at_ a i||at_ b i):=by simp [at_,zipB,ha,hb,List.getElem?_zipWith]
theorem at_ext {a b:List Bool} (h:a.length=b.length) (k:∀ i,i<a.length→at_ a i=at_ b i):a=b:=by
 refine List.ext_getElem h fun i h1 h2=>?_
 have:=k i h1
 simpa [at_,h1,h2] using this
def duX (f:Fo):List (Fo × Fo):=[(foO 11 [f],foO 2 [foO 6 [foO 2 [f]]]),(foO 10 [f],foO 2 [foO 7 [foO 2 [f]]]),(foO 9 [f],foO 2 [foO 5 [foO 2 [f]]]),(foO 6 [f],foO 4 [f,foO 5 [foO 6 [f]]]),(foO 10 [f],foO 4 [f,foO 9 [foO 10 [f]]])]
theorem du_holds {m:Mdl} {n:Nat} (hm:m.Ok n) (hc:Conv2 n m.next m.prev) {f:Fo} (hl:(f.holds m).length=n):∀ p∈duX f,p.1.holds m=p.2.holds m:=by
 intro p hp;have hu:=fun (i:Nat) (hi:i<n)=>until_fix (f:=allR n) (g:=f.holds m) hl hm.next hm.nextR hm.prevR hc hi
 obtain ⟨ha1,ha2⟩:=always_fix (f:=notR (f.holds m)) (by rw [notR_len]; exact hl) hm.next hm.nextR;have hul:=untilR_len hm (allR n) (f.holds m) hl;simp only [duX,List.mem_cons,List.not_mem_nil,or_false] at hp;rcases hp with rfl|rfl|rfl|rfl|rfl
 ·simp [holds1,holdV,hl]
 ·simp [holds1,holdV,hl]
 ·simp [holds1,holdV,hl]
 ·simp only [holds1,holds2,holdV];simp [hl];generalize f.holds m=V at *;generalize untilR m.prev (allR n) V=U at *;refine at_ext (by simp [zipB,hl,hul,hm.next]) fun i hi=>?_
  rw [hu i (by omega),at_or (by omega) (by simp [hm.next]; omega),at_all (by omega),Bool.true_and]
 ·simp only [holds1,holds2,holdV];simp [hl];generalize f.holds m=V at *;generalize alwaysR m.next (notR V)=G at *;have hnn:notR (notR G)=G:=by simp [notR,Function.comp_def]
  rw [hnn];refine at_ext (by simp [zipB,hl,ha1,hm.next]) fun i hi=>?_
  have hi':i<n:=by simpa [ha1] using hi
  rw [at_or (by omega) (by simp [hm.next]; omega),at_not (by omega),at_not (by simp [hm.next]; omega),ha2 i (by omega),at_not (by omega)];cases at_ V i <;> simp
theorem abT_ex {q:Int} (h:0≤q∧q<4):(⟨#[97,98,99,100]⟩:ByteArray).extract q.toNat (q+1).toNat=abT q:=by
 have:q=0∨q=1∨q=2∨q=3:=by omega
 rcases this with rfl|rfl|rfl|rfl <;> decide
structure MkX where
 i:Nat
 o:Own
 tok:Nat→Bool
 nt:Nat
def stMk (g:List Int→Fo × List Int) (k:Int) (c l:Nat) (cs:List Int) (nb:Nat) (box:Bxs) (x:MkX):AState :=
 ⟨tl [(10,I x.i),(9,I c),(7,I k),(0,.d (bytes (foK g x.i cs).2)),(1,I ((l:Int)+1)),(8,.ptr (nb+8) 0 0),(4,.ptr (nb+4) 0 0)],
  lb nb box [(8,[[I k,Sb ⟨#[]⟩,.osl 3 ((foK g x.i cs).1.map Fo.cells) x.o]]),(4,[[z0i,Sb ⟨#[]⟩,nilS]])],x.tok,x.nt⟩
set_option maxRecDepth 100000 in
theorem made_step (l:Nat) (hl3:l≤3) (ih:∀ l',l=l'+1→∀ cs,U8s cs→cs.length≤1000→∀ tok nt,DCall Tryz.prog 89 [.d (bytes cs),I ((l':Int)+1)] tok nt (.tup [(foG l' cs).1.av,.d (bytes (foG l' cs).2)]) tok nt)
  (cs:List Int) (hc:U8s cs) (hl:cs.length≤1000) (tok:Tks) (nt:Nat):DCall Tryz.prog 89 [.d (bytes cs),I ((l:Int)+1)] tok nt (.tup [(foG l cs).1.av,.d (bytes (foG l cs).2)]) tok nt:=by
 intro box nb;obtain ⟨Res,hRes⟩:∃ Res,foG l cs=Res:=⟨_,rfl⟩
 rw [hRes];obtain ⟨n,hn⟩:∃ n,cs.headD 0=n:=⟨_,rfl⟩
 have hn1:0≤n∧n<256:=by
  cases cs with
  | nil=>rw [←hn]; decide
  | cons c r=>rw [←hn]; exact hc c (by simp)
 obtain ⟨hn1,hn2⟩:=hn1;obtain ⟨r,hr⟩:∃ r,cs.tail=r:=⟨_,rfl⟩
 have hrc:U8s r:=fun c h=>hc c (by rw [←hr] at h; exact List.mem_of_mem_tail h)
 have hrl:r.length≤1000:=by rw [←hr,List.length_tail]; omega
 refine sI Tryz.func89 Tryz.ntmps89 fun hbox htok=>?_
 have htk0:TK tok nt tok nt []:=TK.start htok
 refine sR ?_;simp;refine sR ?_;simp;refine AL.seq ?_;refine AL.mid ⟨tl [(6,I n),(0,.d (bytes r)),(1,I ((l:Int)+1)),(4,.ptr (nb+4) 0 0)],lb nb box [(4,[[z0i,Sb ⟨#[]⟩,nilS]])],tok,nt⟩ ?_ ?_
 ·cases cs with
  | nil =>
   simp at hn hr;subst hn;subst hr;try (simp)
   repeat (first|(refine sR ?_; simp)|(refine sC ?_; simp)|(refine sX ?_; simp only [AU, ↓reduceIte]))
   refine sE ?_;exact wkA
  | cons c cs =>
   simp at hn hr;subst hn;subst hr;have hwn:IntKind.i64.wrap c=c:=wrap_in (by omega) (by omega)
   try (simp [hwn])
   repeat (first|(refine sR ?_; simp [hwn])|(refine sC ?_; simp [hwn])|(refine sX ?_; simp only [AU, ↓reduceIte]))
   have htk:List.take cs.length (cs.map fun n=>[u8 n])=cs.map fun n=>[u8 n]:=List.take_of_length_le (by simp)
   refine sE ?_;exact Weaks.mk (Nat.le_refl _) rfl (by simp [ToL,lk,htk,bytes]) (by simp [BoxL,lk])
 ·have ht12:n.tmod 12=n % 12:=Int.tmod_eq_emod_of_nonneg hn1
  have hwk:IntKind.i64.wrap (1+n % 12)=1+n % 12:=wrap_in (by omega) (by omega)
  have hd12:n.tdiv 12=n / 12:=Int.tdiv_eq_ediv_of_nonneg hn1
  have hwd:IntKind.i64.wrap (n / 12)=n / 12:=wrap_in (by omega) (by omega)
  obtain ⟨q,hq⟩:∃ q,n / 12 % 4=q:=⟨_,rfl⟩
  have ht4:(n / 12).tmod 4=q:=by rw [Int.tmod_eq_emod_of_nonneg (by omega),hq]
  have hq1:0≤q∧q<4:=by omega
  have hwq:IntKind.i64.wrap (q+1)=q+1:=wrap_in (by omega) (by omega)
  have hex:(⟨#[97,98,99,100]⟩:ByteArray).extract q.toNat (q+1).toNat=abT q:=abT_ex hq1
  have hq0:0≤q:=hq1.1
  have hq4:q+1≤4:=by omega
  refine sR ?_;simp [ht12,hwk];by_cases hk1:l=0∨1+n % 12=1
  ·have hR:Res=(fdA n,r):=by
    rw [←hRes];cases l with
    | zero=>rw [foG,hn,hr]
    | succ l=>rw [foG,hn,hr,if_pos (show 1+n % 12=1 by omega)]
   refine AL.seq ?_;refine AL.mid ⟨tl [(7,I 1),(6,I n),(0,.d (bytes r)),(1,I ((l:Int)+1)),(4,.ptr (nb+4) 0 0)],lb nb box [(4,[[z0i,Sb ⟨#[]⟩,nilS]])],tok,nt⟩ ?_ ?_
   ·by_cases hl0:l=0
    ·subst hl0;try (simp)
     repeat (first|(refine sR ?_; simp)|(refine sC ?_; simp)|(refine sX ?_; simp only [AU, ↓reduceIte]))
     refine sE ?_;exact wkA
    ·have h1:1+n % 12=1:=by omega
     have hle:¬ (l:Int)+1≤1:=by omega
     try (simp [hle,h1])
     repeat (first|(refine sR ?_; simp [hle,h1])|(refine sC ?_; simp [hle,h1])|(refine sX ?_; simp only [AU, ↓reduceIte]))
     refine sE ?_;exact wkA
   ·try (simp [hd12,hwd,ht4,hwq,hq0,hq4,hex])
    repeat (first|(refine sR ?_; simp [hd12,hwd,ht4,hwq,hq0,hq4,hex])|(refine sC ?_; simp [hd12,hwd,ht4,hwq,hq0,hq4,hex])|(refine sX ?_; simp only [AU, ↓reduceIte]))
    refine ⟨⟨by omega,by omega,by rw [show (⟨#[97,98,99,100]⟩:ByteArray).size=4 from rfl]; omega⟩,?_⟩;refine sT (sH hbox htok ?_);simp [packA,hR,fdA,hq,Fo.kind,Fo.name,Fo.kids];exact .odsub .emp
  ·obtain ⟨l,rfl⟩:∃ j,l=j+1:=⟨l - 1,by omega⟩
   have ih:=ih l rfl;obtain ⟨k,hk⟩:∃ k,1+n % 12=k:=⟨_,rfl⟩
   have hk2:2≤k∧k≤12:=by omega
   have hR:Res=(.mk k ⟨#[]⟩ (foK (foG l) (foC k) r).1,(foK (foG l) (foC k) r).2):=by
    rw [←hRes,foG,hn,hr,hk,if_neg (by omega)]
   rw [hk];have hle:¬ (l:Int)+1+1≤1:=by omega
   have hk1n:¬ k=1:=by omega
   have hk1b:(k==1)=false:=by simp [hk1n]
   refine sR ?_;simp [hle];refine sC ?_;simp [hle];refine sR ?_;simp [hk1n,hk1b];refine sC ?_;simp;refine sR ?_;simp;refine sR ?_;simp;refine AL.seq ?_;refine AL.mid ⟨tl [(9,I (foC k)),(7,I k),(0,.d (bytes r)),(1,I ((l+1:Nat)+1)),(8,.ptr (nb+8) 0 0),(4,.ptr (nb+4) 0 0)],lb nb box [(8,[[I k,Sb ⟨#[]⟩,nilS]]),(4,[[z0i,Sb ⟨#[]⟩,nilS]])],tok,nt⟩ ?_ ?_
   ·have hks:k=2∨k=3∨k=4∨k=5∨k=6∨k=7∨k=8∨k=9∨k=10∨k=11∨k=12:=by omega
    clear hk hR hk1n hk1b;rcases hks with rfl|rfl|rfl|rfl|rfl|rfl|rfl|rfl|rfl|rfl|rfl
    all_goals
     try (simp)
     repeat (first|(refine sR ?_; simp)|(refine sC ?_; simp)|(refine sX ?_; simp only [AU, ↓reduceIte]))
     refine sE ?_;exact Weaks.mk (Nat.le_refl _) rfl (by simp [ToL,lk,foC]) (by simp [BoxL,lk])
   ·have hc2:=foC_le k;refine sR ?_;simp;refine sN ?_;refine AL.loopT (stMk (foG l) k (foC k) (l+1) r nb box) (fun x=>x.i≤foC k∧TK tok nt x.tok x.nt [x.o]) (fun x=>foC k - x.i) ⟨0,.full,tok,nt⟩ ⟨Nat.zero_le _,htk0.full⟩ (Weaks.mk (Nat.le_refl _) rfl (by simp [ToL,lk,foK]) (by simp [BoxL,lk,foK])) ?_;rintro ⟨i,o,tok1,nt1⟩ S ⟨hi,htk⟩ hS;simp only [stMk] at hS hi htk;subst hS;have hw:=sW (i:=i) (by omega);by_cases hlt:i<foC k
    ·have hsuf:=foK_suf (g:=foG l) (foG_suf l) r i;have hkc:U8s (foK (foG l) i r).2:=fun c h=>hrc c (hsuf.subset h)
     have hkl:(foK (foG l) i r).2.length≤1000:=Nat.le_trans hsuf.length_le hrl
     have hcall:=ih _ hkc hkl;have hlen:(foK (foG l) i r).1.length=i:=foK_len _ _ _
     have hwl:IntKind.i64.wrap ((l:Int)+1)=(l:Int)+1:=wrap_in (by omega) (by omega)
     have hs1:(foK (foG l) (i+1) r).1.map Fo.cells=(foK (foG l) i r).1.map Fo.cells++[((foG l) (foK (foG l) i r).2).1.cells]:=by simp [foK]
     have hs2:(foK (foG l) (i+1) r).2=((foG l) (foK (foG l) i r).2).2:=rfl
     try (simp [hlt,hwl])
     repeat (first|(refine sR ?_; simp [hlt,hwl])|(refine sC ?_; simp [hlt,hwl])|(refine sX ?_; simp only [AU, ↓reduceIte]))
     refine Stop.of_d (hcall _ _) ?_;simp [hwl];try (simp)
     repeat (first|(refine sR ?_; simp)|(refine sC ?_; simp)|(refine sX ?_; simp only [AU, ↓reduceIte]))
     refine ⟨⟨by rw [hlen]; omega,htk.live⟩,?_⟩;try (simp [hw])
     repeat (first|(refine sR ?_; simp [hw])|(refine sC ?_; simp [hw])|(refine sX ?_; simp only [AU, ↓reduceIte]))
     refine sE ?_;exact ⟨⟨i+1,.tok nt1,_,nt1+1⟩,⟨hlt,htk.app⟩,by simp only; omega,Weaks.mk htk.app.le rfl (by simp [ToL,lk,hs2]) (by simp [BoxL,lk,hs1,Fo.cells_eq])⟩
    ·have:i=foC k:=by omega
     subst this;try (simp)
     repeat (first|(refine sR ?_; simp)|(refine sC ?_; simp)|(refine sX ?_; simp only [AU, ↓reduceIte]))
     refine AL.weak (Weaks.mk (l':=[(5,.d (bytes (foK (foG l) (foC k) r).2)),(4,.ptr (nb+4) 0 0)]) (loc':=[(4,[[I k,Sb ⟨#[]⟩,.d (.sl 3 ((foK (foG l) (foC k) r).1.map Fo.cells))]])]) htk.le rfl (by simp [ToL,lk]) (by simp [BoxL,lk])) ?_;refine sT (sG hbox htok htk.old htk.le ?_);simp [packA,hR,Fo.kind,Fo.name,Fo.kids]
theorem made50_c:∀ l:Nat,l≤3→∀ cs,U8s cs→cs.length≤1000→∀ tok nt,DCall Tryz.prog 89 [.d (bytes cs),I ((l:Int)+1)] tok nt (.tup [(foG l cs).1.av,.d (bytes (foG l cs).2)]) tok nt:=by
 intro l;induction l with
 | zero=>exact fun hl cs hc hn tok nt=>made_step 0 hl (fun l' h=>by omega) cs hc hn tok nt
 | succ l ih=>exact fun hl cs hc hn tok nt=>made_step (l+1) hl (fun l' h=>by
  have e:l'=l:=by omega
  rw [e]; exact ih (by omega)) cs hc hn tok nt
theorem madeT50_c (cs:List Int) (hc:U8s cs) (hn:cs.length≤1000) (tok:Tks) (nt:Nat):DCall Tryz.prog 32 [.d (bytes cs)] tok nt (foG 3 cs).1.av tok nt:=by
 intro box nb;have h:=made50_c 3 (Nat.le_refl _) cs hc hn;refine sI Tryz.func32 Tryz.ntmps32 fun hbox htok=>?_
 try (simp)
 repeat (first|(refine sR ?_; simp)|(refine sC ?_; simp)|(refine sX ?_; simp only [AU, ↓reduceIte]))
 refine Stop.of_d (h _ _) ?_;simp;try (simp)
 repeat (first|(refine sR ?_; simp)|(refine sC ?_; simp)|(refine sX ?_; simp only [AU, ↓reduceIte]))
 refine sT (sH hbox htok ?_);simp [packA]
theorem not50_c (f:Fo) (tok:Tks) (nt:Nat):DCall Tryz.prog 34 [f.av] tok nt (foO 2 [f]).av tok nt:=by
 intro box nb;have h:=of50_c 2 [f];have e:fos [f]=.sl 3 [[.raw (.int .i64 f.kind),.raw (.string f.name),fos f.kids]]:=by simp [Fo.cells_eq f]
 rw [e] at h;refine sI Tryz.func34 Tryz.ntmps34 fun hbox htok=>?_
 try (simp)
 repeat (first|(refine sR ?_; simp)|(refine sC ?_; simp)|(refine sX ?_; simp only [AU, ↓reduceIte]))
 refine Stop.data ?_;refine Stop.of_d (h _ _) ?_;simp;try (simp)
 repeat (first|(refine sR ?_; simp)|(refine sC ?_; simp)|(refine sX ?_; simp only [AU, ↓reduceIte]))
 refine sT (sH hbox htok ?_);simp [packA]
theorem FmP.mono {S D S' D':Nat} {f:Fo} (h:FmP S D f) (h1:S≤S') (h2:D≤D'):FmP S' D' f:=⟨h.form,Nat.le_trans h.size h1,Nat.le_trans h.depth h2,h.ats,h.sm⟩
theorem ats1 (k:Int) (hk:k≠1) (f:Fo):(foO k [f]).ats=f.ats:=by simp [Fo.ats,Fo.atsL,hk]
theorem ats2 (k:Int) (hk:k≠1) (f g:Fo):(foO k [f,g]).ats=f.ats++g.ats:=by simp [Fo.ats,Fo.atsL,hk]
theorem du_ok {f:Fo} (h:FmP 15 4 f):∀ p∈duX f,(FmP 40 8 p.1∧FmP 40 8 p.2)∧(∀ s,s∈p.1.ats↔s∈f.ats)∧(∀ s,s∈p.2.ats↔s∈f.ats):=by
 have o1:∀ {S D:Nat} {g:Fo} (k:Int),FmP S D g→k≠1→arB k 1=true→FmP (S+1) (D+1) (foO k [g]):=fun k hg h1 h2=>fmp1 hg h1 h2
 have n2:=o1 2 h (by decide) (by decide);have n5:=o1 5 h (by decide) (by decide);have n6:=o1 6 h (by decide) (by decide);have n10:=o1 10 h (by decide) (by decide);intro p hp;simp only [duX,List.mem_cons,List.not_mem_nil,or_false] at hp;rcases hp with rfl|rfl|rfl|rfl|rfl
 ·refine ⟨⟨(o1 11 h (by decide) (by decide)).mono (by omega) (by omega),(o1 2 (o1 6 n2 (by decide) (by decide)) (by decide) (by decide)).mono (by omega) (by omega)⟩,fun s=>?_,fun s=>?_⟩ <;> simp [ats1,ats2]
 ·refine ⟨⟨(o1 10 h (by decide) (by decide)).mono (by omega) (by omega),(o1 2 (o1 7 n2 (by decide) (by decide)) (by decide) (by decide)).mono (by omega) (by omega)⟩,fun s=>?_,fun s=>?_⟩ <;> simp [ats1,ats2]
 ·refine ⟨⟨(o1 9 h (by decide) (by decide)).mono (by omega) (by omega),(o1 2 (o1 5 n2 (by decide) (by decide)) (by decide) (by decide)).mono (by omega) (by omega)⟩,fun s=>?_,fun s=>?_⟩ <;> simp [ats1,ats2]
 ·refine ⟨⟨(o1 6 h (by decide) (by decide)).mono (by omega) (by omega),(fmp2 h (o1 5 n6 (by decide) (by decide)) (k:=4) (by decide) (by decide)).mono (by omega) (by omega)⟩,fun s=>?_,fun s=>?_⟩ <;> simp [ats1,ats2]
 ·refine ⟨⟨(o1 10 h (by decide) (by decide)).mono (by omega) (by omega),(fmp2 h (o1 9 n10 (by decide) (by decide)) (k:=4) (by decide) (by decide)).mono (by omega) (by omega)⟩,fun s=>?_,fun s=>?_⟩ <;> simp [ats1,ats2]
def mdD (cs:List Int) (ar:List (Int × Int)) (f:Fo):Mdl:=mdlR tyT (spS cs (spN cs)) ((spA (spN cs) ar (min ar.length 30)).map Ar50.pr) f cosT
theorem mdD_g (cs:List Int) (ar:List (Int × Int)) {g:Fo} (h:FmP 40 8 g):MdlG (mdD cs ar g) (spN cs) g∧Conv2 (spN cs) (mdD cs ar g).next (mdD cs ar g).prev:=by
 have hn:=spN_r cs;have hH:(spS cs (spN cs)).length=spN cs:=by simp
 have hA:∀ a∈(spA (spN cs) ar (min ar.length 30)).map Ar50.pr,inR (spS cs (spN cs)).length a.1∧inR (spS cs (spN cs)).length a.2:=by
  intro a ha;obtain ⟨x,hx,rfl⟩:=List.mem_map.1 ha;rw [hH];exact spA_r hn.1 x hx
 have h1:=mdl_ok tyT (spS cs (spN cs)) ((spA (spN cs) ar (min ar.length 30)).map Ar50.pr) g cosT (by omega) (by omega) hA (validF_zero (fmp_valid h (Nat.le_refl _) (Nat.le_refl _)));have h2:=mdl_cv2 tyT (spS cs (spN cs)) ((spA (spN cs) ar (min ar.length 30)).map Ar50.pr) g cosT hA;rw [hH] at h1 h2;exact ⟨h1,h2⟩
theorem holdD (cs:List Int) (ar:List (Int × Int)) {g:Fo} (h:FmP 40 8 g) (tok:Tks) (nt:Nat):DCall Tryz.prog 35 [tyT.av,spV (spS cs (spN cs)) (spA (spN cs) ar (min ar.length 30)),g.av,.d (cosD cosT)] tok nt (.tup [.d (bools (g.holds (mdD cs ar g))),I 0]) tok nt:=by
 obtain ⟨h1,_⟩:=mdD_g cs ar h;have hs:=h.size;exact holds50_c (mdD cs ar g) (spN cs) h1.ok g (by omega) h1.hok _ _ _ _ _ tok nt (given50_c tyT _ _ g cosT (gvhD cs ar h (Nat.le_refl _) (Nat.le_refl _)) tok nt)
theorem mdD_cong {cs:List Int} {ar:List (Int × Int)} {f g:Fo} (h:∀ s,s∈g.ats↔s∈f.ats):mdD cs ar g=mdD cs ar f:=mdlR_cong h
structure DuP (cs:List Int) (ar:List (Int × Int)) (p:Fo × Fo) (V:List Bool):Prop where
 a:∀ tok nt,DCall Tryz.prog 35 [tyT.av,spV (spS cs (spN cs)) (spA (spN cs) ar (min ar.length 30)),p.1.av,.d (cosD cosT)] tok nt (.tup [.d (bools V),I 0]) tok nt
 b:∀ tok nt,DCall Tryz.prog 35 [tyT.av,spV (spS cs (spN cs)) (spA (spN cs) ar (min ar.length 30)),p.2.av,.d (cosD cosT)] tok nt (.tup [.d (bools V),I 0]) tok nt
 len:V.length=spN cs
theorem du_p (cs:List Int) (ar:List (Int × Int)) {f:Fo} (h:FmP 15 4 f):∀ p∈duX f,∃ V,DuP cs ar p V:=by
 intro p hp;obtain ⟨⟨h1,h2⟩,e1,e2⟩:=du_ok h p hp;have hf:=h.mono (show 15≤40 by omega) (show 4≤8 by omega);obtain ⟨g0,c0⟩:=mdD_g cs ar hf;obtain ⟨g1,_⟩:=mdD_g cs ar h1;have m1:=mdD_cong (cs:=cs) (ar:=ar) e1;have m2:=mdD_cong (cs:=cs) (ar:=ar) e2;have hl:=Fo.holds_len g0.ok (f.size+1) f (Nat.lt_succ_self _) g0.hok;have hl1:=Fo.holds_len g1.ok (p.1.size+1) p.1 (Nat.lt_succ_self _) g1.hok;have he:=du_holds g0.ok c0 hl p hp;refine ⟨p.1.holds (mdD cs ar p.1),fun tok nt=>holdD cs ar h1 tok nt,fun tok nt=>?_,hl1⟩;have:=holdD cs ar h2 tok nt
 rw [m2,←he,←m1] at this;exact this
abbrev spR (cs:List Int) (ar:List (Int × Int)):List AV:=[.d (hssD (spS cs (spN cs))),.d (arsD (spA (spN cs) ar (min ar.length 30)))]
abbrev foW (f:Fo):List D:=[.raw (.int .i64 f.kind),.raw (.string f.name),fos f.kids]
abbrev duC (p:Fo × Fo):List D:=[.raw (.int .i64 p.1.kind),.raw (.string p.1.name),fos p.1.kids,.raw (.int .i64 p.2.kind),.raw (.string p.2.name),fos p.2.kids]
def stDu (cs:List Int) (ar:List (Int × Int)) (dl:List (Fo × Fo)) (tok:Tks) (nt nb:Nat) (box:Bxs) (i:Nat):AState :=
 ⟨tl [(79,I i),(78,I 5),(77,.d (.sl 6 (dl.map duC))),(5,.ptr (nb+5) 0 0)],lb nb box [(5,[spR cs ar])],tok,nt⟩
theorem of1 {k:Int} {f g:Fo} (h:foO k [f]=g) (tok:Tks) (nt:Nat):DCall Tryz.prog 33 [I k,.d (.sl 3 [foW f])] tok nt g.av tok nt:=by
 have:=of50_c k [f] tok nt
 have e:fos [f]=.sl 3 [foW f]:=by simp [Fo.cells_eq f]
 rw [e] at this;rw [←h];exact this
theorem of2 {k:Int} {f f' g:Fo} (h:foO k [f,f']=g) (tok:Tks) (nt:Nat):DCall Tryz.prog 33 [I k,.d (.sl 3 [foW f,foW f'])] tok nt g.av tok nt:=by
 have:=of50_c k [f,f'] tok nt
 have e:fos [f,f']=.sl 3 [foW f,foW f']:=by simp [Fo.cells_eq f,Fo.cells_eq f']
 rw [e] at this;rw [←h];exact this
theorem not1 {f g:Fo} (h:foO 2 [f]=g) (tok:Tks) (nt:Nat):DCall Tryz.prog 34 [f.av] tok nt g.av tok nt:=by
 rw [←h];exact not50_c f tok nt
set_option maxRecDepth 100000 in
theorem lawTDual_c (cs:List Int) (hc:U8s cs) (ar:List (Int × Int)) (har:∀ a∈ar,(0≤a.1∧a.1<256)∧0≤a.2∧a.2<256) (co:List Int) (hco:U8s co) (tok:Tks) (nt:Nat) :
  DCall Tryz.prog 7 [.agg [.d (bytes cs),.d (prU ar)],.d (bytes co)] tok nt (B true) tok nt:=by
 intro box nb;have haw:=awake50_c;have hS:=space_c cs hc ar har;refine sI Tryz.func7 Tryz.ntmps7 fun hbox htok=>?_
 have htk0:TK tok nt tok nt []:=TK.start htok
 refine sR ?_;simp;refine sR ?_;simp;refine Stop.of_d (haw _ _) ?_;simp;by_cases h40:40<co.length
 ·have h40':(40:Int)<(co.length:Int):=by omega
  try (simp [h40,h40'])
  repeat (first|(refine sR ?_; simp [h40,h40'])|(refine sC ?_; simp [h40,h40'])|(refine sX ?_; simp only [AU, ↓reduceIte]))
  refine Stop.of_d (haw _ _) ?_;simp;try (simp)
  repeat (first|(refine sR ?_; simp)|(refine sC ?_; simp)|(refine sX ?_; simp only [AU, ↓reduceIte]))
  refine sT (sH hbox htok ?_);simp [packA]
 ·have h40':¬ (40:Int)<(co.length:Int):=by omega
  have hM:=madeT50_c co hco (by omega);have hf:=fmp_made co;generalize (foG 3 co).1=f at *;try (simp [h40,h40'])
  repeat (first|(refine sR ?_; simp [h40,h40'])|(refine sC ?_; simp [h40,h40'])|(refine sX ?_; simp only [AU, ↓reduceIte]))
  refine Stop.of_d (hS _ _) ?_;simp;refine Stop.of_d (hM _ _) ?_;simp;refine AL.weak (Weaks.mk (l':=[(5,.ptr (nb+5) 0 0),(6,.ptr (nb+6) 0 0)]) (loc':=[(6,[f.row]),(5,[spR cs ar])]) (Nat.le_refl _) rfl (by simp [ToL,lk]) (by simp [BoxL,lk])) ?_;have hdu:=du_p cs ar hf;unfold duX at hdu;obtain ⟨n2,k2⟩:∃ g,foO 2 [f]=g:=⟨_,rfl⟩
  obtain ⟨e6,k6⟩:∃ g,foO 6 [f]=g:=⟨_,rfl⟩
  obtain ⟨e10,k10⟩:∃ g,foO 10 [f]=g:=⟨_,rfl⟩
  obtain ⟨p11,k11⟩:∃ g,foO 11 [f]=g:=⟨_,rfl⟩
  obtain ⟨p9,k9⟩:∃ g,foO 9 [f]=g:=⟨_,rfl⟩
  obtain ⟨x1,i1⟩:∃ g,foO 6 [n2]=g:=⟨_,rfl⟩
  obtain ⟨x2,i2⟩:∃ g,foO 7 [n2]=g:=⟨_,rfl⟩
  obtain ⟨x3,i3⟩:∃ g,foO 5 [n2]=g:=⟨_,rfl⟩
  obtain ⟨x4,i4⟩:∃ g,foO 5 [e6]=g:=⟨_,rfl⟩
  obtain ⟨x5,i5⟩:∃ g,foO 9 [e10]=g:=⟨_,rfl⟩
  obtain ⟨y1,j1⟩:∃ g,foO 2 [x1]=g:=⟨_,rfl⟩
  obtain ⟨y2,j2⟩:∃ g,foO 2 [x2]=g:=⟨_,rfl⟩
  obtain ⟨y3,j3⟩:∃ g,foO 2 [x3]=g:=⟨_,rfl⟩
  obtain ⟨y4,j4⟩:∃ g,foO 4 [f,x4]=g:=⟨_,rfl⟩
  obtain ⟨y5,j5⟩:∃ g,foO 4 [f,x5]=g:=⟨_,rfl⟩
  rw [k2,k6,k10,k11,k9,i1,i2,i3,i4,i5,j1,j2,j3,j4,j5] at hdu;refine sN ?_;refine AL.region5 follows_Tryz (Nat.le_refl _) (by kernel_rfl) (Side.of (by simp)) ?_;simp [FarM,FarN,NB,mks,lds,maker];refine Stop.data ?_;refine Stop.of_d (of1 k6 _ _) ?_;simp;refine Stop.data ?_;refine Stop.of_d (of1 k10 _ _) ?_;simp;refine AL.weak (Weaks.mk (l':=[(5,.ptr (nb+5) 0 0),(6,.ptr (nb+6) 0 0),(7,.ptr (nb+7) 0 0),(8,.ptr (nb+8) 0 0)]) (loc':=[(8,[e10.row]),(7,[e6.row]),(6,[f.row]),(5,[spR cs ar])]) (Nat.le_refl _) rfl (by simp [ToL,lk]) (by simp [BoxL,lk])) ?_;refine sN ?_;refine AL.region5 follows_Tryz (Nat.le_refl _) (by kernel_rfl) (Side.of (by simp)) ?_;simp [FarM,FarN,NB,mks,lds,maker];refine Stop.data ?_;refine Stop.of_d (of1 k11 _ _) ?_;simp;refine Stop.of_d (not1 k2 _ _) ?_;simp;refine Stop.data ?_;refine Stop.of_d (of1 i1 _ _) ?_;simp;refine Stop.of_d (not1 j1 _ _) ?_;simp;refine Stop.of_d (not1 k2 _ _) ?_;simp;refine Stop.data ?_;refine Stop.of_d (of1 i2 _ _) ?_;simp;refine Stop.of_d (not1 j2 _ _) ?_;simp;refine Stop.data ?_;refine Stop.of_d (of1 k9 _ _) ?_;simp;refine Stop.of_d (not1 k2 _ _) ?_;simp;refine Stop.data ?_;refine Stop.of_d (of1 i3 _ _) ?_;simp;refine Stop.of_d (not1 j3 _ _) ?_;simp;refine Stop.data ?_;refine Stop.of_d (of1 i4 _ _) ?_;simp;refine ⟨rfl,?_⟩;refine Stop.data ?_;refine Stop.of_d (of2 j4 _ _) ?_;simp;refine Stop.data ?_;refine Stop.of_d (of1 i5 _ _) ?_;simp;refine ⟨rfl,?_⟩;refine Stop.data ?_;refine Stop.of_d (of2 j5 _ _) ?_;simp;refine ⟨rfl,?_⟩;obtain ⟨dl,hdl⟩:∃ l,[(p11,y1),(e10,y2),(p9,y3),(e6,y4),(e10,y5)]=l:=⟨_,rfl⟩
  have hrows:[duC (p11,y1),duC (e10,y2),duC (p9,y3),duC (e6,y4),duC (e10,y5)]=dl.map duC:=by rw [←hdl]; rfl
  have hdn:dl.length=5:=by rw [←hdl]; rfl
  rw [hdl] at hdu;simp only [duC] at hrows;rw [hrows];clear hrows hdl j1 j2 j3 j4 j5 i1 i2 i3 i4 i5 k2 k6 k10 k11 k9;refine AL.weak (Weaks.mk (l':=[(79,I (0:Nat)),(78,I 5),(77,.d (.sl 6 (dl.map duC))),(5,.ptr (nb+5) 0 0)]) (loc':=[(5,[spR cs ar])]) (Nat.le_refl _) rfl (by simp [ToL,lk]) (by simp [BoxL,lk])) ?_;refine sN ?_;refine AL.loopT (stDu cs ar dl tok nt nb box) (fun i=>i≤5) (fun i=>5 - i) 0 (Nat.zero_le _) wkA ?_;rintro i S hi hS;simp only [stDu] at hS;subst hS;have hw:=sW (i:=i) (by omega);by_cases hlt:i<5
  ·have hil:i<dl.length:=by omega
   have hlt':(i:Int)<5:=by omega
   obtain ⟨V,hV⟩:=hdu _ (List.getElem_mem hil);obtain ⟨p,hp⟩:∃ p,dl[i]=p:=⟨_,rfl⟩
   rw [hp] at hV;have hg:(dl.map duC)[i]?=some (duC p):=by simp [hil,hp]
   obtain ⟨hVa,hVb,hVn⟩:=hV;have hn:=spN_r cs;have hVe:=equalB_c V V (by omega) (by omega);try (simp [hlt',hg,hil,hdn,hlt,hp])
   repeat (first|(refine sR ?_; simp [hlt',hg,hil,hdn,hlt,hp])|(refine sC ?_; simp [hlt',hg,hil,hdn,hlt,hp])|(refine sX ?_; simp only [AU, ↓reduceIte]))
   have hne:((V.length:Int) != (spN cs:Int))=false:=by simp [hVn]
   refine Stop.of_d (types50_c _ _) ?_;simp;refine Stop.of_d (constraints50_c _ _) ?_;simp;refine Stop.of_d (hVa _ _) ?_;simp;try (simp)
   repeat (first|(refine sR ?_; simp)|(refine sC ?_; simp)|(refine sX ?_; simp only [AU, ↓reduceIte]))
   refine Stop.of_d (types50_c _ _) ?_;simp;refine Stop.of_d (constraints50_c _ _) ?_;simp;refine Stop.of_d (hVb _ _) ?_;simp;try (simp [hne])
   repeat (first|(refine sR ?_; simp [hne])|(refine sC ?_; simp [hne])|(refine sX ?_; simp only [AU, ↓reduceIte]))
   refine Stop.of_d (hVe _ _) ?_;simp;try (simp [hw])
   repeat (first|(refine sR ?_; simp [hw])|(refine sC ?_; simp [hw])|(refine sX ?_; simp only [AU, ↓reduceIte]))
   refine sE ?_;exact ⟨i+1,hlt,by omega,wkA⟩
  ·have:i=5:=by omega
   subst this;try (simp)
   repeat (first|(refine sR ?_; simp)|(refine sC ?_; simp)|(refine sX ?_; simp only [AU, ↓reduceIte]))
   refine sT (sH hbox htok ?_);simp [packA]
open Go Go.ChangeShapes
variable {P:Program}
def Rd (w:World) (cs:List Value) (ds:List D):Prop:=cs.length=ds.length∧∀ i (h1:i<cs.length) (h2:i<ds.length),RVd w.cell? (fun _=>True) ds[i] cs[i]
theorem Rd.append {w:World} {cs cs':List Value} {ds ds':List D} (h:Rd w cs ds) (k:Rd w cs' ds'):Rd w (cs++cs') (ds++ds'):=by
 refine ⟨by simp [h.1,k.1],fun i h1 h2=>?_⟩;by_cases hi:i<cs.length
 ·rw [List.getElem_append_left hi,List.getElem_append_left (by rw [←h.1]; exact hi)];exact h.2 i hi _
 ·have hl:=h.1;rw [List.getElem_append_right (by omega),List.getElem_append_right (by omega)];have:=k.2 (i - cs.length) (by simp at h1; omega) (by have:=k.1; simp at h1; omega)
  simpa [hl] using this
theorem Rd.one {w:World} {c:Value} {d:D} (h:RVd w.cell? (fun _=>True) d c):Rd w [c] [d]:=⟨rfl,fun i h1 h2=>by
 have:i=0:=by simpa using h1
 subst this;exact h⟩
def Light {H:Type} (P:Program) (T:TypeId) (d:DataW H):Prop:=(d.weights P T).all (· ≤ reachBytes)=true
structure Rdr (P:Program) (T:TypeId) (α:Type) where
 enc:α→List D
 ok:α→Prop
 len:∀ x,(enc x).length=P.cellsOf T
 sound:∀ {H:Type} (e:TypeId × Value→H) (w:World) (base:Nat) (spare:Nat→Bool) (held:Bool) (fuel:Nat) (cs:List Value) (x:DataW H × List MemPlace),
  DataW.trod e P w base spare held fuel T cs=some x→∃ y,Rd w cs (enc y)∧(Light P T x.1→ok y)
def Rdr.int {T:TypeId} {k:IntKind} (h:P.underlying T=some (.int k)) (hc:P.cellsOf T=1):Rdr P T Int where
 enc n:=[.raw (.int k n)]
 ok n:=(Lit.int k n).wf=true
 len _:=by simp [hc]
 sound e w base spare held fuel cs x hx:=by
  cases fuel with
  | zero=>simp [DataW.trod] at hx
  | succ n =>
   unfold DataW.trod at hx;rw [h] at hx;split at hx <;> simp_all
   rename_i k' n' _;exact ⟨n',Rd.one (.raw rfl),fun _=>hx.1.2⟩
theorem cells_spec {w:World} {base:Nat} {a:Addr} {n:Nat} {l:List Value} (h:w.cells? base a n=some l):l.length=n∧∀ i (hi:i<l.length),w.cell? (a.add i)=some l[i]:=by
 unfold World.cells? at h;split at h
 ·have h1:l.length=n:=by have:=mapM_some_length h; simpa using this
  refine ⟨h1,fun i hi=>?_⟩;have hin:i<n:=by omega
  have:=mapM_some_get h i i (by simp [hin])
  rw [this];exact List.getElem?_eq_getElem hi
 ·cases h
theorem light_slice {H:Type} {T E:TypeId} (h:P.underlying T=some (.slice E)) {elems rest:List (DataW H)} (hl:Light P T (.slice elems rest)):elems.length * P.bytesOf E≤reachBytes∧∀ d∈elems,Light P E d:=by
 unfold Light at hl ⊢;simp only [DataW.weights,h,List.all_cons,List.all_append,Bool.and_eq_true,decide_eq_true_eq] at hl;refine ⟨Nat.le_trans (Nat.mul_le_mul_right _ (Nat.le_add_right _ _)) hl.1,?_⟩;have key:∀ l:List (DataW H),(DataW.weightsAll P E l).all (· ≤ reachBytes)=true→∀ d∈l,(d.weights P E).all (· ≤ reachBytes)=true:=by
  intro l;induction l with
  | nil=>intro _ d hd; simp at hd
  | cons x l ih =>
   intro hx d hd;simp only [DataW.weightsAll,List.all_append,Bool.and_eq_true] at hx;rcases List.mem_cons.1 hd with rfl|hd
   ·exact hx.1
   ·exact ih hx.2 d hd
 exact key elems hl.2.1
def Rdr.slice {T E:TypeId} {α:Type} (r:Rdr P E α) (h:P.underlying T=some (.slice E)) (hc:P.cellsOf T=1):Rdr P T (List α) where
 enc l:=[.sl (P.cellsOf E) (l.map r.enc)]
 ok l:=(∀ x∈l,r.ok x)∧l.length * P.bytesOf E≤reachBytes
 len _:=by simp [hc]
 sound e w base spare held fuel cs x hx:=by
  rcases DataW.trod_slice h hx with ⟨rfl,rfl⟩|⟨a,len,cap,elems,rest,n,rfl,rfl,rfl,hb,hl,hm,hel,hat,_⟩
  ·exact ⟨[],Rd.one (.sl (es:=[]) (fun _ _=>default) (Nat.le_refl _) (by decide) (by simp) (by simp) (by simp) (by simp)),fun _=>⟨by simp,by simp⟩⟩
  ·have key:∀ i (hi:i<elems.length),∃ cs y,cs.length=P.cellsOf E∧(∀ j (hj:j<cs.length),w.cell? (a.add (i * P.cellsOf E+j))=some cs[j])∧Rd w cs (r.enc y)∧(Light P E elems[i].1→r.ok y):=by
    intro i hi;have h1:=hat i (by omega);have h2:elems[i]?=some elems[i]:=List.getElem?_eq_getElem hi
    rw [h2,Option.bind_eq_some_iff] at h1;obtain ⟨cs,hcs,htr⟩:=h1;obtain ⟨hcl,hcc⟩:=cells_spec hcs;obtain ⟨y,hy,hok⟩:=r.sound e w base spare held n cs _ htr;refine ⟨cs,y,hcl,fun j hj=>?_,hy,hok⟩;rw [←Addr.add_add];exact hcc j hj
   have pick:∀ m,m≤elems.length→∃ ys:List α,ys.length=m∧(∀ i (hi:i<ys.length) (hi2:i<elems.length),∃ cs,cs.length=P.cellsOf E∧(∀ j (hj:j<cs.length),w.cell? (a.add (i * P.cellsOf E+j))=some cs[j])∧Rd w cs (r.enc ys[i])∧(Light P E elems[i].1→r.ok ys[i])):=by
    intro m;induction m with
    | zero=>intro _; exact ⟨[],rfl,fun i hi=>by simp at hi⟩
    | succ m ih =>
     intro hm';obtain ⟨ys,hys,hall⟩:=ih (by omega);obtain ⟨cs,y,g1,g2,g3,g4⟩:=key m (by omega);refine ⟨ys++[y],by simp [hys],fun i hi hi2=>?_⟩;by_cases him:i<ys.length
     ·rw [List.getElem_append_left him];exact hall i him hi2
     ·have:i=m:=by simp at hi; omega
      subst this;have e1:(ys++[y])[i]=y:=by
       rw [List.getElem_append_right (by omega)];simp
      rw [e1];exact ⟨cs,g1,g2,g3,g4⟩
   obtain ⟨ys,hys,hall⟩:=pick elems.length (Nat.le_refl _);refine ⟨ys,Rd.one ?_,fun hli=>?_⟩
   ·have hlen:len=ys.length:=by omega
    subst hlen;have hml:ys.length=(ys.map r.enc).length:=by simp
    rw [hml];refine .sl (fun i j=>(w.cell? (a.add (i * P.cellsOf E+j))).getD default) (by simpa using hl) hm (fun e he=>?_) (fun _=>⟨a,rfl⟩) (fun a' ha' i j hi hj=>?_) (fun i j hi hj=>?_)
    ·obtain ⟨y,_,rfl⟩:=List.mem_map.1 he;exact r.len y
    ·cases ha'
     obtain ⟨cs,g1,g2,_⟩:=hall i (by simpa using hi) (by simp at hi; omega);rw [g2 j (by omega)];exact ⟨trivial,rfl⟩
    ·obtain ⟨cs,g1,g2,g3,_⟩:=hall i (by simpa using hi) (by simp at hi; omega);simp only [List.getElem_map] at hj ⊢;have hjc:j<cs.length:=by rw [g3.1]; exact hj
     rw [g2 j hjc];exact g3.2 j hjc hj
   ·obtain ⟨w1,w2⟩:=light_slice h hli;refine ⟨fun y hy=>?_,by simpa [hys] using w1⟩;obtain ⟨i,hi,rfl⟩:=List.getElem_of_mem hy;obtain ⟨_,_,_,_,h4⟩:=hall i hi (by omega);exact h4 (w2 _ (List.mem_map.2 ⟨_,List.getElem_mem _,rfl⟩))
def Rdr.map {T:TypeId} {α β:Type} (r:Rdr P T α) (f:α→β) (enc:β→List D) (ok:β→Prop) (he:∀ x,enc (f x)=r.enc x) (hok:∀ x,r.ok x→ok (f x)) (hl:∀ y,(enc y).length=P.cellsOf T):Rdr P T β where
 enc:=enc
 ok:=ok
 len:=hl
 sound e w base spare held fuel cs x hx:=by
  obtain ⟨y,h1,h2⟩:=r.sound e w base spare held fuel cs x hx;exact ⟨f y,by rw [he]; exact h1,fun hl=>hok y (h2 hl)⟩
def Rdr.sliceN {T E:TypeId} {α:Type} (r:Rdr P E α) (n:Nat) (h:P.underlying T=some (.slice E)) (hc:P.cellsOf T=1) (hn:P.cellsOf E=n):Rdr P T (List α) where
 enc l:=[.sl n (l.map r.enc)]
 ok l:=(∀ x∈l,r.ok x)∧l.length * P.bytesOf E≤reachBytes
 len _:=by simp [hc]
 sound:=by
  subst hn;exact (Rdr.slice r h hc).sound
theorem list2 {α:Type} {l:List α} (h:l.length=2):l=[l[0]'(by omega),l[1]'(by omega)]:=by
 match l,h with
 | [p,q],_=>rfl
def Rdr.struct2 {T A B:TypeId} {α β:Type} (r:Rdr P A α) (s:Rdr P B β) {f0 f1:Field} (h:P.underlying T=some (.struct #[f0,f1])) (hA:f0.type=A) (hB:f1.type=B) (h0:f0.offset=0) (h1:f1.offset=P.cellsOf A)
  (hc:P.cellsOf T=P.cellsOf A+P.cellsOf B):Rdr P T (α × β) where
 enc x:=r.enc x.1++s.enc x.2
 ok x:=r.ok x.1∧s.ok x.2
 len x:=by simp [r.len,s.len,hc]
 sound e w base spare held fuel cs x hx:=by
  obtain ⟨xs,n,rfl,rfl,hl,hxs,hat⟩:=DataW.trod_struct h hx;have hxs':xs.length=2:=hxs
  have g0:=hat 0 f0 rfl;have g1:=hat 1 f1 rfl;have e0:xs[0]?=some (xs[0]'(by omega)):=List.getElem?_eq_getElem (by omega)
  have e1:xs[1]?=some (xs[1]'(by omega)):=List.getElem?_eq_getElem (by omega)
  rw [e0,h0,hA] at g0;rw [e1,h1,hB] at g1;obtain ⟨y,k1,k2⟩:=r.sound e w base spare held n _ _ g0;obtain ⟨z,m1,m2⟩:=s.sound e w base spare held n _ _ g1;refine ⟨(y,z),?_,fun hli=>?_⟩
  rotate_left
  ·unfold Light at hli k2 m2;have e2:xs=[xs[0]'(by omega),xs[1]'(by omega)]:=list2 hxs'
   rw [e2] at hli;simp only [List.map_cons,List.map_nil,DataW.weights,h,DataW.weightsEach,hA,hB,List.all_append,Bool.and_eq_true] at hli;exact ⟨k2 hli.1,m2 hli.2.1⟩
  have hcs:cs=(cs.drop 0).take (P.cellsOf A)++(cs.drop (P.cellsOf A)).take (P.cellsOf B):=by
   have:(cs.drop (P.cellsOf A)).take (P.cellsOf B)=cs.drop (P.cellsOf A):=List.take_of_length_le (by simp; omega)
   rw [this,List.drop_zero,List.take_append_drop]
  rw [hcs];exact k1.append m1
def G0:Gh:=⟨fun _=>none,fun _=>none,fun _=>.whole,0⟩
def m0:AMem:=⟨fun _=>none,0,fun _=>false,0⟩
theorem G0_ps (a:Addr):G0.ps a:=trivial
theorem relM_start (W:World) (hg:GlobOk G0 W:=by intro g cs h; simp [globD] at h):RelM G0 m0 W:=by
 constructor
 case glob=>exact hg
 case box=>intro k rows b sz h; cases h
 case nobox=>intro k _; rfl
 case inj=>intro k k' b sz sz' h; cases h
 case nb=>intro k _; rfl
 case nt=>rfl
 case toks=>intro t h; cases h
 case tokb=>intro t g h; cases h
 case tinj=>intro t t' g h; cases h
 case tnt=>intro t x h; cases h
 case fresh=>intro b _; rfl
theorem RVd.start {W:World} {d:D} {v:Value} (h:RVd W.cell? (fun _=>True) d v):RVd W.cell? G0.ps d v:=h.mono fun a u _ hc=>⟨G0_ps a,hc⟩
theorem Rdr.agg {T:TypeId} {α:Type} (r:Rdr P T α) {W:World} {base base':Nat} {sp:Nat→Bool} {held:Bool} {H:Type} {enc:TypeId × Value→H} {v:Value} {d:DataW H} {p:List MemPlace}
  (hs:aggT P T=some true) (hv:Value.okWide P W .any base T v) (h:DataW.Trod enc P W base' sp held T v d p) (hli:Light P T d):∃ y,r.ok y∧RV G0 W (.agg ((r.enc y).map .d)) v:=by
 have hcs:∃ cs,v=.agg cs:=by
  unfold aggT at hs;unfold Value.okWide at hv;cases hu:P.underlying T with
  | none=>rw [hu] at hs; simp at hs
  | some u =>
   rw [hu] at hs hv;cases u <;> simp at hs hv <;> exact ⟨_,hv.choose_spec.1⟩
 obtain ⟨cs,rfl⟩:=hcs;obtain ⟨fuel,h⟩:=h;obtain ⟨y,⟨h1,h2⟩,hok⟩:=r.sound enc W base' sp held fuel _ _ h;refine ⟨y,hok hli,?_⟩;simp only [Value.cells] at h1 h2;have:=RV.agg (G:=G0) (w:=W) (cs:=(r.enc y).map .d) (vs:=cs.toList) (by simp [h1]) (fun i g1 g2=>by
  simp only [List.getElem_map];exact .d (h2 i g2 (by simpa using g1)).start) (fun v hv=>by
  obtain ⟨i,hi,rfl⟩:=List.getElem_of_mem hv;exact (h2 i hi (by omega)).one)
 simpa using this
theorem Rdr.cell {T:TypeId} {α:Type} (r:Rdr P T α) {W:World} {base base':Nat} {sp:Nat→Bool} {held:Bool} {H:Type} {enc:TypeId × Value→H} {v:Value} {d:DataW H} {p:List MemPlace} (f:α→D)
  (hs:aggT P T=some false) (hf:∀ y,r.enc y=[f y]) (hv:Value.okWide P W .any base T v) (h:DataW.Trod enc P W base' sp held T v d p) (hli:Light P T d):∃ y,r.ok y∧RV G0 W (.d (f y)) v:=by
 obtain ⟨fuel,h⟩:=h;obtain ⟨y,⟨h1,h2⟩,hok⟩:=r.sound enc W base' sp held fuel _ _ h;refine ⟨y,hok hli,?_⟩;rw [hf] at h1;have hcs:v.cells.toList=[v]:=by
  cases v with
  | agg cs =>
   exfalso
   unfold aggT at hs;unfold Value.okWide Cell.okWide Cell.ok at hv;cases hu:P.underlying T with
   | none=>rw [hu] at hs; simp at hs
   | some u =>
    rw [hu] at hs hv;cases u <;> simp_all
  | _=>rfl
 have:=h2 0 (by rw [h1]; simp) (by rw [hf]; simp)
 simp only [hf,List.getElem_cons_zero] at this;have e:v.cells.toList[0]'(by rw [h1]; simp)=v:=by simp [hcs]
 rw [e] at this;exact .d this.start
theorem light_arg {H:Type} {ts:List TypeId} {ds:List (DataW H)} (hz:(DataW.weightsEach P ts ds).all (· ≤ reachBytes)=true) {j:Nat} {T:TypeId} {d:DataW H} (ht:ts[j]?=some T) (hd:ds[j]?=some d):Light P T d :=
 List.all_eq_true.2 fun x hx=>List.all_eq_true.1 hz x (DataW.weights_mem_each ht hd x hx)
theorem arg_agg {ps:Array TypeId} {args:Array Value} {W:World} {base base':Nat} {sp:Nat→Bool} {held:Bool} {H:Type} {enc:TypeId × Value→H} (hval:∀ (j:Nat) t v,ps[j]?=some t→args[j]?=some v→Value.okWide P W .any base t v)
  (j:Nat) (T:TypeId) (v:Value) (hp:ps[j]?=some T) (ha:args[j]?=some v) {α:Type} (r:Rdr P T α) {d:DataW H} {p:List MemPlace} (hs:aggT P T=some true) (h:DataW.Trod enc P W base' sp held T v d p) (hli:Light P T d) :
  ∃ y,r.ok y∧RV G0 W (.agg ((r.enc y).map .d)) v:=r.agg hs (hval j T v hp ha) h hli
theorem arg_cell {ps:Array TypeId} {args:Array Value} {W:World} {base base':Nat} {sp:Nat→Bool} {held:Bool} {H:Type} {enc:TypeId × Value→H} (hval:∀ (j:Nat) t v,ps[j]?=some t→args[j]?=some v→Value.okWide P W .any base t v)
  (j:Nat) (T:TypeId) (v:Value) (hp:ps[j]?=some T) (ha:args[j]?=some v) {α:Type} (r:Rdr P T α) (f:α→D) {d:DataW H} {p:List MemPlace} (hs:aggT P T=some false) (hf:∀ y,r.enc y=[f y]) (h:DataW.Trod enc P W base' sp held T v d p) (hli:Light P T d) :
  ∃ y,r.ok y∧RV G0 W (.d (f y)) v:=r.cell f hs hf (hval j T v hp ha) h hli
theorem le_old {W W':World} {G':Gh} (h:Le G0 W G' W') (b:Nat) (hb:b<W.heap.size):W'.heap[b]?=W.heap[b]?:=(h.whole b hb rfl).2
theorem le_kept {W W':World} {G':Gh} (h:Le G0 W G' W') (may:MemPlace→Prop):W.keptBut W' may:=by
 refine ⟨h.os,h.output,fun i hi=>?_⟩;rw [le_old h i hi];split
 ·rename_i c t fr c' t' fr' e1 e2;rw [e1] at e2;cases e2;exact ⟨rfl,rfl,rfl,fun _ _=>rfl⟩
 ·rename_i e1 e2;rw [e1] at e2;cases e2;exact .inr ⟨rfl,rfl⟩
 ·rfl
theorem le_same {W W':World} {G':Gh} (h:Le G0 W G' W') {p:MemPlace} (hp:p.block<W.heap.size):W.sameAt W' p:=by
 cases p with
 | cell b off=>exact World.cell?_of_block (w:=W) (a:=⟨b,off,none⟩) (le_old h b hp)
 | map b=>exact le_old h b hp
theorem trodAll_stays {H:Type} {enc:TypeId × Value→H} {W W':World} {T:TypeId→Prop} {sp':Nat→Bool} (K:Kids P T) (hsz:∀ {t e:TypeId},T t→P.underlying t=some (.slice e)→0<P.cellsOf e) :
  ∀ {ts:List TypeId} {vs:List Value} {ds:List (DataW H)} {ps:List MemPlace},(∀ t∈ts,T t)→DataW.TrodAll enc P W 0 (fun _=>true) true ts vs ds ps→(∀ p∈ps,W.sameAt W' p)→(∀ p∈ps,sp' p.block=true) →
  DataW.TrodAll enc P W' 0 sp' true ts vs ds ps
 | [],[],[],_,_,h,_,_=>h
 | t::ts,v::vs,d::ds,_,hT,⟨p,q,⟨n,hn⟩,h2,e⟩,h3,h4=>by
  subst e;exact ⟨p,q,⟨n,DataW.trod_stays K hsz (fun h=>by cases h) (hT t (by simp)) hn (fun x hx=>h3 x (by simp [hx])) (fun x hx=>h4 x (by simp [hx]))⟩,
   trodAll_stays K hsz (fun t ht=>hT t (by simp [ht])) h2 (fun x hx=>h3 x (by simp [hx])) (fun x hx=>h4 x (by simp [hx])),rfl⟩
theorem law_of {f:FuncId} {fn:Func} {s:ChangeSpec} {H:Type} {enc:TypeId × Value→H} {W:World} {args:Array Value} {ds:List (DataW H)} {before:List MemPlace} {avs:List AV} {tok':Nat→Bool} {nt':Nat}
  (hl:laidOutB P=true) (hm:mapsRowed P=true) (hz:((List.range P.types.size).all fun t=>match P.underlying t with|some (.slice e)=>decide (0<P.cellsOf e)|_=>true)=true)
  (hpar:fn.params.all (· < P.types.size)=true) {tb:TypeId} (hres:fn.resultTypes = #[tb]) (hb:P.underlying tb=some .bool)
  (hvars:s.vars=[]) (hfn:s.fn H ds={ results:=[.lit (.bool true)],args:=ds })
  (hW:DataW.Whole enc P fn.params.toList s.vars false W args.toList ds [] before) (hr:RVs G0 W avs args.toList) (hc:DCall P f avs (fun _=>false) 0 (B true) tok' nt') (hgl:GlobOk G0 W:=by intro g cs h; simp [globD] at h) :
  Calls P f args W fun e W'=>∃ v,e=.returned v∧s.post enc P fn false true false false W args v W':=by
 have hcall:=(hc (fun _=>none) 0).2 G0 W args.toList (relM_start W hgl) hr;simp only [Array.toArray_toList] at hcall;refine hcall.mono ?_;rintro e W' ⟨v,av,m',G',rfl,⟨rfl,rfl⟩,_,_,hv,hle,_⟩;cases hv with
 | d hv =>
  cases hv with
  | raw =>
   refine ⟨_,rfl,?_⟩;have hlt:=hW.lt;have hWW:=hW;obtain ⟨p,q,hA,hV,rfl,hfz,hnd⟩:=hW;rw [hvars] at hV;obtain ⟨_,rfl⟩:=trodVars_none hV;simp only [List.append_nil] at hlt hfz hWW ⊢;have hT:∀ t∈fn.params.toList,t<P.types.size:=fun t ht=>by
    have:=Array.all_eq_true_iff_forall_mem.1 hpar t (by simpa using ht)
    simpa using this
   have hsz:∀ {t e:TypeId},t<P.types.size→P.underlying t=some (.slice e)→0<P.cellsOf e:=by
    intro t e ht hu;have:=List.all_eq_true.1 hz t (List.mem_range.2 ht)
    rw [hu] at this;simpa using this
   have hargs:∀ sp:Nat→Bool,(∀ x∈p,sp x.block=true)→DataW.TrodAll enc P W' 0 sp true fn.params.toList args.toList ds p:=fun sp hsp =>
    trodAll_stays (kids_rows hl hm) hsz hT hA (fun x hx=>le_same hle (hlt x hx)) hsp
   have hnat:(Value.bool true).resultList fn.resultTypes.size=[.bool true]:=by rw [hres]; rfl
   have hresb:∀ (b:Nat) (sp:Nat→Bool) (hd:Bool),DataW.TrodAll enc P W' b sp hd fn.resultTypes.toList ((Value.bool true).resultList fn.resultTypes.size) [.lit (.bool true)] []:=fun b sp hd=>by
    rw [hnat,hres];exact trodAll_mk1 ⟨1,by simp [DataW.trod,hb,Value.cells]⟩
   have hfn':s.fn H (ds++[])={ results:=[.lit (.bool true)],args:=ds }:=by rw [List.append_nil]; exact hfn
   refine ⟨ds,[],p,[],p,[],hWW,?_,?_,?_,World.keptBut_mono (fun _ f=>f.elim) (le_kept hle fun _=>False),fun h=>by cases h⟩
   ·rw [hfn']; exact hresb _ _ _
   ·rw [hfn']; exact hargs _ fun x hx=>by simpa using hlt x hx
   ·rw [hfn',hvars]; exact rfl
theorem own0:ownKnob Tryz.prog.godebug=none:=by kernel_rfl
theorem laidOut0:laidOutB Tryz.prog=true:=by kernel_rfl
theorem mapsRowed0:mapsRowed Tryz.prog=true:=by kernel_rfl
theorem slices0:((List.range Tryz.prog.types.size).all fun t=>match Tryz.prog.underlying t with|some (.slice e)=>decide (0<Tryz.prog.cellsOf e)|_=>true)=true:=by kernel_rfl
structure RdF (P:Program) (T:TypeId) {α:Type} (en:α→List D) (ok:α→Prop) (n:Nat):Prop where
 sound:∀ {H:Type} (e:TypeId × Value→H) (w:World) (base:Nat) (spare:Nat→Bool) (held:Bool) (cs:List Value) (x:DataW H × List MemPlace),
  DataW.trod e P w base spare held n T cs=some x→∃ y,Rd w cs (en y)∧(Light P T x.1→ok y)
theorem Rdr.f {P:Program} {T:TypeId} {α:Type} (r:Rdr P T α) (n:Nat):RdF P T r.enc r.ok n:=⟨fun e w base spare held cs x hx=>r.sound e w base spare held n cs x hx⟩
theorem RdF.zero {P:Program} {T:TypeId} {α:Type} {en:α→List D} {ok:α→Prop}:RdF P T en ok 0:=⟨fun e w base spare held cs x hx=>by simp [DataW.trod] at hx⟩
theorem RdF.slice {P:Program} {T E:TypeId} {α:Type} {en:α→List D} {ok:α→Prop} {n:Nat} (r:RdF P E en ok n) (k:Nat) (hk:P.cellsOf E=k) (hlen:∀ x,(en x).length=k) (h:P.underlying T=some (.slice E)) :
  RdF P T (fun l:List α=>[.sl k (l.map en)]) (fun l=>(∀ x∈l,ok x)∧l.length * P.bytesOf E≤reachBytes) (n+1):=by
 subst hk;constructor
 intro H e w base spare held cs x hx;rcases DataW.trod_slice h hx with ⟨rfl,rfl⟩|⟨a,len,cap,elems,rest,n',hn',rfl,rfl,hb,hl,hm,hel,hat,_⟩
 ·exact ⟨[],Rd.one (.sl (es:=[]) (fun _ _=>default) (Nat.le_refl _) (by decide) (by simp) (by simp) (by simp) (by simp)),fun _=>⟨by simp,by simp⟩⟩
 ·obtain rfl:n'=n:=by omega
  have key:∀ i (hi:i<elems.length),∃ cs y,cs.length=P.cellsOf E∧(∀ j (hj:j<cs.length),w.cell? (a.add (i * P.cellsOf E+j))=some cs[j])∧Rd w cs (en y)∧(Light P E elems[i].1→ok y):=by
   intro i hi;have h1:=hat i (by omega);have h2:elems[i]?=some elems[i]:=List.getElem?_eq_getElem hi
   rw [h2,Option.bind_eq_some_iff] at h1;obtain ⟨cs,hcs,htr⟩:=h1;obtain ⟨hcl,hcc⟩:=cells_spec hcs;obtain ⟨y,hy,hok⟩:=r.sound e w base spare held cs _ htr;refine ⟨cs,y,hcl,fun j hj=>?_,hy,hok⟩;rw [←Addr.add_add];exact hcc j hj
  have pick:∀ m,m≤elems.length→∃ ys:List α,ys.length=m∧(∀ i (hi:i<ys.length) (hi2:i<elems.length),∃ cs,cs.length=P.cellsOf E∧(∀ j (hj:j<cs.length),w.cell? (a.add (i * P.cellsOf E+j))=some cs[j])∧Rd w cs (en ys[i])∧(Light P E elems[i].1→ok ys[i])):=by
   intro m;induction m with
   | zero=>intro _; exact ⟨[],rfl,fun i hi=>by simp at hi⟩
   | succ m ih =>
    intro hm';obtain ⟨ys,hys,hall⟩:=ih (by omega);obtain ⟨cs,y,g1,g2,g3,g4⟩:=key m (by omega);refine ⟨ys++[y],by simp [hys],fun i hi hi2=>?_⟩;by_cases him:i<ys.length
    ·rw [List.getElem_append_left him];exact hall i him hi2
    ·have:i=m:=by simp at hi; omega
     subst this;have e1:(ys++[y])[i]=y:=by
      rw [List.getElem_append_right (by omega)];simp
     rw [e1];exact ⟨cs,g1,g2,g3,g4⟩
  obtain ⟨ys,hys,hall⟩:=pick elems.length (Nat.le_refl _);refine ⟨ys,Rd.one ?_,fun hli=>?_⟩
  ·have hlen':len=ys.length:=by omega
   subst hlen';have hml:ys.length=(ys.map en).length:=by simp
   rw [hml];refine .sl (fun i j=>(w.cell? (a.add (i * P.cellsOf E+j))).getD default) (by simpa using hl) hm (fun e he=>?_) (fun _=>⟨a,rfl⟩) (fun a' ha' i j hi hj=>?_) (fun i j hi hj=>?_)
   ·obtain ⟨y,_,rfl⟩:=List.mem_map.1 he;exact hlen y
   ·cases ha'
    obtain ⟨cs,g1,g2,_⟩:=hall i (by simpa using hi) (by simp at hi; omega);rw [g2 j (by omega)];exact ⟨trivial,rfl⟩
   ·obtain ⟨cs,g1,g2,g3,_⟩:=hall i (by simpa using hi) (by simp at hi; omega);simp only [List.getElem_map] at hj ⊢;have hjc:j<cs.length:=by rw [g3.1]; exact hj
    rw [g2 j hjc];exact g3.2 j hjc hj
  ·obtain ⟨w1,w2⟩:=light_slice h hli;refine ⟨fun y hy=>?_,by simpa [hys] using w1⟩;obtain ⟨i,hi,rfl⟩:=List.getElem_of_mem hy;obtain ⟨_,_,_,_,h4⟩:=hall i hi (by omega);exact h4 (w2 _ (List.mem_map.2 ⟨_,List.getElem_mem _,rfl⟩))
structure Gr.Big (g:Gr):Prop where
 n:g.nodes.length≤bigN
 e:g.edges.length≤bigN
def Cd.rowD (c:Cd):List D:=[.raw (.int .i64 c.kind),conds c.kids,ints c.m.nodes,ints c.m.edges,ints c.g.nodes,AM.edges c.g.edges,slots c.sl,.raw (.int .i64 c.vars),tests c.te]
def rdB:Rdr Tryz.prog 5 Int:=Rdr.int (k:=.u8) Tryz.underlying5 (by kernel_rfl)
theorem rdB_ok {n:Int} (h:(Lit.int .u8 n).wf=true):0≤n∧n<256:=by
 simp [Lit.wf,IntKind.min,IntKind.max,IntKind.signed,IntKind.bits] at h;omega
def rdBs:Rdr Tryz.prog 66 (List Int):=rdB.sliceN 1 Tryz.underlying66 (by kernel_rfl) (by kernel_rfl)
theorem rdBs_ok {l:List Int} (h:rdBs.ok l):U8s l:=fun c hc=>rdB_ok (h.1 c hc)
abbrev Ch.cells (x:Ch):List D:=[.sl 1 (x.a.nodes.map fun n=>[u8 n]),.sl 3 (x.a.edges.map fun e=>[u8 e.1,u8 e.2.1,u8 e.2.2]),bytes x.b,bytes x.g,bytes x.c]
def Rdr.str {P:Program} {T:TypeId} (h:P.underlying T=some .string) (hc:P.cellsOf T=1):Rdr P T ByteArray where
 enc n:=[.raw (.string n)]
 ok n:=n.size≤maxLen
 len _:=by simp [hc]
 sound e w base spare held fuel cs x hx:=by
  cases fuel with
  | zero=>simp [DataW.trod] at hx
  | succ n =>
   unfold DataW.trod at hx;rw [h] at hx;split at hx <;> simp_all
   exact ⟨_,Rd.one (.raw rfl),fun _=>hx.1⟩
def Rdr.bool {P:Program} {T:TypeId} (h:P.underlying T=some .bool) (hc:P.cellsOf T=1):Rdr P T Bool where
 enc n:=[.raw (.bool n)]
 ok n:=True
 len _:=by simp [hc]
 sound e w base spare held fuel cs x hx:=by
  cases fuel with
  | zero=>simp [DataW.trod] at hx
  | succ n =>
   unfold DataW.trod at hx;rw [h] at hx;split at hx <;> first|(simp_all; done)|skip
   exact ⟨_,Rd.one (.raw rfl),fun _=>trivial⟩
def Ru.rowD (r:Ru):List D:=[.raw (.string r.name),ints r.lg.nodes,AM.edges r.lg.edges,slots r.lsl,.raw (.int .i64 r.lv),tests r.lte,ints r.rg.nodes,AM.edges r.rg.edges,slots r.rsl,.raw (.int .i64 r.rv),tests r.rte,
 ints r.k.nodes,ints r.k.edges,ints r.i.nodes,ints r.i.edges,.raw (.bool r.inj)]++r.c.cells
end Go.AM
