import Derived.Test.YtchfmhhbiealcaaGreatDoorPIB13
import Derived.Shelf.Small.Strs
import Derived.Shelf.Strconv.Itoa0
import Derived.Shelf.Strconv.Itoa1
import Derived.Shelf.Strconv.Itoa2
import Derived.Shelf.Strconv.Itoa3
import Derived.Shelf.LaysM
import Derived.Ground.Names2Prog
import Derived.Test.YtchfmhhbiealcaaGreatDoorProg
set_option linter.unusedSimpArgs false
set_option linter.unusedVariables false
namespace Go.AM
theorem gp.{u}:type_of% @List.cons_append.{u}:=@List.cons_append
open Go Go.Proofs
open Go.Proofs.Tryz
theorem aHc{α:Type}(p:α->Bool)(l:List α){i:Nat}(h:i<l.length):(l.take (i+1)).filter p=if p l[i]=true then (l.take i).filter p++[l[i]] else (l.take i).filter p:=by
 rw[<-List.take_append_getElem h,dm];by_cases e:p l[i]=true<;>simp[e]
def aOH(r:Ru)(l:List Ov)(nb:Nat)(box:Bxs)(x:Acc):AS :=
 ⟨tl [(12,I x.i),(9,.d (ovs l)),(11,.osl 6 (((l.take x.i).filter (qW r)).map Ov.cells) x.own),(4,.ptr (nb+4) 0 0)],lb nb box [(4,[r.row])],x.tok,x.nt⟩
set_option maxRecDepth 100000 in
theorem aLT(t:Ty)(ht:t.Fit)(r:Ru)(hr:r.Fit)(c:Co)(hc:c.Fit):DC 91 [t.av,r.av,c.av] (.tup [.d (ovs (cH t r c).1),I (cH t r c).2]):=by
 intro tok nt box nb;have h1:=aGx t ht r hr c hc;have hg:=@aBQ t r c;have h2:=aCk r.rg c.g hr.rg hc.g;obtain⟨N,hN⟩:∃N,cH t r c=N:=⟨_,rfl⟩
 rw[hN];unfold cH at hN;generalize rC t r c=E at *;refine sI func91 ntmps91 fun Hb Ht=>?_
 repeat first|simp|refine sR ?_
 refine sD (h1 _ _) ?_;repeat first|simp|refine sR ?_
 by_cases e1:E=0
 .rw[ac (by simp[e1])] at hN;apply sC;simp[e1];repeat first|simp|refine sR ?_
  by_cases e2:c.kind=1
  .rw[af e2] at hN;have hv:=(gQ (hg e1).2.1).2.2;obtain⟨_,ji⟩:=aFg hr.rg hv hc.g rfl;have wy:=aCd (p:=c.g) hv rfl;try (simp[e2])
   repeat ((first|refine sR ?_|apply sC|apply sX);simp[e2])
   refine sD (h2 _ _) ?_;simp;generalize oR r.rg c.g=R at *;repeat first|simp|refine sR ?_
   by_cases e3:R.2=0
   .rw[ac (by simp[e3])] at hN;apply sC;simp[e3];repeat first|simp|refine sR ?_
    apply sN;refine sL (aOH r R.1 nb box) (fun x=>x.i<=R.1.length/\TK tok nt x.tok x.nt [x.own]) (fun x=>R.1.length-x.i) ⟨0,.full,tok,nt⟩ ⟨ai _,(TK.start Ht).full⟩ wkA ?_;rintro⟨i,own,tok',nt'⟩ S ⟨hi,htk⟩ hS;simp only[aOH] at hS hi htk;subst hS;have hw:=sW (i:=i) (by omega);obtain⟨K,hK⟩:∃K,(R.1.take i).filter (qW r)=K:=⟨_,rfl⟩
    have hKl:K.length<=i:=by rw[<-hK];exact cb (dl _ _) (by simp;omega)
    rw[hK];repeat first|simp|refine sR ?_|apply sC
    refine⟨fun hlt=>?_,fun hge=>?_⟩
    .have jl:=aHc (qW r) R.1 hlt;rw[hK] at jl;have ho:=ji _ (aa hlt);have c1:=yC R.1[i].l.nodes R.1[i].r.nodes r.i.nodes ho.l.n ho.r.n hr.i.n;have c2:=yC R.1[i].l.edges R.1[i].r.edges r.i.edges ho.l.e ho.r.e hr.i.e;have hd:qW r R.1[i]=if eA R.1[i].l.nodes R.1[i].r.nodes r.i.nodes=true then true else eA R.1[i].l.edges R.1[i].r.edges r.i.edges:=rfl
     repeat first|simp[hlt]|refine sR ?_
     refine sD (c1 _ _) ?_;simp;cases e5:eA R.1[i].l.nodes R.1[i].r.nodes r.i.nodes
     .rw[e5,ac (by simp)] at hd;repeat first|simp[hlt]|refine sR ?_
      refine sD (c2 _ _) ?_;simp;cases e6:eA R.1[i].l.edges R.1[i].r.edges r.i.edges
      .rw[e6] at hd;rw[hd,ac (by simp)] at jl;try (simp[hw])
       repeat ((first|refine sR ?_|apply sC|apply sX);simp[hw])
       apply sE;exact⟨⟨i+1,own,tok',nt'⟩,⟨hlt,htk⟩,by simp only;omega,wM htk.le rfl (by simp[ToL,lk,jl]) (by simp[aC,lk])⟩
      .rw[e6] at hd;rw[hd,af rfl] at jl;try (simp[hlt])
       repeat ((first|refine sR ?_|apply sC|apply sX);simp[hlt])
       refine⟨⟨by omega,htk.live⟩,?_⟩;repeat first|simp[hw]|refine sR ?_
       apply sE;exact⟨⟨i+1,_,_,_⟩,⟨hlt,htk.app⟩,by simp only;omega,wM htk.app.le rfl (by simp[ToL,lk,jl]) (by simp[aC,lk])⟩
     .rw[e5,af rfl] at hd;rw[hd,af rfl] at jl;try (simp[hlt])
      repeat ((first|refine sR ?_|apply sC|apply sX);simp[hlt])
      refine⟨⟨by omega,htk.live⟩,?_⟩;repeat first|simp[hw]|refine sR ?_
      apply sE;exact⟨⟨i+1,_,_,_⟩,⟨hlt,htk.app⟩,by simp only;omega,wM htk.app.le rfl (by simp[ToL,lk,jl]) (by simp[aC,lk])⟩
    .apply sX;simp only[AU,↓reduceIte];have:i=R.1.length:=by omega
     subst this;rw[bh] at hK;rw[hK] at hN;repeat first|simp|refine sR ?_
     refine sT (sG Hb Ht htk.old htk.le ?_);simp[<-hN,ovs]
   .rw[af e3] at hN;have b3:(R.2 != 0)=true:=by simp[e3]
    apply sC;simp[b3];repeat first|simp|refine sR ?_
    refine sT (sH ?_);simp[<-hN,ovs]
  .rw[ac e2] at hN;have b2:(c.kind != 1)=true:=by simp[e2]
   try (simp[b2])
   repeat ((first|refine sR ?_|apply sC|apply sX);simp[b2])
   refine sT (sH ?_);simp[<-hN,ovs]
 .rw[af e1] at hN;have b1:(E != 0)=true:=by simp[e1]
  apply sC;simp[b1];repeat first|simp|refine sR ?_
  refine sT (sH ?_);simp[<-hN,ovs]
inductive Cd.Pl:Cd->Prop
 | mk {c:Cd} (hs:c.sl=[]) (hv:c.vars=0) (ht:c.te=[]) (h:∀x∈c.kids,Cd.Pl x):Cd.Pl c
theorem Cd.Pl.sl{c:Cd}(h:c.Pl):c.sl=[]:=by cases h;assumption
theorem Cd.Pl.te{c:Cd}(h:c.Pl):c.te=[]:=by cases h;assumption
theorem Cd.Pl.vars{c:Cd}(h:c.Pl):c.vars=0:=by cases h;assumption
def exT:Ty:=⟨[⟨⟨#[65,99,99,111,117,110,116]⟩, -1,true,[⟨⟨#[98,97,108,97,110,99,101]⟩, -1000,1000,[]⟩]⟩,⟨⟨#[67,97,115,104]⟩,0,false,[]⟩,⟨⟨#[76,111,97,110]⟩,0,false,[⟨⟨#[115,116,97,116,101]⟩,0,1,[⟨#[111,112,101,110]⟩,⟨#[99,108,111,115,101,100]⟩]⟩]⟩,⟨⟨#[80,101,114,115,111,110]⟩, -1,false,[]⟩],
 [⟨⟨#[111,119,110,115]⟩,3,0,0, -1,1,1⟩,⟨⟨#[112,97,121,115]⟩,1,1,0, -1,0, -1⟩]⟩
theorem aKV:exT.Fit:=⟨by decide,by decide,by decide,by decide,by simp[exT];exact⟨⟨by decide,by decide,by decide⟩,⟨by decide,by decide,by decide⟩⟩⟩
theorem aBN:DSs [] []:=⟨rfl,fun i h=>by simp at h⟩
theorem wE{x y:List D}{xs ys:List (List D)}:DSs (x::xs) (y::ys)↔DS1 x y/\DSs xs ys:=by
 constructor
 .rintro⟨h1,h2⟩;exact⟨h2 0 (by simp) (by simp),by simpa using h1,fun j g1 g2=>h2 (j+1) (by simpa using g1) (by simpa using g2)⟩
 .rintro⟨h1,h2,h3⟩;refine⟨by simp[h2],fun j g1 g2=>?_⟩
  match j with
  | 0=>exact h1
  | j+1=>exact h3 j (by simpa using g1) (by simpa using g2)
theorem xK{sz:Nat}{es es':List (List D)}(h:DSs es es'):mR (.sl sz es) (.sl sz es'):=h.sub sz
theorem aEx{p q:Nat->Prop}{fz:Option (Nat × Nat × List (List D))}{sz:Nat}{es es':List (List D)}{o:Own}(h:DSs es es'):To p q fz (.osl sz es o) (.d (.sl sz es')):=.odsub (h.sub sz)
set_option maxRecDepth 100000 in
theorem aDj:DC 34 [] exT.av:=by
 intro tok nt box nb;refine sI func34 ntmps34 fun Hb Ht=>?_
 repeat first|simp|refine sR ?_
 try refine⟨rfl,?_⟩
 repeat first|simp|refine sR ?_
 try refine⟨rfl,?_⟩
 repeat first|simp|refine sR ?_
 try refine⟨rfl,?_⟩
 repeat first|simp|refine sR ?_
 try refine⟨rfl,?_⟩
 repeat first|simp|refine sR ?_
 refine sT (sH ?_);simp[exT,nts,ets,rL,lM];exact aEx (by simp[wE,aBN,xK,rL,lM])
abbrev Co.cells(c:Co):List D:=[.raw (.string c.name),.raw (.int .i64 c.kind),ints c.g.nodes,AM.edges c.g.edges,xts c.exts]
abbrev rCo(l:List Co):List (List D):=l.map Co.cells
structure Ob where
 ru:Int
 con:Int
 way:Int
 g:Gr
structure Du where
 o:Ob
 step:Bool
structure Dc where
 o:Ob
 con:Int
 m:Mo
abbrev Ob.cells(o:Ob):List D:=[.raw (.int .i64 o.ru),.raw (.int .i64 o.con),.raw (.int .i64 o.way),ints o.g.nodes,AM.edges o.g.edges]
abbrev Du.cells(d:Du):List D:=[.raw (.int .i64 d.o.ru),.raw (.int .i64 d.o.con),.raw (.int .i64 d.o.way),ints d.o.g.nodes,AM.edges d.o.g.edges,.raw (.bool d.step)]
abbrev Dc.cells(d:Dc):List D:=[.raw (.int .i64 d.o.ru),.raw (.int .i64 d.o.con),.raw (.int .i64 d.o.way),ints d.o.g.nodes,AM.edges d.o.g.edges,.raw (.int .i64 d.con),ints d.m.nodes,AM.ints d.m.edges]
abbrev tC(l:List Ob):D:=.sl 5 (l.map Ob.cells)
abbrev pD(l:List Du):D:=.sl 6 (l.map Du.cells)
abbrev qH(l:List Dc):D:=.sl 8 (l.map Dc.cells)
abbrev Ob.row(o:Ob):List AV:=[I o.ru,I o.con,I o.way,.d (ints o.g.nodes),.d (AM.edges o.g.edges)]
abbrev Ob.av(o:Ob):AV:=.agg o.row
abbrev Du.row(d:Du):List AV:=[I d.o.ru,I d.o.con,I d.o.way,.d (ints d.o.g.nodes),.d (AM.edges d.o.g.edges),B d.step]
abbrev Du.av(d:Du):AV:=.agg d.row
abbrev Dc.row(d:Dc):List AV:=[I d.o.ru,I d.o.con,I d.o.way,.d (ints d.o.g.nodes),.d (AM.edges d.o.g.edges),I d.con,.d (ints d.m.nodes),.d (ints d.m.edges)]
abbrev Dc.av(d:Dc):AV:=.agg d.row
abbrev eE(l:List Ru):D:=.sl 25 (l.map Ru.rowK)
structure Dc.Fit (d:Dc):Prop where
 g:d.o.g.Fit
 m:d.m.Fit
def qR(t:Ty)(p g:Gr)(inj:Bool):Sr:=⟨t,p,g,opM p,inj,0⟩
def aBv(t:Ty)(p g:Gr)(inj:Bool):List Mo:=(qR t p g inj).fnR p.nodes.length [] []
def hdM:List Mo->Mo × Int
 | []=>(⟨[],[]⟩,10)
 | m::_=>(m,0)
def iX(t:Ty)(p g:Gr)(inj:Bool):Mo × Int:=if gY t p g≠0 then (⟨[],[]⟩,gY t p g) else hdM (aBv t p g inj)
def gV(t:Ty)(p g:Gr)(m:Mo)(i:Nat):Int:=if m.nodes.getD i 0<0∨(g.nodes.length:Int)<=m.nodes.getD i 0 then 6 else if isB t (g.nodes.getD (m.nodes.getD i 0).toNat 0) (p.nodes.getD i 0)=true then 0 else 13
def gL(p g:Gr)(m:Mo)(i:Nat):Int :=
 if m.edges.getD i 0<0∨(g.edges.length:Int)<=m.edges.getD i 0 then 6
 else if (p.edges.getD i default).ty≠(g.edges.getD (m.edges.getD i 0).toNat default).ty then 13
 else if m.nodes.getD (p.edges.getD i default).fr.toNat 0≠(g.edges.getD (m.edges.getD i 0).toNat default).fr∨m.nodes.getD (p.edges.getD i default).to.toNat 0≠(g.edges.getD (m.edges.getD i 0).toNat default).to then 11 else 0
def fY(t:Ty)(p g:Gr)(m:Mo):Int :=
 if m.nodes.length≠p.nodes.length∨m.edges.length≠p.edges.length then 20 else if aA (gV t p g m) m.nodes.length≠0 then aA (gV t p g m) m.nodes.length else aA (gL p g m) m.edges.length
def rD(t:Ty)(p g:Gr)(m:Mo)(inj:Bool):Int:=if fY t p g m≠0 then fY t p g m else if inj=true/\(¬m.nodes.Nodup∨¬m.edges.Nodup) then 5 else 0
def tP(t:Ty)(p g:Gr)(m:Mo)(inj:Bool):Int:=if gY t p g≠0 then gY t p g else rD t p g m inj
def ruE(t:Ty)(r:Ru):Int:=if cQ r≠0 then cQ r else if dF t r.lg=true then (if dF t r.rg=true then 0 else 13) else 13
def coE(t:Ty)(c:Co):Int:=if cnE t c≠0 then cnE t c else if c.kind=1 then 0 else 8
def qV(t:Ty)(L:List Ru)(i:Nat):Int:=match L[i]? with|some r=>ruE t r|none=>0
def yL(t:Ty)(l:List Co)(i:Nat):Int:=match l[i]? with|some c=>coE t c|none=>0
def fG(t:Ty)(L:List Ru)(l:List Co):Int :=
 if tyE t≠0 then tyE t else if 6<L.length∨8<l.length then 3 else if aA (qV t L) L.length≠0 then aA (qV t L) L.length else aA (yL t l) l.length
def kpI(r:Ru):Mo:=zJ r.rg r.i
def eN(r:Ru)(o:Ov):Mo:=aHf o.g (kpI r) o.l
def bE(k:List Int)(n:Nat):List Int:=((List.range n).filter fun (i:Nat)=>decide ((i:Int)∉k)).map fun (i:Nat)=>(i:Int)
def tH(r:Ru)(o:Ov)(i:Nat):Int :=
 if (i:Int)∈r.k.nodes then aU (eN r o).nodes (o.l.nodes.getD (r.i.nodes.getD (aU r.k.nodes i).toNat 0).toNat 0) else ((exG o.g (eN r o)).nodes.length+(bE r.k.nodes i).length:Nat)
def yN(r:Ru)(o:Ov):Gr :=
 ⟨(exG o.g (eN r o)).nodes++(bE r.k.nodes r.lg.nodes.length).map fun n=>r.lg.nodes.getD n.toNat 0,
  (exG o.g (eN r o)).edges++(bE r.k.edges r.lg.edges.length).map fun n=>⟨(r.lg.edges.getD n.toNat default).ty,tH r o (r.lg.edges.getD n.toNat default).fr.toNat,tH r o (r.lg.edges.getD n.toNat default).to.toNat⟩⟩
def mK(r:Ru)(o:Ov):Gr × Bool:=if kA o.g (kpI r) o.l=true then (⟨[],[]⟩,false) else (yN r o,true)
def duN(r:Ru)(i k:Nat)(ws:List Ov)(n:Nat):List Du:=(List.range n).map fun (j:Nat)=>⟨⟨i,k,j,(mK r (ws.getD j ⟨⟨[],[]⟩,⟨[],[]⟩,⟨[],[]⟩⟩)).1⟩,(mK r (ws.getD j ⟨⟨[],[]⟩,⟨[],[]⟩,⟨[],[]⟩⟩)).2⟩
def duW(t:Ty)(L:List Ru)(l:List Co)(i k:Nat):List Ov × Int:=match L[i]?,l[k]? with|some r,some c=>cH t r c|_,_=>([],0)
def duC(t:Ty)(L:List Ru)(l:List Co)(i k:Nat):List Du:=match L[i]? with|some r=>duN r i k (duW t L l i k).1 (duW t L l i k).1.length|none=>[]
def duK(t:Ty)(L:List Ru)(l:List Co)(i n:Nat):List Du:=(List.range n).flatMap (duC t L l i)
def duL(t:Ty)(L:List Ru)(l:List Co)(n:Nat):List Du:=(List.range n).flatMap fun i=>duK t L l i l.length
def duE(t:Ty)(L:List Ru)(l:List Co)(i:Nat):Int:=aA (fun k=>(duW t L l i k).2) l.length
def aNj(t:Ty)(L:List Ru)(l:List Co):Int:=aA (duE t L l) L.length
def iU(t:Ty)(L:List Ru)(l:List Co):List Du × Int:=if aNj t L l≠0 then ([],aNj t L l) else (duL t L l L.length,0)
def dE(t:Ty)(L:List Ru)(l:List Co):List Du × Int:=if fG t L l≠0 then ([],fG t L l) else iU t L l
def mM(t:Ty)(g:Gr)(c:Co):Bool:=decide ((iX t c.g g true).2=0)
def tD(t:Ty)(l:List Co)(g:Gr):Nat:=l.findIdx (mM t g)
def zOb:Ob:=⟨0,0,0,⟨[],[]⟩⟩
def eD(t:Ty)(l:List Co)(d:Du):Dc × Bool :=
 if d.step=true then (if h:tD t l d.o.g<l.length then (⟨d.o,(tD t l d.o.g:Nat),(iX t l[tD t l d.o.g].g d.o.g true).1⟩,true) else (⟨zOb,0,⟨[],[]⟩⟩,false)) else (⟨d.o, -1,⟨[],[]⟩⟩,true)
def jL(t:Ty)(l:List Co)(D:List Du):List Ob:=(D.filter fun d=>!(eD t l d).2).map Du.o
def gS(t:Ty)(L:List Ru)(l:List Co):List Ob × Int:=if (dE t L l).2≠0 then ([],(dE t L l).2) else (jL t l (dE t L l).1,0)
def aBZ(t:Ty)(l:List Co)(D:List Du):List Dc × Int:=if D.all (fun d=>(eD t l d).2)=true then (D.map fun d=>(eD t l d).1,0) else ([],10)
def eM(t:Ty)(L:List Ru)(l:List Co):List Dc × Int:=if (dE t L l).2≠0 then ([],(dE t L l).2) else aBZ t l (dE t L l).1
def obE(a b:Ob):Bool:=decide (a.ru=b.ru)&&decide (a.con=b.con)&&decide (a.way=b.way)&&decide (a.g=b.g)
def qO(t:Ty)(l:List Co)(d:Du)(x:Dc):Bool :=
 obE x.o d.o&&if d.step=true then decide (0<=x.con/\x.con<l.length)&&(match l[x.con.toNat]? with|some c=>decide (tP t c.g d.o.g x.m true=0)|none=>false) else decide (x.con = -1)&&decide (x.m.nodes.length+x.m.edges.length=0)
def aDz(t:Ty)(L:List Ru)(l:List Co)(p:List Dc):Bool :=
 decide ((dE t L l).2=0)&&decide ((dE t L l).1.length=p.length)&&(List.range p.length).all fun i=>match (dE t L l).1[i]?,p[i]? with|some d,some x=>qO t l d x|_,_=>false
end Go.AM
namespace Go.Proofs.YtchfmhhbiealcaaGreatDoor.sortedV
open Go Go.Proofs Go.RowKit Go.Shelf Go.Sort
open Go.Proofs.Tryz
set_option maxHeartbeats 2000000 in
set_option maxRecDepth 100000 in
theorem any(b off n c:Nat)(zs:List Int)(w:World)(hz:zs.length=n)(hbig:n*8<=140737488355328)(hc:∀j,j<zs.length->w.cell? ⟨b,off+j,none⟩=some (.int .i64 (zs.getD j 0))):
    Calls prog 141 #[.slice (some ⟨b,off,none⟩) n c] w fun e w'=>∃v,e=.returned v/\w'.ownsRow w.heap.size 3 1 v zs.length ((zs.mergeSort fun x y=>decide (x<=y)).map (Value.int .i64))/\Below w.heap.size w w':=by
  have hclone:=Tryz.slices_Clone_int b off n c zs w (by omega) hbig hc;rw[List.take_of_length_le (by omega)] at hclone;clear hc
  go_enter func141,ntmps141
  go_wp2_with (first
    | (go_at_call 83;refine hclone.mono ?_;rintro e w1 ⟨v1,rfl,hown,hnn,hbel⟩
       have hown':=hown
       obtain⟨g,cap,rfl,hbg,hgl,hncap,hcm,hlen2,hH⟩:=Lib.holds_of_ownsRow hown hnn;have hsort:=Tryz.slices_Sort_int g 0 cap zs w1 hH hgl (by omega);rw[hlen2] at hsort;have X:Aside (w1.ownsRow w.heap.size 3 1 (.slice (some ⟨g,0,none⟩) n cap) n (zs.map (Value.int .i64))/\Below w.heap.size w w1/\w.heap.size<=g/\g<w1.heap.size/\n<=cap/\cap<=maxLen):=⟨hown',hbel,hbg,hgl,hncap,hcm⟩
       clear hown hown' hbel hH hnn)
    | (go_at_call 205;refine hsort.mono ?_;rintro e w2 ⟨rfl,nn,os,rfl⟩))
  go_ret
  obtain⟨x1,x2,x3,x4,x5,x6⟩:=X.out;rcases x1.2 with ⟨e0,_⟩|⟨g',cap',cur,hv,hbase,hb,h1,h2,h3,h4⟩
  . cases e0
  cases hv;subst hz;exact⟨_,rfl,ownsRow_sortedI (by simp) hbase hb h1 h2 h3,x2.grown (grownBy_sortedI _) x2.size (fun j hj=>by cases hj;exact hbase)⟩
set_option maxHeartbeats 2000000 in
set_option maxRecDepth 100000 in
theorem zero(a:Addr)(c:Nat)(w:World):Calls prog 141 #[.slice (some a) 0 c] w fun e w'=>∃v,e=.returned v/\w'.ownsRow w.heap.size 3 1 v 0 []/\Below w.heap.size w w':=by
  have hclone:=Tryz.slices_Clone_int_zero a c w
  go_enter func141,ntmps141
  go_wp2_with (first
    | (go_at_call 83;refine hclone.mono ?_;rintro e w1 ⟨v1,rfl,hown,hnn,hbel⟩
       have hown':=hown
       obtain⟨g,cap,rfl,_,_,_,_,_,_⟩:=Lib.holds_of_ownsRow (enc:=Value.int .i64) (zs:=[]) hown hnn;have X:Aside (w1.ownsRow w.heap.size 3 1 (.slice (some ⟨g,0,none⟩) 0 cap) 0 []/\Below w.heap.size w w1):=⟨hown',hbel⟩
       clear hown hown' hbel hnn)
    | (go_at_call 205;refine(Tryz.slices_Sort_int_none _ _ _).mono ?_;rintro e w2 ⟨rfl,rfl⟩))
  go_ret
  exact⟨_,rfl,X.out.1,X.out.2⟩
set_option maxHeartbeats 2000000 in
set_option maxRecDepth 100000 in
theorem none(n c:Nat)(w:World):Calls prog 141 #[.slice none n c] w fun e w'=>e=.returned (.slice none 0 0)/\Below w.heap.size w w':=by
 go_enter func141,ntmps141
 go_wp2_with (first
  | (go_at_call 83;refine(Tryz.slices_Clone_int_nil n c _).mono ?_;rintro e w1 ⟨rfl,rfl⟩)
  | (go_at_call 205;refine(Tryz.slices_Sort_int_none _ _ _).mono ?_;rintro e w2 ⟨rfl,rfl⟩))
 go_ret
 exact⟨rfl,Below.refl _ _⟩
end Go.Proofs.YtchfmhhbiealcaaGreatDoor.sortedV
namespace Go.AM
open Go Go.Proofs Go.RowKit
open Go.Proofs.Tryz
theorem aAO(l:List Int)(hl:l.length<=1000000):DC 141 [.d (ints l)] (.d (ints (cR l))):=by
 intro tok nt box nb;refine⟨iC.mk func141 rfl (by kernel_rfl),fun G w vals hm hr=>?_⟩;obtain⟨hlen,ql⟩:=hr
 match vals,hlen with
 | [v],_ =>
  have h0:=ql 0 (by simp) (by simp);simp only[ck] at h0;cases h0 with
  | d h0 =>
   obtain⟨A,cap,rfl,i8,i9,hA,hc⟩:=xI h0;by_cases e:l=[]
   .subst e;have e0:cR []=[]:=by simp[cR]
    cases A with
    | none =>
     refine(YtchfmhhbiealcaaGreatDoor.sortedV.none _ cap w).mono ?_;rintro e w' ⟨rfl,hb⟩;exact⟨_,_,_,G,rfl,⟨rfl,rfl⟩,rfl,fB hm hb,.d (by rw[e0];exact .sl (es:=[]) (fun _ _=>default) (nr0 _) (by decide) (by simp) (by simp) (by simp) (by simp)),gX hm hb,fun k hk=>⟨hk,rfl⟩⟩
    | some a =>
     refine(YtchfmhhbiealcaaGreatDoor.sortedV.zero a cap w).mono ?_;rintro e w' ⟨v,rfl,ho,hb⟩;exact⟨_,_,_,G,rfl,⟨rfl,rfl⟩,rfl,fB hm hb,.d (by rw[e0];exact nK (xs:=[]) hm ho),gX hm hb,fun k hk=>⟨hk,rfl⟩⟩
   .obtain⟨a,rfl⟩:=hA e;have hp:0<l.length:=dg.2 e
    have ro:=hc a rfl
    have hs:a.spot=none:=by
     cases qf:a.spot with
     | none=>rfl
     | some q =>
      exfalso
      have:=ro 0 hp
      simp only[World.cell?,Addr.add,qf,Option.isSome_some,↓reduceIte] at this;split at this<;>simp at this
    obtain⟨b,off,sp⟩:=a;simp only at hs;subst hs;refine(YtchfmhhbiealcaaGreatDoor.sortedV.any b off l.length cap l w rfl (by omega) fun j hj=>?_).mono ?_
    .have h1:=ro j hj;unfold Addr.add at h1;split at h1
     .rename_i e;subst e;exact h1
     .exact h1
    .rintro e w' ⟨v,rfl,hown,hb⟩;have hl2:l.length=(cR l).length:=by simp[cR]
     rw[hl2] at hown;exact⟨v,_,_,G,rfl,⟨rfl,rfl⟩,rfl,fB hm hb,.d (nK hm hown),gX hm hb,fun k hk=>⟨hk,rfl⟩⟩
theorem aCA(k:List Int)(i:Nat):bE k (i+1)=bE k i++if (i:Int)∈k then [] else [(i:Int)]:=by
 unfold bE;rw[cn,dm,c7];by_cases h:(i:Int)∈k<;>simp[h]
theorem nR(k:List Int)(n:Nat):(bE k n).length<=n:=by
 unfold bE;rw[br];exact cb (dl _ _) (by simp)
theorem xX{k:List Int}{n:Nat}:∀x∈bE k n,0<=x/\x<(n:Int):=fun x hx=>by
 unfold bE at hx;obtain⟨i,hi,rfl⟩:=bc.1 hx;have:=ay.1 (ce.1 hi).1
 omega
def aP0(l:List Int)(n:Nat)(nb:Nat)(box:Bxs)(x:Acc):AS:=⟨tl [(8,I x.i),(7,I n),(5,.osl 1 (rI (bE l x.i)) x.own),(0,.d (ints l))],lb nb box [],x.tok,x.nt⟩
theorem aAw(l:List Int)(hl:l.length<=1000000)(n:Nat)(hn:n<=1000000):DC 142 [.d (ints l),I n] (.d (ints (bE l n))):=by
 intro tok nt box nb;refine sI func142 ntmps142 fun Hb Ht=>?_
 repeat first|simp|refine sR ?_
 apply sN;refine sL (aP0 l n nb box) (fun x=>x.i<=n/\TK tok nt x.tok x.nt [x.own]) (fun x=>n-x.i) ⟨0,.full,tok,nt⟩ ⟨ai _,(TK.start Ht).full⟩ (wM (nr0 _) rfl (by simp[ToL,lk,bE]) (by simp[aC,lk])) ?_;rintro⟨i,own,tok',nt'⟩ S ⟨hi,htk⟩ hS;simp only[aP0] at hS hi htk;subst hS;have hw:=sW (i:=i) (by omega);have hs:=aCA l i;have pz:=nR l i;by_cases hlt:i<n
 .have c1:=bQ l (i:Int) hl;try (simp[hlt])
  repeat ((first|refine sR ?_|apply sC|apply sX);simp[hlt])
  refine sD (c1 _ _) ?_;simp;by_cases e:(i:Int)∈l
  .rw[af e,c6] at hs;try (simp[e,hw])
   repeat ((first|refine sR ?_|apply sC|apply sX);simp[e,hw])
   apply sE;exact⟨⟨i+1,_,_,_⟩,⟨hlt,htk⟩,by simp only;omega,wM htk.le rfl (by simp[ToL,lk,hs]) (by simp[aC,lk])⟩
  .rw[ac e] at hs;try (simp[e])
   repeat ((first|refine sR ?_|apply sC|apply sX);simp[e])
   refine⟨⟨by omega,htk.live⟩,?_⟩;try (simp[hw])
   repeat ((first|refine sR ?_|apply sC|apply sX);simp[hw])
   apply sE;exact⟨⟨i+1,_,_,_⟩,⟨hlt,htk.app⟩,by simp only;omega,wM htk.app.le rfl (by simp[ToL,lk,hs]) (by simp[aC,lk])⟩
 .have:i=n:=by omega
  subst this;try (simp)
  repeat ((first|refine sR ?_|apply sC|apply sX);simp)
  refine sT (sG Hb Ht htk.old htk.le ?_);simp
def QEx(g:Gr)(p:Mo)(box:Bxs)(nb:Nat)(tok:Tks)(nt:Nat)(v:AV)(m:bH):Prop :=
 ∃o1 o2 tok' nt',v=.tup [.agg [.osl 1 (rI (exG g p).nodes) o1,.osl 3 (rE (exG g p).edges) o2],p.av,I 0]/\m=⟨box,nb,tok',nt'⟩/\TK tok nt tok' nt' [o1,o2]
def aMM(g:Gr)(p:Mo)(la:Own)(nb:Nat)(box:Bxs)(x:Acc):AS :=
 ⟨tl [(43,I x.i),(42,I p.edges.length),(41,.d (ints p.edges)),(8,.ptr (nb+8) 0 0),(5,.ptr (nb+5) 0 0),(4,.ptr (nb+4) 0 0),(3,.ptr (nb+3) 0 0),(2,.ptr (nb+2) 0 0)],
  lb nb box [(8,[[.osl 1 (rI (jC g p p.nodes.length)) la,.osl 3 (rE (kP g p x.i)) x.own]]),(3,[[.d (ints p.nodes),.d (ints p.edges)]]),(2,[[.d (ints g.nodes),.d (AM.edges g.edges)]]),(5,[[cT,cT]]),(4,[[cT,cT]])],x.tok,x.nt⟩
theorem aFh(g:Gr)(p:Mo)(hg:g.Fit)(hp:p.Fit)(h:VP g p)(box:Bxs)(nb:Nat)(tok:Tks)(nt:Nat):aD prog 69 [g.av,p.av] ⟨box,nb,tok,nt⟩ (QEx g p box nb tok nt):=by
 have h1:=rK g p hg hp;rw[h.v] at h1;refine sI func69 ntmps69 fun Hb Ht=>?_
 repeat first|simp|refine sR ?_
 refine sD (h1 _ _) ?_;repeat first|simp|refine sR ?_
 apply sC;repeat first|simp|refine sR ?_
 apply sN;have so:=hp.n;have rd:=hp.e;refine sL (aFL g p nb box) (fun x=>x.i<=p.nodes.length/\TK tok nt x.tok x.nt [x.own]) (fun x=>p.nodes.length-x.i) ⟨0,.full,tok,nt⟩ ⟨ai _,(TK.start Ht).full⟩ (wM (nr0 _) rfl (by simp[ToL,lk]) (by simp[aC,lk,lQ])) ?_;rintro⟨i,own,tok',nt'⟩ S ⟨hi,htk⟩ hS;simp only[aFL] at hS hi htk;subst hS;have hw:=sW (i:=i) (by omega);repeat first|simp|refine sR ?_|apply sC
 refine⟨fun hlt=>?_,fun hge=>?_⟩
 .obtain⟨r1,r2⟩:=h.n _ (aa hlt);have r3:p.nodes[i].toNat<g.nodes.length:=by omega
  repeat first|simp[hlt,r1,r2,r3]|refine sR ?_
  refine⟨⟨by have:=oO g p i;omega,htk.live⟩,?_⟩;repeat first|simp[hw]|refine sR ?_
  apply sE;exact⟨⟨i+1,_,_,_⟩,⟨hlt,htk.app⟩,by simp only;omega,wM htk.app.le rfl (by simp[ToL,lk]) (by simp[aC,lk,lP g p hlt,r3])⟩
 .apply sX;simp only[AU,↓reduceIte];have:i=p.nodes.length:=by omega
  subst this;repeat first|simp|refine sR ?_
  apply sN;refine sL (aMM g p own nb box) (fun x=>x.i<=p.edges.length/\TK tok nt x.tok x.nt [x.own,own]) (fun x=>p.edges.length-x.i) ⟨0,.full,tok',nt'⟩ ⟨ai _,htk.full⟩ (wM htk.le rfl (by simp[ToL,lk]) (by simp[aC,lk,lJ])) ?_;rintro⟨i,im,io,iz⟩ S ⟨hi,ie⟩ hS;simp only[aMM] at hS hi ie;subst hS;have hw:=sW (i:=i) (by omega);have hh:=fun v=>wN p.nodes v hp.n h.sn
  repeat first|simp|refine sR ?_|apply sC
  refine⟨fun hlt=>?_,fun hge=>?_⟩
  .obtain⟨r1,r2⟩:=h.e _ (aa hlt);have r3:p.edges[i].toNat<g.edges.length:=by omega
   have hE:qY g p p.edges[i]=⟨g.edges[p.edges[i].toNat].ty,aU p.nodes g.edges[p.edges[i].toNat].fr,aU p.nodes g.edges[p.edges[i].toNat].to⟩:=by
    have q2:g.edges.getD p.edges[i].toNat default=g.edges[p.edges[i].toNat]:=by simp[r3]
    rw[qY,q2]
   have ky:=lH g p hlt;rw[hE] at ky;have hcc:=h.c _ (aa hlt);have q3:g.edges.getD p.edges[i].toNat default=g.edges[p.edges[i].toNat]:=by simp[r3]
   rw[q3] at hcc;have AK:=hh g.edges[p.edges[i].toNat].fr;have ve:=hh g.edges[p.edges[i].toNat].to;rw[lT h.sn hcc.1] at AK;rw[lT h.sn hcc.2] at ve;refine sR ?_;simp[hlt];refine sR ?_;simp[r1,r2,r3];generalize g.edges[p.edges[i].toNat]=x at *;repeat first|simp|refine sR ?_
   refine sD (AK _ _) ?_;repeat first|simp|refine sR ?_
   refine sD (ve _ _) ?_;repeat first|simp|refine sR ?_
   refine⟨⟨by have:=oV g p i;omega,ie.live⟩,?_⟩;repeat first|simp[hw]|refine sR ?_
   apply sE;exact⟨⟨i+1,_,_,_⟩,⟨hlt,ie.app⟩,by simp only;omega,wM ie.app.le rfl (by simp[ToL,lk]) (by simp[aC,lk,ky])⟩
  .apply sX;simp only[AU,↓reduceIte];have:i=p.edges.length:=by omega
   subst this;have c1:=gT p.nodes hp.n;have c2:=gT p.edges hp.e;have hG:=aBF g p;repeat first|simp|refine sR ?_
   refine sD (c1 _ _) ?_;repeat first|simp|refine sR ?_
   refine sD (c2 _ _) ?_;simp;have iy:=(ie.full.app.full.app).tail.tail.swap;repeat first|simp|refine sR ?_
   refine sT ?_;try simp only[AU]
   refine⟨by simp,(Fin.gen (av:=.tup [.agg [.osl 1 (rI (exG g p).nodes) own,.osl 3 (rE (exG g p).edges) im],p.av,I 0]) (by simp[aP,bI];rfl) Hb iy.le (nr0 _) (fun t h=>⟨h,.inl rfl⟩) (fun k rows _ h=>.inl h) (by simp[hG])).mono fun v m hq=>⟨own,im,_,_,hq.1,hq.2,iy⟩⟩
structure Lyr (nl nr ng nh:Nat) (m n:Nat->Nat) (K F:Nat->Nat->Prop):Prop where
 f1:∀b c c',F b c->F b c'->c=c'
 f2:∀b b' c,F b c->F b' c->b=b'
 d:∀b,b<ng->((∃c,F b c)↔¬∃a,a<nl/\m a=b/\¬∃a',K a a')
 r:∀c,c<nh->((∃b,F b c)↔¬∃a,a<nr/\n a=c/\¬∃a',K a' a)
 k:∀a a',K a a'->F (m a) (n a')
 fr:∀b c,F b c->b<ng/\c<nh
 kr:∀a a',K a a'->a<nl/\a'<nr
 mr:∀a,a<nl->m a<ng
 nr':∀a,a<nr->n a<nh
 mi:∀a a',a<nl->a'<nl->m a=m a'->a=a'
 ni:∀a a',a<nr->a'<nr->n a=n a'->a=a'
theorem Lyr.symm{nl nr ng nh:Nat}{m n:Nat->Nat}{K F:Nat->Nat->Prop}(h:Lyr nl nr ng nh m n K F):Lyr nr nl nh ng n m (fun a b=>K b a) (fun a b=>F b a) :=
 ⟨fun b c c' h1 h2=>h.f2 _ _ _ h1 h2,fun b b' c h1 h2=>h.f1 _ _ _ h1 h2,h.r,h.d,fun a a' hk=>h.k _ _ hk,fun b c hf=>(h.fr _ _ hf).symm,fun a a' hk=>(h.kr _ _ hk).symm,h.nr',h.mr,h.ni,h.mi⟩
def uT(nr:Nat)(a n q':Nat->Nat)(K J F:Nat->Nat->Prop)(v w:Nat):Prop:=(∃u,J u v/\F (q' u) w)∨∃b,b<nr/\a b=v/\(¬∃b0,K b0 b)/\n b=w
section
variable {nl nr ny nx ng nh:Nat} {p a m n q':Nat->Nat} {K J F:Nat->Nat->Prop}
theorem aCF(h1:Lyr nl nr ny nx p a K J)(h2:Lyr nl nr ng nh m n K F)(hr:∀u,u<ny->q' u<ng)(hi:∀u u',u<ny->u'<ny->q' u=q' u'->u=u')(hp:∀b,b<nl->q' (p b)=m b){u v:Nat}(hj:J u v):∃w,F (q' u) w:=by
 obtain⟨u1,v1⟩:=h1.fr _ _ hj;rw[h2.d _ (hr _ u1)];rintro⟨b,hb,e,hk⟩;have e2:u=p b:=hi _ _ u1 (h1.mr _ hb) (by rw[hp _ hb,e])
 exact(h1.d _ u1).1 ⟨v,hj⟩ ⟨b,hb,e2.symm,hk⟩
theorem aFp(h1:Lyr nl nr ny nx p a K J)(h2:Lyr nl nr ng nh m n K F)(hr:∀u,u<ny->q' u<ng)(hi:∀u u',u<ny->u'<ny->q' u=q' u'->u=u')(hp:∀b,b<nl->q' (p b)=m b){v:Nat}(hv:v<nx):∃w,uT nr a n q' K J F v w:=by
 by_cases h:∃u,J u v
 .obtain⟨u,hu⟩:=h;obtain⟨w,hw⟩:=aCF h1 h2 hr hi hp hu;exact⟨w,.inl ⟨u,hu,hw⟩⟩
 .have h3:∃a0,a0<nr/\a a0=v/\¬∃a',K a' a0:=dw fun hc=>h ((h1.r _ hv).2 hc)
  obtain⟨b,hb,e,hk⟩:=h3;exact⟨n b,.inr ⟨b,hb,e,hk,rfl⟩⟩
theorem aCn(h1:Lyr nl nr ny nx p a K J){v u b:Nat}(hj:J u v)(hb:b<nr)(e:a b=v)(hk:¬∃b0,K b0 b):False :=
 (h1.r _ (h1.fr _ _ hj).2).1 ⟨u,hj⟩ ⟨b,hb,e,hk⟩
theorem kV(h1:Lyr nl nr ny nx p a K J)(h2:Lyr nl nr ng nh m n K F){v w w':Nat}(k1:uT nr a n q' K J F v w)(k2:uT nr a n q' K J F v w'):w=w':=by
 rcases k1 with ⟨u,j,f⟩|⟨b,hb,e,hk,hw⟩<;>rcases k2 with ⟨u',j',f'⟩|⟨b',hb',e',jv,rz⟩
 .have:=h1.f2 _ _ _ j j'
  subst this;exact h2.f1 _ _ _ f f'
 .exact(aCn h1 j hb' e' jv).elim
 .exact(aCn h1 j' hb e hk).elim
 .have:=h1.ni _ _ hb hb' (by rw[e,e'])
  subst this;rw[<-hw,<-rz]
theorem aJb(h1:Lyr nl nr ny nx p a K J)(h2:Lyr nl nr ng nh m n K F)(hi:∀u u',u<ny->u'<ny->q' u=q' u'->u=u'){v v' w:Nat}(k1:uT nr a n q' K J F v w)(k2:uT nr a n q' K J F v' w):v=v':=by
 have key:∀u b,F (q' u) w->b<nr->(¬∃b0,K b0 b)->n b=w->False:=fun u b f hb hk hw =>
  (h2.r _ (h2.fr _ _ f).2).1 ⟨_,f⟩ ⟨b,hb,hw,hk⟩
 rcases k1 with ⟨u,j,f⟩|⟨b,hb,e,hk,hw⟩<;>rcases k2 with ⟨u',j',f'⟩|⟨b',hb',e',jv,rz⟩
 .have e:=h2.f2 _ _ _ f f';have:=hi _ _ (h1.fr _ _ j).1 (h1.fr _ _ j').1 e
  subst this;exact h1.f1 _ _ _ j j'
 .exact(key _ _ f hb' jv rz).elim
 .exact(key _ _ f' hb hk hw).elim
 .have:=h2.ni _ _ hb hb' (by rw[hw,rz])
  subst this;rw[<-e,<-e']
theorem aB9(h1:Lyr nl nr ny nx p a K J)(h2:Lyr nl nr ng nh m n K F)(hp:∀b,b<nl->q' (p b)=m b){b:Nat}(hb:b<nr):uT nr a n q' K J F (a b) (n b):=by
 by_cases h:∃b0,K b0 b
 .obtain⟨b0,hk⟩:=h;refine .inl ⟨p b0,h1.k _ _ hk,?_⟩;rw[hp _ (h1.kr _ _ hk).1];exact h2.k _ _ hk
 .exact .inr ⟨b,hb,rfl,h,rfl⟩
theorem aJn(h2:Lyr nl nr ng nh m n K F){v w:Nat}(k:uT nr a n q' K J F v w):w<nh:=by
 rcases k with ⟨u,j,f⟩|⟨b,hb,e,hk,hw⟩
 .exact(h2.fr _ _ f).2
 .rw[<-hw];exact h2.nr' _ hb
theorem aDo(h1:Lyr nl nr ny nx p a K J)(h2:Lyr nl nr ng nh m n K F)(hr:∀u,u<ny->q' u<ng)(hi:∀u u',u<ny->u'<ny->q' u=q' u'->u=u')(hp:∀b,b<nl->q' (p b)=m b){q:Nat->Nat}(hq:∀v,v<nx->uT nr a n q' K J F v (q v)):Lyr ny nx ng nh q' q J F:=by
 have Dp:∀b,b<nr->q (a b)=n b:=fun b hb=>kV h1 h2 (hq _ (h1.nr' _ hb)) (aB9 h1 h2 hp hb)
 refine⟨h2.f1,h2.f2,fun b hb=>?_,fun c hc=>?_,fun u v j=>?_,h2.fr,h1.fr,hr,fun v hv=>aJn h2 (hq v hv),hi,fun v v' hv Eb e=>aJb h1 h2 hi (hq v hv) (by rw[e];exact hq v' Eb)⟩
 .rw[h2.d b hb];refine not_congr ?_;constructor
  .rintro⟨c,hc,e,hk⟩;exact⟨p c,h1.mr _ hc,by rw[hp _ hc,e],fun hj=>(h1.d _ (h1.mr _ hc)).1 hj ⟨c,hc,rfl,hk⟩⟩
  .rintro⟨u,hu,e,hj⟩;have h3:∃a,a<nl/\p a=u/\¬∃a',K a a':=dw fun hc=>hj ((h1.d _ hu).2 hc)
   obtain⟨c,hc,e2,hk⟩:=h3;exact⟨c,hc,by rw[<-hp _ hc,e2,e],hk⟩
 .rw[h2.r c hc];refine not_congr ?_;constructor
  .rintro⟨b,hb,e,hk⟩;exact⟨a b,h1.nr' _ hb,by rw[Dp _ hb,e],fun hj=>(h1.r _ (h1.nr' _ hb)).1 hj ⟨b,hb,rfl,hk⟩⟩
  .rintro⟨v,hv,e,hj⟩;have h3:∃b,b<nr/\a b=v/\¬∃a',K a' b:=dw fun hc=>hj ((h1.r _ hv).2 hc)
   obtain⟨b,hb,e2,hk⟩:=h3;exact⟨b,hb,by rw[<-Dp _ hb,e2,e],hk⟩
 .obtain⟨w,hw⟩:=aCF h1 h2 hr hi hp j;have:=kV h1 h2 (hq v (h1.fr _ _ j).2) (.inl ⟨u,j,hw⟩)
  rw[this];exact hw
end
def atN(l:List Int)(i:Nat):Nat:=(l.getD i 0).toNat
theorem jN{l:List Int}{n i:Nat}(hr:∀x∈l,0<=x/\x<n)(hi:i<l.length):((atN l i:Nat):Int)=l.getD i 0/\atN l i<n:=by
 have:=hr _ (aR (d:=0) hi)
 unfold atN;omega
theorem aBz{l:List Int}{n i j:Nat}(hn:l.Nodup)(hr:∀x∈l,0<=x/\x<n)(hi:i<l.length)(hj:j<l.length)(e:atN l i=atN l j):i=j:=by
 have h1:=jN hr hi;have h2:=jN hr hj;exact mO hn hi hj (by rw[<-h1.1,<-h2.1,e])
theorem vF{l h:List Int}{i:Nat}(hi:i<l.length):atN (byK l h l.length) i=atN h (atN l i):=by
 unfold atN;rw[nC hi]
structure Stp (l r g h:Gr) (m n:Mo) (KN KE FN FE:Nat->Nat->Prop):Prop where
 em:Emb l g m
 en:Emb r h n
 ln:Lyr l.nodes.length r.nodes.length g.nodes.length h.nodes.length (atN m.nodes) (atN n.nodes) KN FN
 le:Lyr l.edges.length r.edges.length g.edges.length h.edges.length (atN m.edges) (atN n.edges) KE FE
 ty:∀b c,FN b c->g.nodes.getD b 0=h.nodes.getD c 0
 te:∀e f,FE e f->(g.edges.getD e default).ty=(h.edges.getD f default).ty/\FN (g.edges.getD e default).fr.toNat (h.edges.getD f default).fr.toNat/\FN (g.edges.getD e default).to.toNat (h.edges.getD f default).to.toNat
theorem Stp.symm{l r g h:Gr}{m n:Mo}{KN KE FN FE:Nat->Nat->Prop}(s:Stp l r g h m n KN KE FN FE):Stp r l h g n m (fun a b=>KN b a) (fun a b=>KE b a) (fun a b=>FN b a) (fun a b=>FE b a) :=
 ⟨s.en,s.em,s.ln.symm,s.le.symm,fun b c hf=>(s.ty _ _ hf).symm,fun e f hf=>have:=s.te _ _ hf;⟨this.1.symm,this.2⟩⟩
theorem Emb.at{a b:Gr}{m:Mo}(h:Emb a b m){i:Nat}(hi:i<a.nodes.length):((atN m.nodes i:Nat):Int)=m.nodes.getD i 0/\atN m.nodes i<b.nodes.length:=jN h.vm.n (by rw[h.vm.ln];exact hi)
theorem Emb.atE{a b:Gr}{m:Mo}(h:Emb a b m){i:Nat}(hi:i<a.edges.length):((atN m.edges i:Nat):Int)=m.edges.getD i 0/\atN m.edges i<b.edges.length:=jN h.vm.e (by rw[h.vm.le];exact hi)
theorem Emb.an{a b:Gr}{m:Mo}(h:Emb a b m){i:Nat}(hi:i<a.nodes.length):b.nodes.getD (atN m.nodes i) 0=a.nodes.getD i 0:=h.vm.nt i hi
theorem Emb.ae{a b:Gr}{m:Mo}(h:Emb a b m){i:Nat}(hi:i<a.edges.length):(b.edges.getD (atN m.edges i) default).ty=(a.edges.getD i default).ty/\(b.edges.getD (atN m.edges i) default).fr.toNat=atN m.nodes (a.edges.getD i default).fr.toNat/\(b.edges.getD (atN m.edges i) default).to.toNat=atN m.nodes (a.edges.getD i default).to.toNat:=by
 have:=h.vm.et i hi
 unfold atN;rw[this];exact⟨rfl,rfl,rfl⟩
theorem Emb.ends{a b:Gr}{m:Mo}(h:Emb a b m){i:Nat}(hi:i<a.edges.length):(0<=(a.edges.getD i default).fr/\(a.edges.getD i default).fr.toNat<a.nodes.length)/\0<=(a.edges.getD i default).to/\(a.edges.getD i default).to.toNat<a.nodes.length:=by
 have:=aE h.vm.va _ (aR (d:=default) hi)
 omega
theorem aNP{a b:Gr}(va:vG a=0)(vb:vG b=0){f e:Nat->Nat}(fr:∀i,i<a.nodes.length->f i<b.nodes.length)(er:∀i,i<a.edges.length->e i<b.edges.length)(fi:∀i j,i<a.nodes.length->j<a.nodes.length->f i=f j->i=j)(ei:∀i j,i<a.edges.length->j<a.edges.length->e i=e j->i=j)(ft:∀i,i<a.nodes.length->b.nodes.getD (f i) 0=a.nodes.getD i 0)(et:∀i,i<a.edges.length->(b.edges.getD (e i) default).ty=(a.edges.getD i default).ty/\(b.edges.getD (e i) default).fr.toNat=f (a.edges.getD i default).fr.toNat/\(b.edges.getD (e i) default).to.toNat=f (a.edges.getD i default).to.toNat):
  ∃q,Emb a b q/\(∀i,i<a.nodes.length->atN q.nodes i=f i)/\∀i,i<a.edges.length->atN q.edges i=e i:=by
 have g1:∀(f:Nat->Nat) n i,i<n->((List.range n).map fun k=>((f k:Nat):Int)).getD i 0=f i:=fun f n i h=>by simp[h]
 have nd:∀(f:Nat->Nat) n,(∀i j,i<n->j<n->f i=f j->i=j)->((List.range n).map fun k=>((f k:Nat):Int)).Nodup:=fun f n h=>by
  rw[jI];intro i j pr hj;have nk:j<n:=by simpa using hj
  rw[g1 f n i (by omega),g1 f n j nk];intro e;have:=h i j (by omega) nk (by omega)
  omega
 refine⟨⟨(List.range a.nodes.length).map fun k=>((f k:Nat):Int),(List.range a.edges.length).map fun k=>((e k:Nat):Int)⟩,⟨oZ ⟨va,vb,by simp,by simp,fun x hx=>?_,fun x hx=>?_,fun i hi=>?_,fun i hi=>?_⟩,nd _ _ fi,nd _ _ ei⟩,fun i hi=>?_,fun i hi=>?_⟩
 .obtain⟨k,hk,rfl⟩:=bc.1 hx;have:=fr k (ay.1 hk)
  omega
 .obtain⟨k,hk,rfl⟩:=bc.1 hx;have:=er k (ay.1 hk)
  omega
 .rw[g1 f _ i hi,bz];exact ft i hi
 .have hx:=aE va _ (aR (d:=default) hi);have hy:=aE vb _ (aR (d:=default) (er i hi));obtain⟨t1,t2,t3⟩:=et i hi;simp only;rw[g1 e _ i hi,bz,g1 f _ _ (by omega),g1 f _ _ (by omega)];generalize b.edges.getD (e i) default=be at *;cases be;simp only at t1 t2 t3 hy ⊢;rw[E.mk.injEq];exact⟨t1,by omega,by omega⟩
 .unfold atN;rw[g1 f _ i hi,bz]
 .unfold atN;rw[g1 e _ i hi,bz]
theorem aNn{a b:Gr}{q q':Mo}(h:Emb a b q)(h':Emb a b q')(hn:∀i,i<a.nodes.length->atN q.nodes i=atN q'.nodes i)(he:∀i,i<a.edges.length->atN q.edges i=atN q'.edges i):q=q':=by
 have l1:=h.vm.ln;have l2:=h'.vm.ln;have l3:=h.vm.le;have l4:=h'.vm.le;have e1:q.nodes=q'.nodes:=aDm (by omega) fun j hj=>by
  rw[<-(h.at (by omega)).1,<-(h'.at (by omega)).1,hn j (by omega)]
 have e2:q.edges=q'.edges:=aDm (by omega) fun j hj=>by
  rw[<-(h.atE (by omega)).1,<-(h'.atE (by omega)).1,he j (by omega)]
 cases q;cases q'
 simp only at e1 e2;rw[e1,e2]
theorem Stp.ext{l r y x g h:Gr}{p a m n q':Mo}{KN KE JN JE FN FE:Nat->Nat->Prop}(s1:Stp l r y x p a KN KE JN JE)(s2:Stp l r g h m n KN KE FN FE)(hq:Emb y g q')(hp:pN p q'=m):
  ∃q,Emb x h q/\pN a q=n/\Stp y x g h q' q JN JE FN FE:=by
 have pn:∀b,b<l.nodes.length->atN q'.nodes (atN p.nodes b)=atN m.nodes b:=fun b hb=>by
  rw[<-hp];exact(vF (by rw[s1.em.vm.ln];exact hb)).symm
 have pe:∀b,b<l.edges.length->atN q'.edges (atN p.edges b)=atN m.edges b:=fun b hb=>by
  rw[<-hp];exact(vF (by rw[s1.em.vm.le];exact hb)).symm
 have rn:∀u,u<y.nodes.length->atN q'.nodes u<g.nodes.length:=fun u hu=>(hq.at hu).2
 have re:∀u,u<y.edges.length->atN q'.edges u<g.edges.length:=fun u hu=>(hq.atE hu).2
 have jn:∀u u',u<y.nodes.length->u'<y.nodes.length->atN q'.nodes u=atN q'.nodes u'->u=u':=fun u u' hu wj e=>aBz hq.n hq.vm.n (by rw[hq.vm.ln];exact hu) (by rw[hq.vm.ln];exact wj) e
 have je:∀u u',u<y.edges.length->u'<y.edges.length->atN q'.edges u=atN q'.edges u'->u=u':=fun u u' hu wj e=>aBz hq.e hq.vm.e (by rw[hq.vm.le];exact hu) (by rw[hq.vm.le];exact wj) e
 have exN:∀v,v<x.nodes.length->∃w,uT r.nodes.length (atN a.nodes) (atN n.nodes) (atN q'.nodes) KN JN FN v w:=fun v hv=>aFp s1.ln s2.ln rn jn pn hv
 have exE:∀v,v<x.edges.length->∃w,uT r.edges.length (atN a.edges) (atN n.edges) (atN q'.edges) KE JE FE v w:=fun v hv=>aFp s1.le s2.le re je pe hv
 obtain⟨f,hf⟩:∃f:Nat->Nat,∀v,v<x.nodes.length->uT r.nodes.length (atN a.nodes) (atN n.nodes) (atN q'.nodes) KN JN FN v (f v):=by
  classical
  exact⟨fun v=>if hv:v<x.nodes.length then Classical.choose (exN v hv) else 0,fun v hv=>by simp only[hv,gx];exact Classical.choose_spec (exN v hv)⟩
 obtain⟨e,he⟩:∃e:Nat->Nat,∀v,v<x.edges.length->uT r.edges.length (atN a.edges) (atN n.edges) (atN q'.edges) KE JE FE v (e v):=by
  classical
  exact⟨fun v=>if hv:v<x.edges.length then Classical.choose (exE v hv) else 0,fun v hv=>by simp only[hv,gx];exact Classical.choose_spec (exE v hv)⟩
 have ln:=aDo s1.ln s2.ln rn jn pn hf;have le:=aDo s1.le s2.le re je pe he;have fa:∀b,b<r.nodes.length->f (atN a.nodes b)=atN n.nodes b:=fun b hb=>kV s1.ln s2.ln (hf _ (s1.ln.nr' _ hb)) (aB9 s1.ln s2.ln pn hb)
 have ea:∀b,b<r.edges.length->e (atN a.edges b)=atN n.edges b:=fun b hb=>kV s1.le s2.le (he _ (s1.le.nr' _ hb)) (aB9 s1.le s2.le pe hb)
 obtain⟨q,q1,q2,q3⟩:=aNP (a:=x) (b:=h) (f:=f) (e:=e) s1.en.vm.vb s2.en.vm.vb ln.nr' le.nr' ln.ni le.ni (fun v hv=>by
   rcases hf v hv with ⟨u,j,k⟩|⟨b,hb,e1,_,e2⟩
   .rw[<-s2.ty _ _ k,<-s1.ty _ _ j];exact hq.an (s1.ln.fr _ _ j).1
   .rw[<-e2,<-e1,s2.en.an hb,s1.en.an hb]) (fun v hv=>by
   rcases he v hv with ⟨u,j,k⟩|⟨b,hb,e1,_,e2⟩
   .obtain⟨j1,j2,j3⟩:=s1.te _ _ j;obtain⟨k1,k2,k3⟩:=s2.te _ _ k;have hu:=(s1.le.fr _ _ j).1;obtain⟨a1,a2,a3⟩:=hq.ae hu;rw[a2] at k2;rw[a3] at k3;refine⟨by rw[<-k1,a1,j1],?_,?_⟩
    .exact kV s1.ln s2.ln (.inl ⟨_,j2,k2⟩) (hf _ (s1.ln.fr _ _ j2).2)
    .exact kV s1.ln s2.ln (.inl ⟨_,j3,k3⟩) (hf _ (s1.ln.fr _ _ j3).2)
   .obtain⟨a1,a2,a3⟩:=s1.en.ae hb;obtain⟨b1,b2,b3⟩:=s2.en.ae hb;obtain⟨c1,c2⟩:=s1.en.ends hb;rw[<-e2,<-e1,a1,a2,a3,b1,b2,b3,fa _ c1.2,fa _ c2.2];exact⟨rfl,rfl,rfl⟩)
 have hc:pN a q=n:=aNn (s1.en.comp q1) s2.en (fun i hi=>by
   show atN (byK a.nodes q.nodes a.nodes.length) i=_
   rw[vF (by rw[s1.en.vm.ln];exact hi),q2 _ (s1.ln.nr' _ hi),fa _ hi]) (fun i hi=>by
   show atN (byK a.edges q.edges a.edges.length) i=_
   rw[vF (by rw[s1.en.vm.le];exact hi),q3 _ (s1.le.nr' _ hi),ea _ hi])
 have cong:∀{n1 n2 n3 n4:Nat} {m f f':Nat->Nat} {K F:Nat->Nat->Prop},Lyr n1 n2 n3 n4 m f K F->(∀i,i<n2->f' i=f i)->Lyr n1 n2 n3 n4 m f' K F:=fun h e =>
  ⟨h.f1,h.f2,h.d,fun c hc=>by
   rw[h.r c hc];exact not_congr <| exists_congr fun a=>and_congr_right fun ha=>by rw[e a ha],fun a a' k=>by rw[e _ (h.kr _ _ k).2];exact h.k _ _ k,h.fr,h.kr,h.mr,fun a ha=>by rw[e a ha];exact h.nr' a ha,h.mi,fun a a' ha xi k=>by rw[e a ha,e a' xi] at k;exact h.ni _ _ ha xi k⟩
 exact⟨q,q1,hc,hq,q1,cong ln q2,cong le q3,s2.ty,s2.te⟩
theorem aDf{n nr na:Nat}{images keep:List Int}{i:Nat->Nat}(hl:images.length=nr)(hr:∀x∈images,0<=x/\x<n)(hk:∀a,a<nr->((a:Int)∈keep↔∃j,j<na/\i j=a)):
  ∀v,v<n->((∃z,z<(gH n images keep).length/\atN (gH n images keep) z=v)↔¬∃a,a<nr/\atN images a=v/\¬∃j,j<na/\i j=a):=fun v hv=>by
 have e1:(∃z,z<(gH n images keep).length/\atN (gH n images keep) z=v)↔(v:Int)∈gH n images keep:=by
  constructor
  .rintro⟨z,z1,z2⟩;have h1:=aR (d:=0) z1;have h2:=(eC.1 h1).1;have:(v:Int)=(gH n images keep).getD z 0:=by rw[<-z2];unfold atN;omega
   rw[this];exact h1
  .intro h;obtain⟨z,z1,z2⟩:=eR h;exact⟨z,z1,by unfold atN;rw[z2];rfl⟩
 rw[e1,eC];constructor
 .rintro⟨_,h⟩ ⟨a,a1,a2,a3⟩;refine h (oS.2 ⟨a,by omega,fun hc=>a3 ((hk a a1).1 hc),?_⟩);have:=hr _ (aR (d:=0) (show a<images.length by omega))
  rw[<-a2];unfold atN;omega
 .intro h;refine⟨⟨by omega,by omega⟩,fun hg=>?_⟩;obtain⟨a,a1,a2,a3⟩:=oS.1 hg;exact h ⟨a,by omega,by unfold atN;rw[a3];rfl,fun hc=>a2 ((hk a (by omega)).2 hc)⟩
theorem aJK{a0 r:Gr}{i:Mo}(hi:Emb a0 r i):(∀a,a<r.nodes.length->((a:Int)∈(zJ r i).nodes↔∃j,j<a0.nodes.length/\atN i.nodes j=a))/\∀a,a<r.edges.length->((a:Int)∈(zJ r i).edges↔∃j,j<a0.edges.length/\atN i.edges j=a):=by
 have key:∀(l:List Int) (n m:Nat),l.length=m->(∀x∈l,0<=x/\x<n)->∀a,a<n->((a:Int)∈mJ l n↔∃j,j<m/\atN l j=a):=fun l n m hl hr a ha=>by
  rw[jD];constructor
  .rintro⟨h,_⟩;obtain⟨j,j1,j2⟩:=eR h;exact⟨j,by omega,by unfold atN;rw[j2];rfl⟩
  .rintro⟨j,j1,j2⟩;have h1:=aR (d:=0) (show j<l.length by omega);have h2:=hr _ h1;have:(a:Int)=l.getD j 0:=by rw[<-j2];unfold atN;omega
   rw[this];exact⟨h1,by omega,by omega⟩
 exact⟨key _ _ _ hi.vm.ln hi.vm.n,key _ _ _ hi.vm.le hi.vm.e⟩
def gwN(ns cs:List Int)(i:Nat):List Int:=((cs.take i).drop 1).foldl (fun s c=>if c % 2=1 then s++[c / 2 % 3] else s) ns
def gwE(n:Nat)(es:List E)(cs:List Int)(i:Nat):List E:=((cs.take i).drop 4).foldl (fun s c=>s++[⟨c % 2,c / 2 % n,c / 16 % n⟩]) es
theorem zZ{l:List Int}{i k:Nat}(h:i<l.length)(hk:k<=i):(l.take (i+1)).drop k=(l.take i).drop k++[l[i]]:=by
 rw[ah h,List.drop_append_of_le_length (by simp;omega)]
theorem aIM{ns cs:List Int}{i:Nat}(h:i<cs.length)(h1:1<=i):gwN ns cs (i+1)=if cs[i] % 2=1 then gwN ns cs i++[cs[i] / 2 % 3] else gwN ns cs i:=by
 rw[gwN,zZ h h1,ek];rfl
theorem aJ4{n:Nat}{es:List E}{cs:List Int}{i:Nat}(h:i<cs.length)(h1:4<=i):gwE n es cs (i+1)=gwE n es cs i++[⟨cs[i] % 2,cs[i] / 2 % n,cs[i] / 16 % n⟩]:=by
 rw[gwE,zZ h h1,ek];rfl
def gwG(g:Gr)(cs:List Int):Gr :=
 ⟨gwN g.nodes cs (min cs.length 4),if (gwN g.nodes cs (min cs.length 4)).length=0 then g.edges else gwE (gwN g.nodes cs (min cs.length 4)).length g.edges cs (min cs.length 8)⟩
def mkL(b:Nat->Bool)(n:Nat):List Int:=((List.range n).filter b).map fun (k:Nat)=>(k:Int)
theorem vL{b:Nat->Bool}{n:Nat}{x:Int}:x∈mkL b n↔∃k:Nat,k<n/\b k=true/\(k:Int)=x:=by
 simp only[mkL,bc,ce,ay];constructor
 .rintro⟨k,⟨h1,h2⟩,h3⟩;exact⟨k,h1,h2,h3⟩
 .rintro⟨k,h1,h2,h3⟩;exact⟨k,⟨h1,h2⟩,h3⟩
theorem aH7(b:Nat->Bool)(n:Nat):(mkL b n).Pairwise (· < ·):=by
 unfold mkL;rw[List.pairwise_map];refine List.Pairwise.filter _ (List.Pairwise.imp (R:=(· < ·)) (fun h=>by omega) gj)
def lsN(g:Gr)(bn be:Nat->Bool)(i k:Nat):Bool:=bn k||(List.range i).any fun (j:Nat)=>be j&&(decide ((g.edges.getD j default).fr=(k:Int))||decide ((g.edges.getD j default).to=(k:Int)))
def aQp(g:Gr)(bn be:Nat->Bool):Mo:=⟨mkL (lsN g bn be g.edges.length) g.nodes.length,mkL be g.edges.length⟩
theorem aKU{g:Gr}{bn be:Nat->Bool}(hv:vG g=0):VP g (aQp g bn be):=by
 refine⟨hv,fun x hx=>?_,fun x hx=>?_,jO (aH7 _ _),jO (aH7 _ _),fun x hx=>?_⟩
 .obtain⟨k,hk,_,rfl⟩:=vL.1 hx;omega
 .obtain⟨k,hk,_,rfl⟩:=vL.1 hx;omega
 .obtain⟨k,hk,hb,rfl⟩:=vL.1 hx;obtain⟨b1,b2,b3,b4⟩:=aE hv (g.edges.getD k default) (aR hk);have key:∀y:Int,0<=y->y<g.nodes.length->((g.edges.getD k default).fr=y∨(g.edges.getD k default).to=y)->y∈mkL (lsN g bn be g.edges.length) g.nodes.length:=fun y h0 h1 h=>by
   refine vL.2 ⟨y.toNat,by omega,?_,by omega⟩;unfold lsN;rw[d9,dy];refine .inr ⟨k,ay.2 hk,?_⟩;rw[hb,show ((y.toNat:Nat):Int)=y by omega];simpa using h
  rw[bz];exact⟨key _ b1 b2 (.inl rfl),key _ b3 b4 (.inr rfl)⟩
structure Gw (l g:Gr) (n m:Nat):Prop where
 ex:∃T U,g.nodes=l.nodes++T/\g.edges=l.edges++U/\T.length<=n/\U.length<=m/\(∀a∈T,0<=a/\a<3)/\∀e∈U,(0<=e.ty/\e.ty<2)/\(0<=e.fr/\e.fr<g.nodes.length)/\0<=e.to/\e.to<g.nodes.length
theorem Gw.refl(l:Gr):Gw l l 0 0:=⟨[],[],by simp,by simp,by simp,by simp,by simp,by simp⟩
theorem Gw.mono{l g:Gr}{n m n' m':Nat}(h:Gw l g n m)(h1:n<=n')(h2:m<=m'):Gw l g n' m':=by
 obtain⟨T,U,k1,k2,k3,k4,k5,k6⟩:=h.ex;exact⟨T,U,k1,k2,by omega,by omega,k5,k6⟩
theorem Gw.len{l g:Gr}{n m:Nat}(h:Gw l g n m):l.nodes.length<=g.nodes.length/\g.nodes.length<=l.nodes.length+n/\g.edges.length<=l.edges.length+m:=by
 obtain⟨T,U,k1,k2,k3,k4,k5,k6⟩:=h.ex;rw[k1,k2,am,am];omega
theorem Gw.pre{l g:Gr}{n m:Nat}(h:Gw l g n m)(hv:vG l=0)(h1:l.nodes.length+n<=40)(h2:l.edges.length+m<=80):Pre l g:=by
 have hl:=h.len;obtain⟨T,U,k1,k2,k3,k4,k5,k6⟩:=h.ex;obtain⟨v0,v1,v2⟩:=bG hv;refine⟨hv,oQ (by omega) (fun x hx=>?_) (fun e he=>?_),⟨T,k1⟩,⟨U,k2⟩⟩
 .rw[k1] at hx;rcases ap.1 hx with hx|hx
  .exact v1 x hx
  .have:=k5 x hx
   exact aA6 this.1 (by omega)
 .rw[k2] at he;rcases ap.1 he with he|he
  .have:=v2 e he
   rw[fL] at this ⊢;exact⟨this.1,by omega,by omega⟩
  .obtain⟨t1,t2,t3⟩:=k6 e he;rw[fL];exact⟨aA6 t1.1 (by omega),t2,t3⟩
structure InK (g:Gr):Prop where
 n:∀a∈g.nodes,0<=a/\a<3
 e:∀x∈g.edges,0<=x.ty/\x.ty<2
theorem aIT(x:Dr):InK (iW x):=by
 refine⟨fun a ha=>?_,fun e he=>?_⟩
 .simp only[iW,mN,bc] at ha;obtain⟨k,hk,rfl⟩:=ha;omega
 .simp only[iW] at he;split at he
  .simp at he
  .simp only[mE,bc] at he;obtain⟨k,hk,rfl⟩:=he;simp only;omega
theorem aJS(ns cs:List Int):∀i,∃T,gwN ns cs i=ns++T/\T.length<=i/\∀a∈T,0<=a/\a<3
 | 0=>⟨[],by simp[gwN],by simp,by simp⟩
 | i+1=>by
  obtain⟨T,h1,h2,h3⟩:=aJS ns cs i;by_cases h:i<cs.length
  .by_cases h0:1<=i
   .rw[aIM h h0];split
    .refine⟨T++[cs[i] / 2 % 3],by rw[h1,cw],by simp;omega,fun a ha=>?_⟩;rcases ap.1 ha with ha|ha
     .exact h3 a ha
     .rw[a7.1 ha];omega
    .exact⟨T,h1,by omega,h3⟩
   .refine⟨[],?_,by simp,by simp⟩;rw[gwN,gh (by simp;omega)];simp
  .refine⟨T,?_,by omega,h3⟩;rw[<-h1];unfold gwN;rw[ak (by omega),ak (by omega)]
theorem aIy{n:Nat}(hn:0<n)(es:List E)(cs:List Int):∀i,∃U,gwE n es cs i=es++U/\U.length<=i/\∀e∈U,(0<=e.ty/\e.ty<2)/\(0<=e.fr/\e.fr<n)/\0<=e.to/\e.to<n
 | 0=>⟨[],by simp[gwE],by simp,by simp⟩
 | i+1=>by
  obtain⟨T,h1,h2,h3⟩:=aIy hn es cs i;by_cases h:i<cs.length
  .by_cases h0:4<=i
   .rw[aJ4 h h0];refine⟨T++[⟨cs[i] % 2,cs[i] / 2 % n,cs[i] / 16 % n⟩],by rw[h1,cw],by simp;omega,fun a ha=>?_⟩;rcases ap.1 ha with ha|ha
    .exact h3 a ha
    .rw[a7.1 ha];have BN:(n:Int)≠0:=by omega
     have hp:(0:Int)<n:=by omega
     exact⟨by simp only;omega,⟨Int.emod_nonneg _ BN,Int.emod_lt_of_pos _ hp⟩,Int.emod_nonneg _ BN,Int.emod_lt_of_pos _ hp⟩
   .refine⟨[],?_,by simp,by simp⟩;rw[gwE,gh (by simp;omega)];simp
  .refine⟨T,?_,by omega,h3⟩;rw[<-h1];unfold gwE;rw[ak (by omega),ak (by omega)]
theorem aNa(g:Gr)(cs:List Int):Gw g (gwG g cs) 4 8:=by
 obtain⟨T,h1,h2,h3⟩:=aJS g.nodes cs (min cs.length 4);by_cases h0:(gwN g.nodes cs (min cs.length 4)).length=0
 .refine⟨T,[],h1,?_,by omega,by simp,h3,by simp⟩;simp only[gwG,af h0,c6]
 .obtain⟨U,k1,k2,k3⟩:=aIy (show 0<(gwN g.nodes cs (min cs.length 4)).length by omega) g.edges cs (min cs.length 8);refine⟨T,U,h1,?_,by omega,by omega,h3,k3⟩;simp only[gwG,ac h0];exact k1
open Go Go.Proofs Go.ChangeShapes
open Go.Proofs.Tryz
abbrev Ch.cells(x:Ch):List D:=[.sl 1 (x.a.nodes.map fun n=>[u8 n]),.sl 3 (x.a.edges.map fun e=>[u8 e.1,u8 e.2.1,u8 e.2.2]),bytes x.b,bytes x.g,bytes x.c]
structure Dx where
 left:Dr
 keep:Int
 more:List Int
structure Dx.U8 (x:Dx):Prop where
 l:x.left.U8
 m:U8s x.more
 ml:x.more.length<=200000000000000
 nl:x.left.nodes.length<=200000000000000
 el:x.left.edges.length<=200000000000000
structure Scn where
 r:Dx
 codes:List Int
 more:List Int
structure Scn.U8 (x:Scn):Prop where
 r:x.r.U8
 c:U8s x.codes
 m:U8s x.more
 ml:x.more.length<=200000000000000
abbrev u64(n:Int):D:=.raw (.int .u64 n)
abbrev Dx.cells(x:Dx):List D:=[.sl 1 (x.left.nodes.map fun n=>[u8 n]),.sl 3 (x.left.edges.map fun e=>[u8 e.1,u8 e.2.1,u8 e.2.2]),u64 x.keep,bytes x.more]
abbrev Scn.cells(x:Scn):List D:=[.sl 1 (x.r.left.nodes.map fun n=>[u8 n]),.sl 3 (x.r.left.edges.map fun e=>[u8 e.1,u8 e.2.1,u8 e.2.2]),u64 x.r.keep,bytes x.r.more,bytes x.codes,bytes x.more]
abbrev Dx.av(x:Dx):AV:=.agg [.d (.sl 1 (x.left.nodes.map fun n=>[u8 n])),.d (.sl 3 (x.left.edges.map fun e=>[u8 e.1,u8 e.2.1,u8 e.2.2])),.d (u64 x.keep),.d (bytes x.more)]
abbrev Scn.av(x:Scn):AV:=.agg [.d (.sl 1 (x.r.left.nodes.map fun n=>[u8 n])),.d (.sl 3 (x.r.left.edges.map fun e=>[u8 e.1,u8 e.2.1,u8 e.2.2])),.d (u64 x.r.keep),.d (bytes x.r.more),.d (bytes x.codes),.d (bytes x.more)]
def aPP(S:Int)(j:Nat):Bool:=(IntKind.u64.wrap ((((S.fdiv (2 ^ min (((j:Int) % 64)).toNat IntKind.u64.bits) % 2 ^ IntKind.u64.bits).toNat &&& (1 % 2 ^ IntKind.u64.bits):Nat):Int))==1)
def Dx.dr(x:Dx):Dr:=⟨x.left.nodes.take (min x.left.nodes.length 3),x.left.edges.take (min x.left.edges.length 3)⟩
def Dx.g(x:Dx):Gr:=iW x.dr
def aSw(g:Gr)(S:Int):Mo:=aQp g (aPP S) (fun j=>aPP S (g.nodes.length+j))
def Dx.k(x:Dx):Mo:=aSw x.g x.keep
def Dx.cs(x:Dx):List Int:=255::x.more.take (min x.more.length 6)
def Dx.right(x:Dx):Gr:=gwG (exG x.g x.k) x.cs
def Dx.sp(x:Dx):Sp:=⟨x.g,x.right,x.k,idM (exG x.g x.k)⟩
def scS(g:Gr)(a b c:Int):Gr :=
 ⟨if a % 2=0 then g.nodes++[b % 3] else g.nodes,if 0<(if a % 2=0 then g.nodes++[b % 3] else g.nodes).length/\0<a % 3 then g.edges++[⟨a / 8 % 2,b / 4 % (if a % 2=0 then g.nodes++[b % 3] else g.nodes).length,c % (if a % 2=0 then g.nodes++[b % 3] else g.nodes).length⟩] else g.edges⟩
def scK(g:Gr)(cs:List Int):Nat->Gr
 | 0=>g
 | j+1=>scS (scK g cs j) (cs.getD (3*j) 0) (cs.getD (3*j+1) 0) (cs.getD (3*j+2) 0)
def scN(cs:List Int):Nat:=min 3 (cs.length / 3)
def Scn.g(x:Scn):Gr:=scK x.r.g x.more (scN x.more)
structure Dx.Ok (x:Dx):Prop where
 v:vG x.g=0
 i:InK x.g
 n:x.g.nodes.length<=3
 e:x.g.edges.length<=3
 k:VP x.g x.k
 w:Gw (exG x.g x.k) x.right 4 8
theorem Dx.U8.dr{x:Dx}(h:x.U8):x.dr.U8:=⟨fun k hk=>h.l.n k (bt hk),fun k hk=>h.l.e k (bt hk)⟩
theorem Dx.U8.cs{x:Dx}(h:x.U8):U8s x.cs:=fun k hk=>by
 rcases ca.1 hk with rfl|hk
 .exact⟨by decide,by decide⟩
 .exact h.m k (bt hk)
theorem Dx.ok{x:Dx}(h:x.U8):x.Ok:=by
 have hv:=aDw h.dr;have hl:x.g.nodes.length<=3/\x.g.edges.length<=3:=by
  refine⟨by simp only[Dx.g,Dx.dr,iW,aEU,cj];omega,?_⟩;have hl:x.dr.edges.length<=3:=by simp only[Dx.dr,cj];omega
  simp only[Dx.g,iW];by_cases h0:x.dr.nodes.length=0
  .rw[af h0];simp
  .rw[ac h0];simp only[aIZ];omega
 exact⟨hv,aIT _,hl.1,hl.2,aKU hv,aNa _ _⟩
end Go.AM
namespace Go.Proofs
open Go.Shelf
open Go.Proofs.Tryz
def Tryz.lays171_ren:Go.Shelf.Ren:=⟨fun|171=>87|243=>135|246=>200|283=>258|284=>259|285=>260|286=>261|129=>290|317=>289|318=>291|319=>292|320=>293|337=>323|338=>324|n=>n,fun|3=>3|9=>9|2=>2|4=>4|171=>299|0=>0|53=>129|37=>74|5=>5|173=>302|212=>328|51=>321|20=>20|213=>329|46=>238|232=>358|233=>359|n=>n,fun|17=>0|18=>1|19=>2|n=>n⟩
theorem Tryz.lays171:Go.Proofs.Lays.n171 prog Tryz.lays171_ren:={
 mixed:=by kernel_rfl
 f129:=func290.trans (congrArg some (by kernel_rfl))
 f171:=func87.trans (congrArg some (by kernel_rfl))
 f243:=func135.trans (congrArg some (by kernel_rfl))
 f246:=func200.trans (congrArg some (by kernel_rfl))
 f283:=func258.trans (congrArg some (by kernel_rfl))
 f284:=func259.trans (congrArg some (by kernel_rfl))
 f285:=func260.trans (congrArg some (by kernel_rfl))
 f286:=func261.trans (congrArg some (by kernel_rfl))
 f317:=func289.trans (congrArg some (by kernel_rfl))
 f318:=func291.trans (congrArg some (by kernel_rfl))
 f319:=func292.trans (congrArg some (by kernel_rfl))
 f320:=func293.trans (congrArg some (by kernel_rfl))
 f337:=func323.trans (congrArg some (by kernel_rfl))
 f338:=func324.trans (congrArg some (by kernel_rfl))
 t0:=underlying0
 a0:=isAgg0
 z0:=sizeOf0
 v0:=zeroValue0
 t2:=underlying2
 a2:=isAgg2
 z2:=sizeOf2
 v2:=zeroValue2
 t3:=underlying3
 a3:=isAgg3
 z3:=sizeOf3
 v3:=zeroValue3
 t4:=underlying4
 a4:=isAgg4
 z4:=sizeOf4
 v4:=zeroValue4
 t5:=underlying5
 a5:=isAgg5
 z5:=sizeOf5
 v5:=zeroValue5
 t9:=underlying9
 a9:=isAgg9
 z9:=sizeOf9
 v9:=zeroValue9
 t20:=underlying20
 a20:=isAgg20
 z20:=sizeOf20
 v20:=zeroValue20
 t37:=underlying74
 a37:=isAgg74
 z37:=sizeOf74
 v37:=zeroValue74
 t46:=underlying238
 a46:=isAgg238
 z46:=sizeOf238
 v46:=zeroValue238
 t51:=underlying321
 a51:=isAgg321
 z51:=sizeOf321
 v51:=zeroValue321
 t53:=underlying129
 a53:=isAgg129
 z53:=sizeOf129
 v53:=zeroValue129
 t171:=underlying299
 a171:=isAgg299
 z171:=sizeOf299
 v171:=zeroValue299
 t173:=underlying302
 a173:=isAgg302
 z173:=sizeOf302
 v173:=zeroValue302
 t212:=underlying328
 a212:=isAgg328
 z212:=sizeOf328
 v212:=zeroValue328
 t213:=underlying329
 a213:=isAgg329
 z213:=sizeOf329
 t232:=underlying358
 a232:=isAgg358
 z232:=sizeOf358
 v232:=zeroValue358
 t233:=underlying359
 a233:=isAgg359
 z233:=sizeOf359
 v233:=zeroValue359
 g17:=by kernel_rfl
 g18:=by kernel_rfl
 g19:=by kernel_rfl }
open Go.RowKit Go.Sort Go.Lib in
theorem Tryz.strconv_Itoa_small(i:Nat)(hi:i<100)(w:World):
  Calls prog 87 #[.int .i64 i] w fun e w'=>e=.returned (.string ⟨(Lib.decDigits i).toArray⟩)/\w'=w:=Any.strconv_Itoa_small Tryz.lays171 i hi w
end Go.Proofs
namespace Go.AM
open Go Go.Proofs
open Go.Proofs.Tryz
def dgB(i:Nat):ByteArray:=⟨(Lib.decDigits i).toArray⟩
theorem aLB(i:Nat)(h:i<100):DC 87 [I i] (Sb (dgB i)):=by
 intro tok nt box nb;refine⟨iC.mk func87 rfl (by kernel_rfl),fun G w vals hm hr=>?_⟩;obtain⟨hlen,ql⟩:=hr
 match vals,hlen with
 | [v],_ =>
  have h0:=ql 0 (by simp) (by simp);simp only[ck] at h0;cases h0 with|d h0 =>
  cases h0;refine(Tryz.strconv_Itoa_small i h w).mono ?_;rintro e w' ⟨rfl,rfl⟩;exact⟨_,_,_,G,rfl,⟨rfl,rfl⟩,rfl,hm,.d (.raw rfl),Le.refl _ _,fun k hk=>⟨hk,rfl⟩⟩
variable {P:Program}
def aLI(P:Program)(T E:TypeId)(x i:Operand)(d1 d2:Tmp)(K:AS->Prop)(S:AS):Prop:=match S.ev x,S.ev i with
 | .stk t sz es,.d (.raw (.int k q))=>match es[q.toNat]? with
  | some [.raw v]=>0<=q/\S.tok t=true/\K ⟨bX (bX S.tmps (some d1) .bot) (some d2) (.d (.raw v)),S.box,S.tok,S.nt⟩
  | _=>False
 | _,_=>False
theorem aK1{base:Nat}{o:Oper}{G:Gh}{box:Bxs}(h:lU o.op=false):pG P base o G box:=by
 unfold pG;split
 .rename_i h1 _;rw[h1] at h;cases h
 .trivial
theorem Op1.mono{cx:Cx}{o:Oper}{S:AS}{K K':AS->Prop}(hk:∀S,K S->K' S)(h:Op1 P cx o S K):Op1 P cx o S K':=by
 unfold Op1 at h ⊢;split at h
 .exact h.mono fun _ _ q=>hk _ q
 .rcases h with ⟨S1,a,b⟩|⟨t,es,a,b⟩
  .exact .inl ⟨S1,a,hk _ b⟩
  .exact .inr ⟨t,es,a,fun x y=>hk _ (b x y)⟩
theorem mI.mono{cx:Cx}{ops:Array Oper}{K K':AS->Prop}(hk:∀S,K S->K' S):∀(l:List Oper) (S:AS),mI P cx ops l S K->mI P cx ops l S K'
 | [],S,h=>hk S h
 | o::r,S,h=>by
  unfold mI at h ⊢;split at h
  .exact h.mono fun S1 q=>mI.mono hk r S1 q
  .split at h
   .exact⟨fun e=>(h.1 e).mono fun S1 q=>mI.mono hk r S1 q,fun e=>mI.mono hk r _ (h.2 e)⟩
   .exact h
theorem aLI.mono{T E:TypeId}{x i:Operand}{d1 d2:Tmp}{K K':AS->Prop}(hk:∀S,K S->K' S){S:AS}(h:aLI P T E x i d1 d2 K S):aLI P T E x i d1 d2 K' S:=by
 unfold aLI at h ⊢;split at h
 .split at h
  .exact⟨h.1,h.2.1,hk _ h.2.2⟩
  .exact h
 .exact h
theorem tV{ops ops':Array Oper}{Q:Exit->Act->World->Prop}{l2:List Nat}:∀(l:List Nat),(∀i∈l,∃o,ops[i]?=some o/\ops'[i]?=some o/\∀tm,Region.wanted o (yielded ops' tm)=Region.wanted o (yielded ops tm))->∀(a:Act) (w:World),
  wpOps P ops' (fun e a w=>match e with|.normal=>wpOps P ops Q l2 a w|e=>Q e a w) l a w->wpOps P ops Q (l++l2) a w
 | [],_,a,w,h=>h
 | i::l,hl,a,w,h=>by
  obtain⟨o,h1,h2,h3⟩:=hl i (by simp);have ih:=tV (Q:=Q) (l2:=l2) l fun j hj=>hl j (by simp[hj])
  rw[gp];unfold wpOps at h ⊢;rw[h2] at h;rw[h1];simp only at h ⊢;rw[h3] at h;have qh:LetsOut (fun e a w=>match e with|.normal=>wpOps P ops Q l2 a w|e=>Q e a w)->LetsOut Q:=fun ⟨a,w,h⟩=>⟨a,w,h⟩
  split at h
  .rename_i hw;rw[af hw];rcases h with h|⟨h,k⟩
   .left;unfold Oper.wp at h ⊢;generalize (execOp a.eval o).run P w=r at *;cases r with
    | ok n w' =>
     cases n<;>simp only[Oper.upon] at h ⊢ <;>
      first
       | exact ih _ _ h
       | exact Calls.mono h (fun e w'' he=>by cases e<;>first|exact ih _ _ he|exact qh he|exact he)
       | exact Rows.mono h (fun _ _ he=>ih _ _ he)
    | halt x w'=>cases x<;>simp only[Oper.upon] at h ⊢<;>first|exact h|exact qh h
   .exact .inr ⟨h,qh k⟩
  .rename_i hw;rw[ac hw];exact ih _ _ h
def Seg(P:Program)(cx:Cx)(ops:Array Oper)(k:Nat)(K:AS->Prop)(S:AS):Prop:=∀(G0:Gh) (w0:World) (Q:Exit->Act->World->Prop),(∀S a w G,K S->cS cx.n cx.nb G S a w->LeC cx G0 w0 G w S->Q .normal a w) ->
 ∀G a w,cS cx.n cx.nb G S a w->LeC cx G0 w0 G w S->wpOps P ops Q (List.range' k (ops.size-k)) a w
def aOP(ops:Array Oper):Bool:=ops.toList.all fun o=>!lU o.op
theorem aHb{ops:Array Oper}(h:aOP ops=true){o:Oper}(ho:o∈ops):lU o.op=false:=by
 have:=aq.1 h o (by simpa using ho)
 simpa using this
theorem aAN{n:Nat}{ops:Array Oper}(h:iP n ops false=true):eZ ops=true/\nQ n ops=true:=by
 simpa[iP] using h
def aSX(ops:Array Oper)(p:Nat):Bool:=(ops.toList.take p).all fun o=>match o.guard with|none=>true|some (j,_)=>decide (j<p)
theorem Seg.pre{cx:Cx}{ops:Array Oper}{k:Nat}{K:AS->Prop}{S:AS}(p:Nat)(C6:k<=p)(CW:p<=ops.size)(j8:cx.base+cx.n<=cx.nb)(ia:iP cx.n (ops.extract 0 p) false=true)(Ec:aOP ops=true)(hg:aSX ops p=true){ops':Array Oper}{mid:List Oper}(hx:ops.extract 0 p=ops')(hm:ops'.toList.drop k=mid)(h:kU P cx ops' false mid (Seg P cx ops p K) S):Seg P cx ops k K S:=by
 subst hx hm;intro G0 w0 Q hQ G a w hr hl;have zp:List.range' k (ops.size-k)=List.range' k (p-k)++List.range' p (ops.size-p):=by
  rw[show ops.size-k=(p-k)+(ops.size-p) by omega,<-List.range'_append_1,show k+(p-k)=p by omega]
 rw[zp];have yd:∀j,j<p->(ops.extract 0 p)[j]?=ops[j]?:=fun j hj=>by
  rw[Array.getElem?_extract];have:j<min p ops.size:=by omega
  simp[this]
 refine tV (ops':=ops.extract 0 p) (List.range' k (p-k)) (fun j hj=>?_) a w ?_
 .have nk:j<p:=by simp at hj;omega
  have qr:j<ops.size:=by omega
  refine⟨ops[j],by simp[qr],by rw[yd j nk];simp[qr],fun tm=>?_⟩;have h5:=aq.1 hg ops[j] (by rw[cc];exact⟨j,by simp;omega,by simp⟩);unfold Region.wanted;cases Ed:ops[j].guard with
  | none=>rfl
  | some g =>
   obtain⟨q,want⟩:=g;rw[Ed] at h5;have hq:q<p:=by simpa using h5
   simp only;unfold yielded;rw[yd q hq]
 have jg:∀o,o∈(ops.extract 0 p).toList.drop k->o∈ops:=fun o ho=>by
  have:=cu ho
  rw[Array.toList_extract,List.extract_eq_take_drop] at this;simpa using bt this
 have:=pZ (ops:=ops.extract 0 p) (G0:=G0) (w0:=w0) (K:=Seg P cx ops p K) (Q:=fun e a' w'=>match e with|.normal=>wpOps P ops Q (List.range' p (ops.size-p)) a' w'|e=>Q e a' w')
  (lK (aAN ia).2) j8 (aAN ia).1 (fun S1 a1 w1 G1 hK ry mo=>hK G0 w0 Q hQ G1 a1 w1 ry mo) ((ops.extract 0 p).toList.drop k) k S a w G rfl (fun o ho=>aK1 (aHb Ec (jg o ho))) hr hl (fF _ _ h)
 have hlen:((ops.extract 0 p).toList.drop k).length=p-k:=by simp;omega
 rw[hlen] at this;exact this
variable {P:Program}
theorem aV.conv{R:AV->AV->Prop}{G G':Gh}{w w':World}{base nb nt nt':Nat}{out:Bxs}{loc loc':List (Nat × List (List AV))}{tok tok':Nat->Bool}(hm:aV G ⟨lb base out loc,nb,tok,nt⟩ w)(mb:aV G' ⟨lb base out loc,nb,tok',nt'⟩ w')(n5:G'.bx=G.bx)(hto:∀x y v,R x y->RV G w x v->RV G' w' y v)(hh:∀b,G.kind b=.box->w'.heap[b]?=w.heap[b]?)(hb:CvB R loc loc'):
  aV G' ⟨lb base out loc',nb,tok',nt'⟩ w':=by
 constructor
 case box =>
  intro k rows b z hk oz;simp only at hk;by_cases jb:k<base
  .rw[lO jb] at hk;exact mb.box k rows b z (by simp only;rw[lO jb];exact hk) oz
  .have jd:k=base+(k-base):=by omega
   rw[jd,aQ] at hk;rcases hb.at (k-base) with ⟨_,h2⟩|⟨r0,r',h1,h2,h3⟩
   .rw[h2] at hk;cases hk
   .rw[h2] at hk;cases hk;obtain⟨g0,cs,e,g2,g3,g4,g5⟩:=hm.box k r0 b z (by simp only;rw[jd,aQ];exact h1) (by rw[<-n5];exact oz);obtain⟨g1,_⟩:=mb.box k r0 b z (by simp only;rw[jd,aQ];exact h1) oz;refine⟨g1,cs,e,(hh b g0).trans g2,fun q hq=>?_,⟨h3.flat.1.symm.trans g4.1,fun i h1 h2=>hto _ _ _ (h3.flat.2 i (by rw[h3.flat.1];exact h1) h1) (g4.2 i _ h2)⟩,g5⟩;obtain⟨i,hi,rfl⟩:=bf hq;have r7:i<r0.length:=by rw[h3.1];exact hi
    rw[<-(h3.2 i r7 hi).1];exact g3 _ (aa _)
 case nobox =>
  intro k hk;refine mb.nobox k ?_;simp only at hk ⊢;by_cases jb:k<base
  .rw[lO jb] at hk ⊢;exact hk
  .have jd:k=base+(k-base):=by omega
   rw[jd,aQ] at hk ⊢;rcases hb.at (k-base) with ⟨h1,_⟩|⟨r0,r',_,h2,_⟩
   .exact h1
   .rw[h2] at hk;cases hk
 case inj=>exact mb.inj
 case nb =>
  intro k hk;have h0:=mb.nb k hk;simp only at h0 ⊢;by_cases jb:k<base
  .rw[lO jb] at h0 ⊢;exact h0
  .have jd:k=base+(k-base):=by omega
   rw[jd,aQ] at h0 ⊢;rcases hb.at (k-base) with ⟨_,h2⟩|⟨r0,r',h1,_,_⟩
   .exact h2
   .rw[h1] at h0;cases h0
 case nt=>exact mb.nt
 case toks=>exact mb.toks
 case tokb=>exact mb.tokb
 case tinj=>exact mb.tinj
 case tnt=>exact mb.tnt
 case glob=>exact mb.glob
 case fresh=>exact mb.fresh
def AV.mpF(t:Nat):AV->AV
 | .mp t' es=>if t'=t then .mpd (mpE es) else .mp t' es
 | x=>x
def World.setMap(w:World)(r:Nat)(en:Array MapEntry)(k:Nat):World:={ w with heap:=w.heap.setIfInBounds r (.map en k) }
theorem aCM{w:World}{r:Nat}{o:Obj}(h:w.heap[r]?=some o)(en:Array MapEntry)(k:Nat):(World.setMap w r en k).heap[r]?=some (.map en k):=by
 have:=bY h
 simp[World.setMap,this]
theorem dR{w:World}{r b:Nat}(h:b≠r)(en:Array MapEntry)(k:Nat):(World.setMap w r en k).heap[b]?=w.heap[b]?:=by
 simp[World.setMap,Ne.symm h]
theorem uC(w:World)(r:Nat)(en:Array MapEntry)(k:Nat):(World.setMap w r en k).heap.size=w.heap.size:=by simp[World.setMap]
theorem Le.setMap{G:Gh}{w:World}{r:Nat}(hk:G.kind r=.ex)(ht:∀t,G.tk t≠some (some r)){en0:Array MapEntry}{k0:Nat}(hg:w.heap[r]?=some (.map en0 k0))(en:Array MapEntry)(k:Nat):Le G w G (World.setMap w r en k) where
 os:=rfl
 tape:=rfl
 output:=rfl
 size:=by rw[uC];exact nr0 _
 whole b hb h:=⟨h,dR (fun e=>by subst e;rw[hk] at h;cases h) en k⟩
 part b f0 c0 h:=⟨⟨f0,nr0 _,h⟩,fun a ha _=>World.cell?_of_block (dR (fun e=>by
  have:G.kind r=.part f0 c0:=by rw[<-e,ha];exact h
  rw[hk] at this;cases this) en k)⟩
 bx _ _ h:=h
 nt:=nr0 _
 tk t _:=.inr ⟨rfl,fun j hj=>⟨rfl,fun _=>dR (fun e=>by subst e;exact ht t hj) en k⟩⟩
 ty b c0 T f0 hb:=⟨c0,f0,by rw[dR (fun e=>by subst e;rw[hg] at hb;cases hb) en k];exact hb⟩
theorem aV.setMap{G:Gh}{m:bH}{w:World}(h:aV G m w){r:Nat}(hk:G.kind r=.ex)(ht:∀t,G.tk t≠some (some r)){en0:Array MapEntry}{k0:Nat}(hg:w.heap[r]?=some (.map en0 k0))(en:Array MapEntry)(k:Nat):aV G m (World.setMap w r en k):=by
 have iv:=Le.setMap hk ht hg en k;constructor
 case box =>
  intro q rows b sz jd hb;obtain⟨h1,cs,e',h2,h3,h4,h5⟩:=h.box q rows b sz jd hb;exact⟨h1,cs,e',(dR (fun e=>by subst e;rw[hk] at h1;cases h1) en k).trans h2,h3,h4.mono iv,h5⟩
 case nobox=>exact h.nobox
 case inj=>exact h.inj
 case nb=>exact h.nb
 case nt=>exact h.nt
 case toks=>exact h.toks
 case tokb =>
  intro t j hj;obtain⟨f0,cur0,e0,h1,h2⟩:=h.tokb t j hj;exact⟨f0,cur0,e0,h1,(dR (fun e=>by subst e;exact ht t hj) en k).trans h2⟩
 case tinj=>exact h.tinj
 case tnt=>exact h.tnt
 case glob=>exact h.glob.mono iv.cells
 case fresh =>
  intro b hb;exact h.fresh b (by rw[uC] at hb;exact hb)
def jW(es:List (ByteArray × List (List D) × Own))(s:ByteArray)(xs:List (List D))(o:Own):List (ByteArray × List (List D) × Own):=match es.findIdx? fun e=>decide (e.1=s) with
 | some i=>es.set i (s,xs,o)
 | none=>es++[(s,xs,o)]
theorem aBi(n:Nat)(s:ByteArray):Instr.sameBits n (.string s) (.string s)=true:=by
 cases n<;>simp[Instr.sameBits,aIS]
theorem rX{w:World}{T:TypeId}{r:Nat}{en:Array MapEntry}{k:Nat}{c:Addr->Option Value}{ps:Addr->Prop}{es:List (ByteArray × List (List D))}(hT:aFf P T=true)(hb:w.heap[r]?=some (.map en k))(he:EnR c ps es en)(s:ByteArray)(v:Value):
  ∃en' k',(Instr.mapUpdate T (.map (some r)) (.string s) v).run P w=.ok () (World.setMap w r en' k')/\(match es.findIdx? fun e=>decide (e.1=s) with
   | some i=>en'.size=en.size/\(∀j (h:j<en'.size) (h2:j<en.size),j≠i->en'[j].key=en[j].key/\en'[j].val=en[j].val)/\∀h:i<en'.size,en'[i].key=.string s/\en'[i].val=v
   | none=>en'.size=en.size+1/\(∀j (h:j<en'.size) (h2:j<en.size),en'[j].key=en[j].key/\en'[j].val=en[j].val)/\∀h:en.size<en'.size,en'[en.size].key=.string s/\en'[en.size].val=v):=by
 obtain⟨kt,et,h1,h2,h3⟩:=aA8 hT;have hf:=nS s en.toList (es.map (·.1)) 0 he.keys;have hc:(Instr.checkKey false 10000 kt (.string s)).run P w=.ok () w:=MapKept.run_checkKey (k:=.string s) h2 (by simp[MapKept.IsKey]) _ 9999
 have hk:=MapKept.run_findKey (w:=w) h2 hf;rw[wT] at hk;cases hi:es.findIdx? fun e=>decide (e.1=s) with
 | none =>
  rw[hi] at hk;simp only[Option.bind_none] at hk;refine⟨en.push { key:=.string s,val:=v,born:=k },k+1,?_,by simp,fun j h h2=>?_,fun h=>by simp⟩
  .simp[Instr.mapUpdate,bp h1,MapKept.run_getObj_map hb,hc,hk,MapKept.run_setObj_map _ hb,Result.andThen,World.setMap]
  .rw[Array.getElem_push_lt h2];exact⟨rfl,rfl⟩
 | some i =>
  have hlt:i<en.size:=by
   have:=(ee.1 hi).1
   rw[he.1] at this;exact this
  have C7:en[i].key=.string s:=by
   obtain⟨g1,g2,_⟩:=ee.1 hi;rw[(he.2 i g1 hlt).1];simp at g2;rw[g2]
  rw[hi] at hk;have hg:en.toList[i]?=some en[i]:=by simp[hlt]
  simp only[fh,hg,dc,cd] at hk;refine⟨en.modify i fun e=>{ e with key:=.string s,val:=v },k,?_,by simp,fun j h h2 hne=>?_,fun h=>?_⟩
  .simp[Instr.mapUpdate,bp h1,MapKept.run_getObj_map hb,hc,hk,hlt,C7,Instr.keyThatStays,aBi,MapKept.run_setObj_map _ hb,Result.andThen,World.setMap]
  .rw[Array.getElem_modify,ac (Ne.symm hne)];exact⟨rfl,rfl⟩
  .rw[Array.getElem_modify,af rfl];exact⟨rfl,rfl⟩
def AV.mpU(t nt:Nat)(es':List (ByteArray × List (List D) × Own)):AV->AV
 | .mp t' es=>if t'=t then .mp nt es' else .mp t' es
 | x=>x
def aMP(P:Program)(cx:Cx)(o:Oper)(S:AS)(K:AS->Prop):Prop:=∀(G0:Gh) (w0:World) (Q:Act->World->Prop) (E:Exit->Act->World->Prop),(∀S a w G,K S->cS cx.n cx.nb G S a w->LeC cx G0 w0 G w S->Q a w) ->
 ∀G a w,cS cx.n cx.nb G S a w->LeC cx G0 w0 G w S->o.wp P a w Q E
theorem aMP.put{cx:Cx}{o:Oper}{K:AS->Prop}{l:List (Nat × AV)}{out:Bxs}{loc:List (Nat × List (List AV))}{tok:Nat->Bool}{nt:Nat}{T:TypeId}{m k v:Operand}(t:Nat)(es:List (ByteArray × List (List D) × Own))(s:ByteArray)(xs:List (List D))(own:Own)(ho:o.op=.mapUpdate T m k v)(hd:o.dst=none)(hT:aFf P T=true)(ht:tok t=true)(Ee:AS.ev ⟨tl l,lb cx.base out loc,tok,nt⟩ m=.mp t es)(Ef:AS.ev ⟨tl l,lb cx.base out loc,tok,nt⟩ k=.d (.raw (.string s)))(Eg:AS.ev ⟨tl l,lb cx.base out loc,tok,nt⟩ v=.osl 1 xs own)(h:K ⟨tl (l.map fun q=>(q.1,q.2.mpU t nt (jW es s xs own))),lb cx.base out (loc.map fun q=>(q.1,q.2.map fun r=>r.map (AV.mpU t nt (jW es s xs own)))),upd (upd tok t false) nt true,nt+1⟩):
  aMP P cx o ⟨tl l,lb cx.base out loc,tok,nt⟩ K:=by
 intro G0 w0 Q E hQ G a w hS hL;have hm:=hS.mem;have zq:=hS.ev m;have AE:=hS.ev k;have C8:=hS.ev v;rw[Ee] at zq;rw[Ef] at AE;rw[Eg] at C8;generalize sd:a.eval m=mx at zq;generalize Eh:a.eval k=kx at AE;generalize Ei:a.eval v=vx at C8;have qm:kx=.string s:=by cases AE with|d h=>cases h;rfl
 subst qm;cases zq with
 | mp zq =>
  obtain⟨Am,n8,r,rfl,zq⟩:=zq;obtain⟨_,x,hx⟩:=hm.toks t ht;obtain⟨rfl,vq,en,k0,hh,he,Bx⟩:=zq x hx;obtain⟨en',k',jc,qt⟩:=rX (P:=P) hT hh he s vx;have k8:=yU hm hx;have px:=hm.kill (.tok t);have ll:=Le.kill (G:=G) (w:=w) (.tok t);have uh:=px.setMap vq k8 hh en' k';have zg:=Le.setMap (G:=G.kill (.tok t)) vq k8 hh en' k';have Dq:(World.setMap w r en' k').heap[r]?=some (.map en' k'):=aCM hh en' k'
  have xy:=uh.newtok (some r) (fun g hg=>by cases hg;exact⟨k8,0, #[],_,.inr vq,Dq⟩);have lw:=Le.newtok (G:=G.kill (.tok t)) (w:=World.setMap w r en' k') (some r);have iv:=(ll.trans zg).trans lw;have rj:G.nt=nt:=hm.nt
  have Bl:RVd w.cell? G.ps (.sl 1 xs) vx/\tI G 1 xs.length own vx:=by cases C8 with|osl h1 h2=>exact⟨h1,h2⟩
  have ye:∀t',own=.tok t'->t'<G.nt:=fun t' e=>by subst e;exact Bl.2.1
  have Ej:MpR ((G.kill (.tok t)).newtok (some r)) (World.setMap w r en' k') nt (jW es s xs own) (.map (some r)):=by
   refine⟨by simp only[Gh.newtok,Gh.kill];omega,fun e B9 t' e1=>?_,r,rfl,fun y hy=>?_⟩
   .have:t'<G.nt:=by
     unfold jW at B9;split at B9
     .rcases List.mem_or_eq_of_mem_set B9 with h5|h5
      .exact n8 e h5 t' e1
      .subst h5;exact ye t' e1
     .rcases ap.1 B9 with h5|h5
      .exact n8 e h5 t' e1
      .simp at h5;subst h5;exact ye t' e1
    simp only[Gh.newtok,Gh.kill];omega
   .simp only[Gh.newtok,Gh.kill,rj,uS,ad] at hy;subst hy;refine⟨rfl,vq,en',k',Dq,?_⟩;have p9:(mpE es).findIdx? (fun e=>decide (e.1=s))=es.findIdx? fun e=>decide (e.1=s):=by
     rw[mpE,List.findIdx?_map];rfl
    rw[p9] at qt;have hsz:es.length=en.size:=by have:=he.1;simpa[mpE] using this
    cases hi:es.findIdx? fun e=>decide (e.1=s) with
    | some i =>
     rw[hi] at qt;simp only at qt;obtain⟨e1,e2,e3⟩:=qt;have hp:jW es s xs own=es.set i (s,xs,own):=by simp only[jW,hi]
     rw[hp];refine⟨⟨by simp[mpE,e1,hsz],fun j h1 h2=>?_⟩,fun j h1 h2=>?_⟩
     .have hj:j<es.length:=by simpa[mpE] using h1
      by_cases zt:j=i
      .subst zt;simp only[mpE,bl,List.getElem_set_self];exact⟨(e3 h2).1,by rw[(e3 h2).2];exact Bl.1.mono iv.cells⟩
      .simp only[mpE,bl,List.getElem_set_ne (Ne.symm zt)];obtain⟨q1,q2⟩:=e2 j h2 (by omega) zt;have:=he.2 j (by simpa[mpE] using hj) (by omega)
       simp only[mpE,bl] at this;rw[q1,q2];exact⟨this.1,this.2.mono iv.cells⟩
     .have hj:j<es.length:=by simpa using h1
      by_cases zt:j=i
      .subst zt;simp only[List.getElem_set_self];rw[(e3 h2).2];exact Bl.2.mono iv
      .simp only[List.getElem_set_ne (Ne.symm zt)];rw[(e2 j h2 (by omega) zt).2];exact(Bx j hj (by omega)).mono iv
    | none =>
     rw[hi] at qt;simp only at qt;obtain⟨e1,e2,e3⟩:=qt;have hp:jW es s xs own=es++[(s,xs,own)]:=by simp only[jW,hi]
     rw[hp];have hval:∀j (h1:j<(es++[(s,xs,own)]).length),(es++[(s,xs,own)])[j]=if h:j<es.length then es[j] else (s,xs,own):=fun j h1=>by
      by_cases h:j<es.length
      .rw[gx h,b6 h]
      .rw[dif_neg h];simp at h1;have:j=es.length:=by omega
       subst this;simp
     refine⟨⟨by simp[mpE,e1,hsz],fun j h1 h2=>?_⟩,fun j h1 h2=>?_⟩
     .simp only[mpE,bl];rw[hval j (by simpa[mpE] using h1)];by_cases h:j<es.length
      .rw[gx h];obtain⟨q1,q2⟩:=e2 j h2 (by omega);have:=he.2 j (by simpa[mpE] using h) (by omega)
       simp only[mpE,bl] at this;rw[q1,q2];exact⟨this.1,this.2.mono iv.cells⟩
      .rw[dif_neg h];have:j=en.size:=by omega
       subst this;exact⟨(e3 h2).1,by rw[(e3 h2).2];exact Bl.1.mono iv.cells⟩
     .rw[hval j h1];by_cases h:j<es.length
      .rw[gx h];rw[(e2 j h2 (by omega)).2];exact(Bx j h (by omega)).mono iv
      .rw[dif_neg h];have:j=en.size:=by omega
       subst this;rw[(e3 h2).2];exact Bl.2.mono iv
  have hto:∀x y v,y=AV.mpU t nt (jW es s xs own) x->RV G w x v->RV ((G.kill (.tok t)).newtok (some r)) (World.setMap w r en' k') y v:=fun x y v h hr=>by
   subst h;cases x with
   | mp t' es0 =>
    simp only[AV.mpU];split
    .rename_i h;subst h;cases hr with
     | mp hr =>
      obtain⟨_,_,r2,rfl,hr⟩:=hr;have:=(hr _ hx).1
      cases this;exact .mp Ej
    .exact hr.mono iv
   | _=>exact hr.mono iv
  have Ek:cS cx.n cx.nb ((G.kill (.tok t)).newtok (some r)) ⟨tl (l.map fun q=>(q.1,q.2.mpU t nt (jW es s xs own))),lb cx.base out (loc.map fun q=>(q.1,q.2.map fun r=>r.map (AV.mpU t nt (jW es s xs own)))),upd (upd tok t false) nt true,nt+1⟩ a (World.setMap w r en' k') :=
   ⟨hS.defers,hS.size,fun i=>hto _ _ _ (CvL.at (R:=fun x y=>y=AV.mpU t nt (jW es s xs own) x) rfl (aCj (R:=fun x y=>y=AV.mpU t nt (jW es s xs own) x) (fun _=>rfl) l) i) (hS.tmps i),
    hm.conv xy rfl hto (fun b hb=>dR (fun e=>by subst e;rw[vq] at hb;cases hb) en' k') (aBU (R:=fun x y=>y=AV.mpU t nt (jW es s xs own) x) (fun _=>rfl) loc)⟩
  unfold Oper.wp;have vu:(execOp a.eval o).run P w=.ok .skip (World.setMap w r en' k'):=by
   simp only[execOp,ho,sd,Eh,Ei,ax,jc,aj,a8]
  rw[vu];simp only[Oper.upon,hd,Act.put];exact hQ _ _ _ _ h Ek (hL.step ⟨iv,fun k jb hg=>⟨hg,by simp only;rw[lO jb,lO jb]⟩⟩)
inductive vD (t sz:Nat):AV->AV->Prop
 | bot {x}:vD t sz x .bot
 | same {x}:vD t sz x x
 | nil {n}:vD t sz (.osl n [] .full) (.que t sz [])
 | tok {t' s es}:vD t sz (.osl s es (.tok t')) (.que t' s es)
theorem vD.rv{G:Gh}{w:World}{t sz:Nat}(ht:t<G.nt)(hk:G.tk t=some none){x y:AV}{v:Value}(h:vD t sz x y)(hr:RV G w x v):RV G w y v:=by
 cases h with
 | bot=>exact .bot
 | same=>exact hr
 | nil =>
  cases hr with
  | osl _ ho =>
   obtain⟨A,rfl,_⟩:=ho;exact .que (.sl (es:=[]) (fun _ _=>default) (nr0 _) (ai _) (by simp) (by simp) (fun a _ i j hi _=>by simp at hi) (fun i j hi _=>by simp at hi)) ⟨ht,fun x hx=>.inl ⟨A,rfl⟩⟩
 | tok =>
  cases hr with
  | osl h1 ho =>
   refine .que h1 ⟨ho.1,fun x hx=>?_⟩;have:=ho.2 x hx
   cases x with
   | none=>exact .inl this
   | some g =>
    obtain⟨cap,hv,hk⟩:=this;exact .inr ⟨g,0,cap,rfl,hv,by simpa using hk⟩
theorem iO.que{cx:Cx}{nt0 nt:Nat}{l l':List (Nat × AV)}{out:Bxs}{loc loc':List (Nat × List (List AV))}{tok:Nat->Bool}(sz:Nat)(hl:CvL (vD nt sz) l l')(hb:CvB (vD nt sz) loc loc'):
  iO cx nt0 ⟨tl l,lb cx.base out loc,tok,nt⟩ ⟨tl l',lb cx.base out loc',upd tok nt true,nt+1⟩:=by
 intro G0 w0 G a w he we hS hL;have hm:=hS.mem;have rj:G.nt=nt:=hm.nt
 have iv:=Le.newtok (G:=G) (w:=w) none;have mb:=hm.newtok none (fun g h=>by cases h)
 have h1:nt<(G.newtok none).nt:=by simp only[Gh.newtok];omega
 have h2:(G.newtok none).tk nt=some none:=by simp only[Gh.newtok];rw[<-rj,uS]
 refine⟨G.newtok none,⟨hS.defers,hS.size,fun i=>(hl.at .bot i).rv h1 h2 ((hS.tmps i).mono iv),mb.rows (fun x y v h hr=>h.rv h1 h2 hr) hb⟩,?_⟩;refine hL.step ⟨iv,fun k jb hg=>⟨hg,?_⟩⟩;simp only;rw[lO jb,lO jb]
section
variable {t sz:Nat}
@[simp] theorem aPk(x:AV):vD t sz x .bot:=.bot
@[simp] theorem aN6(x:AV):vD t sz x x:=.same
@[simp] theorem aPh(n:Nat):vD t sz (.osl n [] .full) (.que t sz []):=.nil
@[simp] theorem aOE(t' s:Nat)(es:List (List D)):vD t sz (.osl s es (.tok t')) (.que t' s es):=.tok
end
section
variable {p:Nat->Prop} {fz:Option (Nat × Nat × List (List D))}
@[simp] theorem aS1(t:Nat)(es:List (ByteArray × List (List D) × Own)):To p (fun _=>True) fz (.mp t es) (.mp t es):=.same (.mp trivial fun _ _ _ _=>trivial)
@[simp] theorem aSv{q:Nat->Prop}(es:List (ByteArray × List (List D))):To p q fz (.mpd es) (.mpd es):=.same .mpd
@[simp] theorem aQd{q:Nat->Prop}{es:List (ByteArray × List (List D))}:bF p q (.mpd es):=.mpd
end
attribute [simp] fM AV.mpF AV.mpU
variable {P:Program}
theorem Seg.opn{cx:Cx}{ops:Array Oper}{k nt:Nat}{K:AS->Prop}{l l':List (Nat × AV)}{out:Bxs}{loc loc':List (Nat × List (List AV))}{tok:Nat->Bool}(sz:Nat)(hl:CvL (uW nt sz) l l')(hb:CvB (uW nt sz) loc loc')(h:Seg P cx ops k K ⟨tl l',lb cx.base out loc',upd tok nt true,nt+1⟩):Seg P cx ops k K ⟨tl l,lb cx.base out loc,tok,nt⟩:=by
 intro G0 w0 Q hQ G a w hS hL;have hm:=hS.mem;have rj:G.nt=nt:=hm.nt
 have iv:=Le.newtok (G:=G) (w:=w) none;have mb:=hm.newtok none (fun g h=>by cases h)
 have h1:nt<(G.newtok none).nt:=by simp only[Gh.newtok];omega
 have h2:(G.newtok none).tk nt=some none:=by simp only[Gh.newtok];rw[<-rj,uS]
 refine h G0 w0 Q hQ (G.newtok none) a w ⟨hS.defers,hS.size,fun i=>(hl.at .bot i).rv h1 h2 ((hS.tmps i).mono iv),mb.rows (fun x y v h hr=>h.rv h1 h2 hr) hb⟩ ?_;refine hL.step ⟨iv,fun k jb hg=>⟨hg,?_⟩⟩;simp only;rw[lO jb,lO jb]
inductive Fo where
 | mk (kind:Int) (name:ByteArray) (kids:List Fo)
 deriving Inhabited
def Fo.kind:Fo->Int|.mk k _ _=>k
def Fo.name:Fo->ByteArray|.mk _ s _=>s
def Fo.kids:Fo->List Fo|.mk _ _ c=>c
mutual
def Fo.cells:Fo->List D
 | .mk k s c=>[.raw (.int .i64 k),.raw (.string s),.sl 3 (Fo.rows c)]
def Fo.rows:List Fo->List (List D)
 | []=>[]
 | x::r=>Fo.cells x::Fo.rows r
end
theorem Fo.rows_map:∀l:List Fo,Fo.rows l=l.map Fo.cells
 | []=>by simp[Fo.rows]
 | x::r=>by simp[Fo.rows,Fo.rows_map r]
abbrev fos(l:List Fo):D:=.sl 3 (l.map Fo.cells)
theorem Fo.cells_eq(c:Fo):c.cells=[.raw (.int .i64 c.kind),.raw (.string c.name),fos c.kids]:=by
 cases c;simp[Fo.cells,Fo.rows_map,Fo.kind,Fo.name,Fo.kids]
abbrev Fo.row(c:Fo):List AV:=[I c.kind,Sb c.name,.d (fos c.kids)]
abbrev Fo.av(c:Fo):AV:=.agg c.row
theorem Fo.get{l:List Fo}{i:Nat}(h:i<l.length):(l.map Fo.cells)[i]?=some [.raw (.int .i64 l[i].kind),.raw (.string l[i].name),fos l[i].kids]:=by
 simp[h,Fo.cells_eq l[i]]
mutual
def Fo.size:Fo->Nat
 | .mk _ _ c=>1+Fo.sizeL c
def Fo.sizeL:List Fo->Nat
 | []=>0
 | x::r=>Fo.size x+Fo.sizeL r
end
mutual
def Fo.depth:Fo->Nat
 | .mk _ _ c=>1+Fo.depthL c
def Fo.depthL:List Fo->Nat
 | []=>0
 | x::r=>max (Fo.depth x) (Fo.depthL r)
end
structure Mdl where
 next:List (List Int)
 prev:List (List Int)
 atoms:List (ByteArray × List Bool)
def inR(n:Nat)(k:Int):Prop:=0<=k/\k<n
structure Mdl.Ok (m:Mdl) (n:Nat):Prop where
 pos:0<n
 le:n<=300
 next:m.next.length=n
 prev:m.prev.length=n
 nO:∀r∈m.next,∀k∈r,inR n k
 prevR:∀r∈m.prev,∀k∈r,inR n k
 nextL:∀r∈m.next,r.length<=n
 prevL:∀r∈m.prev,r.length<=n
 atoms:∀a∈m.atoms,a.2.length=n
def aNC(l:List Bool):List Bool:=l.map fun b=>!b
def aQb(n:Nat):List Bool:=aNC (List.replicate n false)
@[simp] theorem aOB(l:List Bool):(aNC l).length=l.length:=by simp[aNC]
@[simp] theorem aPW(n:Nat):(aQb n).length=n:=by simp[aQb]
def aMb(nx:List (List Int))(l:List Bool):List Bool:=nx.map fun r=>r.any fun k=>l.getD k.toNat false
@[simp] theorem aN3(nx:List (List Int))(l:List Bool):(aMb nx l).length=nx.length:=by simp[aMb]
abbrev rBo(xs:List Bool):List (List D):=xs.map fun b=>[D.raw (.bool b)]
abbrev lls(l:List (List Int)):D:=.sl 1 (l.map fun r=>[ints r])
abbrev Mdl.row(m:Mdl):List AV:=[.d (lls m.next),.d (lls m.prev),.mpd (m.atoms.map fun a=>(a.1,rBo a.2))]
abbrev Mdl.av(m:Mdl):AV:=.agg m.row
structure Hs where
 g:Gr
 vals:List (List Int)
abbrev Hs.av(h:Hs):AV:=.agg [.d (ints h.g.nodes),.d (AM.edges h.g.edges),.d (lls h.vals)]
def Sd.nr(s:Sd)(e:E):Int:=if s.o=true then e.fr else e.to
def Sd.fa(s:Sd)(e:E):Int:=if s.o=true then e.to else e.fr
theorem qD{α:Type}{f:List Ov->α->List Ov}{B:Nat}(hf:∀out k,(f out k).length<=out.length+B):∀(l:List α) (out:List Ov),(l.foldl f out).length<=out.length+l.length*B
 | [],out=>by simp
 | x::l,out=>by
  have h1:=qD hf l (f out x);have h2:=hf out x;rw[List.foldl_cons,ci,cf];omega
theorem vT(a b:Gr)(nodes:List Int):∀(n:Nat) (es:List Int) (out:List Ov),(ovE a b nodes n es out).length<=out.length+(1+a.edges.length) ^ n
 | 0,es,out=>by
  unfold ovE;split<;>simp
 | n+1,es,out=>by
  unfold ovE;split
  .omega
  .have h1:=vT a b nodes n (es++[-1]) out;have h2:=qD (f:=fun (out:List Ov) (k:Nat)=>if a.edges.getD k default=lV b nodes es/\(k:Int)∉es then ovE a b nodes n (es++[(k:Int)]) out else out) (B:=(1+a.edges.length) ^ n) (fun out k=>by
    split
    .exact vT a b nodes n _ out
    .omega) (List.range a.edges.length) (ovE a b nodes n (es++[-1]) out)
   rw[List.length_range] at h2;rw[Nat.pow_succ,Nat.mul_comm,cf];omega
theorem xP(a b:Gr):∀(n:Nat) (l:List Int) (out:List Ov),(ovN a b n l out).length<=out.length+(1+a.nodes.length) ^ n*(1+a.edges.length) ^ b.edges.length
 | 0,l,out=>by
  unfold ovN;split
  .omega
  .have:=vT a b l b.edges.length [] out
   simpa using this
 | n+1,l,out=>by
  unfold ovN;split
  .omega
  .have h1:=xP a b n (l++[-1]) out;have h2:=qD (f:=dB a b (ovN a b n) l) (B:=(1+a.nodes.length) ^ n*(1+a.edges.length) ^ b.edges.length) (fun out k=>by
    unfold dB;split
    .exact xP a b n _ out
    .omega) (List.range a.nodes.length) (ovN a b n (l++[-1]) out)
   rw[List.length_range] at h2;rw[Nat.pow_succ,Nat.mul_comm ((1+a.nodes.length) ^ n),Nat.mul_assoc,cf];omega
structure Lf (t:Ty) (g:Gr):Prop where
 ty:tyE t=0
 va:vG g=0
 lf:∀x∈g.nodes,(0<=x/\x<t.nodes.length)/\eJ t x=true
 fr:∀e∈g.edges,pE t e.ty (g.nodes.getD e.fr.toNat 0) (g.nodes.getD e.to.toNat 0)=true
structure Rc (t:Ty) (r:Ru) (c:Co):Prop where
 sp:aCh r.sp
 st:cQ r=0
 gv:rC t r c=0
 k1:c.kind=1
 ex:c.exts=[]
 vl:vG r.lg=0
 vr:vG r.rg=0
 vc:vG c.g=0
 sh:lL c=0
theorem Rc.left{t:Ty}{r:Ru}{c:Co}(h:Rc t r c)(x:Cd):aM2 r x=aP9 r.sp x:=by
 unfold aM2;rw[ac (by simp[h.st])]
def cK(k:List Int)(i:Nat):Nat:=(bE k i).length
theorem aAV(k:List Int)(i:Nat):bE k (i+1)=bE k i++if (i:Int)∈k then [] else [(i:Int)]:=by
 unfold bE;rw[cn,dm,c7];by_cases h:(i:Int)∈k<;>simp[h]
theorem aBm(k:List Int)(i:Nat):cK k (i+1)=cK k i+if (i:Int)∈k then 0 else 1:=by
 unfold cK;rw[aAV,am];by_cases h:(i:Int)∈k<;>simp[h]
theorem aFQ(k:List Int){i:Nat}:∀{j:Nat},i<=j->cK k i<=cK k j
 | 0,h=>by
  have:i=0:=by omega
  rw[this];exact nr0 _
 | j+1,h=>by
  by_cases e:i=j+1
  .rw[e];exact nr0 _
  .have:=aFQ k (i:=i) (j:=j) (by omega)
   rw[aBm];omega
theorem aL5{k:List Int}{i j:Nat}(h:i<j)(hi:(i:Int)∉k):cK k i<cK k j:=by
 have:=aFQ k (show i+1<=j from h)
 rw[aBm,ac hi] at this;omega
theorem aMr(k:List Int)(n:Nat):cK k n<=n:=by
 unfold cK bE;rw[br];exact cb (dl _ _) (by simp)
theorem aFr{k:List Int}:∀{n i:Nat},i<n->(i:Int)∉k->(bE k n).getD (cK k i) 0=i
 | n+1,i,h,hi=>by
  rw[aAV];by_cases e:i=n
  .subst e;rw[ac hi,ao,dd (by unfold cK;exact nr0 _)];simp[cK]
  .have hl:cK k i<(bE k n).length:=aL5 (show i<n by omega) hi
   rw[ao,bi hl,<-List.getD_eq_getElem?_getD];exact aFr (by omega) hi
theorem aCJ{k:List Int}:∀{n b:Nat},b<cK k n->∃i,i<n/\(i:Int)∉k/\cK k i=b
 | 0,b,h=>absurd h (b8 _)
 | n+1,b,h=>by
  by_cases e:b<cK k n
  .obtain⟨i,a,b,c⟩:=aCJ e;exact⟨i,by omega,b,c⟩
  .rw[aBm] at h;by_cases hn:(n:Int)∈k
   .rw[af hn] at h;omega
   .rw[ac hn] at h;exact⟨n,by omega,hn,by omega⟩
structure zT (k i a z:List Int) (nl nr nx:Nat):Prop where
 kn:k.Nodup
 kr:∀x∈k,0<=x/\x<(nl:Int)
 sn:i.Nodup
 sr:∀x∈i,0<=x/\x<(nr:Int)
 lk:i.length=k.length
 an:a.Nodup
 ar:∀x∈a,0<=x/\x<(nx:Int)
 al:a.length=nr
 zn:z.Nodup
 zr:∀x∈z,0<=x/\x<(nx:Int)
 zi:∀v,v<nx->((∃j,j<z.length/\atN z j=v)↔¬∃b,b<nr/\atN a b=v/\¬∃j,j<k.length/\atN i j=b)
def fK(k i a z:List Int)(j:Nat):Int:=if (j:Int)∈k then aU z (a.getD (i.getD (aU k j).toNat 0).toNat 0) else ((z.length+cK k j:Nat):Int)
theorem aF7{l:List Int}{n v:Nat}(hr:∀x∈l,0<=x/\x<(n:Int)):(v:Int)∈l↔∃j,j<l.length/\atN l j=v:=by
 constructor
 .intro h;obtain⟨j,j1,j2⟩:=eR h;exact⟨j,j1,by unfold atN;rw[j2];rfl⟩
 .rintro⟨j,j1,j2⟩;have:=jN hr j1
  rw[<-j2,this.1];exact aR j1
theorem zT.at{k i a z:List Int}{nl nr nx:Nat}(h:zT k i a z nl nr nx){j:Nat}(hj:j<k.length):
  0<=fK k i a z (atN k j)/\(fK k i a z (atN k j)).toNat<z.length/\atN z (fK k i a z (atN k j)).toNat=atN a (atN i j):=by
 have e1:=jN h.kr hj;have e2:=jN h.sr (show j<i.length by rw[h.lk];exact hj);have e3:=jN h.ar (show atN i j<a.length by rw[h.al];exact e2.2);have hm:((atN k j:Nat):Int)∈k:=by rw[e1.1];exact aR hj
 have Bj:aU k ((atN k j:Nat):Int)=j:=by rw[e1.1];exact zV h.kn hj
 have hv:a.getD (i.getD (aU k ((atN k j:Nat):Int)).toNat 0).toNat 0=((atN a (atN i j):Nat):Int):=by
  rw[Bj,bz,e3.1];rfl
 have hz:((atN a (atN i j):Nat):Int)∈z:=by
  rw[aF7 h.zr,h.zi _ e3.2];rintro⟨b,b1,b2,b3⟩;refine b3 ⟨j,hj,?_⟩;exact(aBz h.an h.ar (by rw[h.al];exact b1) (by rw[h.al];exact e2.2) b2).symm
 have hi:=fH hz;unfold fK;rw[af hm,hv];refine⟨hi.1,by omega,?_⟩;unfold atN at hi ⊢;rw[hi.2.2];omega
theorem zT.off{k i a z:List Int}{nl nr nx:Nat}(h:zT k i a z nl nr nx){j:Nat}(hj:(j:Int)∉k):fK k i a z j=((z.length+cK k j:Nat):Int):=ac hj
theorem zT.rng{k i a z:List Int}{nl nr nx:Nat}(h:zT k i a z nl nr nx){j:Nat}(hj:j<nl):0<=fK k i a z j/\(fK k i a z j).toNat<z.length+cK k nl:=by
 by_cases e:(j:Int)∈k
 .obtain⟨q,q1,rfl⟩:=(aF7 h.kr).1 e;have:=h.at q1
  exact⟨this.1,by omega⟩
 .have:=aL5 hj e
  rw[h.off e];omega
theorem aMZ{s:Sp}(hs:aCh s){x:Gr}{a:Mo}(hm:Emb s.r x a):zT s.k.nodes s.i.nodes a.nodes (s.z a x).nodes s.l.nodes.length s.r.nodes.length x.nodes.length/\zT s.k.edges s.i.edges a.edges (s.z a x).edges s.l.edges.length s.r.edges.length x.edges.length:=by
 obtain⟨k1,k2⟩:=aJK hs.i;have zn:=aDf (n:=x.nodes.length) hm.vm.ln hm.vm.n k1;have ze:=aDf (n:=x.edges.length) hm.vm.le hm.vm.e k2;have l1:(exG s.l s.k).nodes.length=s.k.nodes.length:=by simp[exG]
 have l2:(exG s.l s.k).edges.length=s.k.edges.length:=by simp[exG]
 rw[l1] at zn;rw[l2] at ze;have qk:=hs.i.vm;exact⟨⟨dN hs.k.sn,hs.k.n,hs.i.n,qk.n,by rw[qk.ln,l1],hm.n,hm.vm.n,hm.vm.ln,dN (jO (rU _ _ _)),fun v hv=>(eC.1 hv).1,zn⟩,
  ⟨dN hs.k.se,hs.k.e,hs.i.e,qk.e,by rw[qk.le,l2],hm.e,hm.vm.e,hm.vm.le,dN (jO (rU _ _ _)),fun v hv=>(eC.1 hv).1,ze⟩⟩
theorem aJT(r:Ru)(o:Ov):(yN r o).nodes.length=(eN r o).nodes.length+cK r.k.nodes r.lg.nodes.length/\(yN r o).edges.length=(eN r o).edges.length+cK r.k.edges r.lg.edges.length:=by
 constructor
 .simp[yN,exG,cK]
 .simp[yN,exG,cK]
def afA(k:List Int)(f:Nat->Int)(n j:Nat):List Int:=(List.range n).map fun (v:Nat)=>if (v:Int)∈k.take j then f v else 0
def afB(k:List Int)(f:Nat->Int)(n j:Nat):List Int:=(List.range n).map fun (v:Nat)=>if (v:Int)∈k∨(v:Int)∈(bE k n).take j then f v else 0
theorem aLA(k:List Int)(f:Nat->Int)(n j:Nat):(afA k f n j).length=n:=by simp[afA]
theorem aLV(k:List Int)(f:Nat->Int)(n j:Nat):(afB k f n j).length=n:=by simp[afB]
theorem aH3(k:List Int)(f:Nat->Int)(n:Nat):afA k f n 0=List.replicate n 0:=by
 refine f7 (by simp[afA]) fun i h1 h2=>?_
 simp[afA]
theorem aFP{f g:Nat->Int}{n i:Nat}{x:Int}(hi:i<n)(h1:g i=x)(h2:∀v,v<n->v≠i->g v=f v):((List.range n).map f).set i x=(List.range n).map g:=by
 refine f7 (by simp) fun v h3 h4=>?_
 have hv:v<n:=by simpa using h4
 rw[List.getElem_set];split
 .rename_i e;subst e;simp[h1]
 .rename_i e;simp[h2 v hv (fun h=>e h.symm)]
theorem aDy{k:List Int}{f:Nat->Int}{n j:Nat}(hn:k.Nodup)(hr:∀x∈k,0<=x/\x<(n:Int))(hj:j<k.length):(afA k f n j).set (k[j]).toNat (f (k[j]).toNat)=afA k f n (j+1):=by
 have h0:=hr _ (aa hj);have e0:(((k[j]).toNat:Nat):Int)=k[j]:=by omega
 have ht:k.take (j+1)=k.take j++[k[j]]:=ah hj
 refine aFP (by omega) ?_ fun v hv hne=>?_
 .rw[af];rw[ht,e0];exact List.mem_append_right _ (a7.2 rfl)
 .have:(v:Int)≠k[j]:=by omega
  have:(v:Int)∈k.take (j+1)↔(v:Int)∈k.take j:=by rw[ht,ap,a7];exact or_iff_left this
  by_cases hm:(v:Int)∈k.take j
  .rw[af hm,af (this.2 hm)]
  .rw[ac hm,ac (fun h=>hm (this.1 h))]
theorem aLF(k:List Int)(f:Nat->Int)(n:Nat):afA k f n k.length=afB k f n 0:=by
 unfold afA afB;refine eh fun v _=>?_
 simp
theorem aIO{k:List Int}{f:Nat->Int}{n j:Nat}(hj:j<(bE k n).length):(afB k f n j).set ((bE k n)[j]).toNat (f ((bE k n)[j]).toNat)=afB k f n (j+1):=by
 have h0:=xX _ (aa hj);generalize hm:(bE k n)[j]=x at *;have e0:((x.toNat:Nat):Int)=x:=by omega
 have ht:(bE k n).take (j+1)=(bE k n).take j++[x]:=by rw[ah hj,hm]
 refine aFP (by omega) ?_ fun v hv hne=>?_
 .rw[af];rw[ht,e0];simp
 .have:(v:Int)≠x:=by omega
  have:(v:Int)∈(bE k n).take (j+1)↔(v:Int)∈(bE k n).take j:=by rw[ht];simp[this]
  simp only[this]
theorem aIp{k:List Int}{n v:Nat}(hv:v<n)(h:(v:Int)∉k):(v:Int)∈bE k n:=bc.2 ⟨v,ce.2 ⟨ay.2 hv,bv h⟩,rfl⟩
theorem aLO(k:List Int)(f:Nat->Int)(n:Nat):afB k f n (bE k n).length=(List.range n).map f:=by
 unfold afB;refine eh fun v hv=>?_
 rw[af];rw[bh];by_cases h:(v:Int)∈k
 .exact .inl h
 .exact .inr (aIp (ay.1 hv) h)
theorem aJI{k:List Int}:∀{n j:Nat} (hj:j<(bE k n).length),cK k ((bE k n)[j]).toNat=j/\((bE k n)[j]).toNat<n/\((((bE k n)[j]).toNat:Nat):Int)∉k:=fun {n j} hj=>by
 obtain⟨i,i1,i2,i3⟩:=aCJ (k:=k) (n:=n) (b:=j) hj;have:=aFr i1 i2
 rw[i3] at this;have e:(bE k n)[j]=(i:Int):=by rw[<-this];simp[hj]
 rw[e];simp only[bz];exact⟨i3,i1,i2⟩
structure BfA where
 i:Nat
 tok:Nat->Bool
 nt:Nat
structure BfB where
 i:Nat
 o:Own
 tok:Nat->Bool
 nt:Nat
abbrev Ov.row(o:Ov):List AV:=[.d (ints o.g.nodes),.d (AM.edges o.g.edges),.d (ints o.l.nodes),.d (ints o.l.edges),.d (ints o.r.nodes),.d (ints o.r.edges)]
abbrev aDK(g:Gr):List AV:=[.d (ints g.nodes),.d (AM.edges g.edges)]
def aHy(r:Ru)(f:Nat->Int)(n:Int):E:=⟨(r.lg.edges.getD n.toNat default).ty,f (r.lg.edges.getD n.toNat default).fr.toNat,f (r.lg.edges.getD n.toNat default).to.toNat⟩
def bfN(r:Ru)(i:Nat):List Int:=((bE r.k.nodes r.lg.nodes.length).take i).map fun n=>r.lg.nodes.getD n.toNat 0
def bfE(r:Ru)(f:Nat->Int)(i:Nat):List E:=((bE r.k.edges r.lg.edges.length).take i).map (aHy r f)
theorem aHH(r:Ru):bfN r 0=[]:=by simp[bfN]
theorem aH9(r:Ru)(f:Nat->Int):bfE r f 0=[]:=by simp[bfE]
theorem aLb{r:Ru}{i:Nat}(h:i<=(bE r.k.nodes r.lg.nodes.length).length):(bfN r i).length=i:=by unfold bfN;rw[br,cj];omega
theorem aLX{r:Ru}{f:Nat->Int}{i:Nat}(h:i<=(bE r.k.edges r.lg.edges.length).length):(bfE r f i).length=i:=by unfold bfE;rw[br,cj];omega
theorem aHQ{r:Ru}{i:Nat}(h:i<(bE r.k.nodes r.lg.nodes.length).length)(q:((bE r.k.nodes r.lg.nodes.length)[i]).toNat<r.lg.nodes.length):bfN r (i+1)=bfN r i++[r.lg.nodes[((bE r.k.nodes r.lg.nodes.length)[i]).toNat]]:=by
 unfold bfN;rw[ah h,c7,List.map_singleton,show r.lg.nodes.getD ((bE r.k.nodes r.lg.nodes.length)[i]).toNat 0=r.lg.nodes[((bE r.k.nodes r.lg.nodes.length)[i]).toNat] by simp[q]]
theorem aI5{r:Ru}{f:Nat->Int}{i:Nat}(h:i<(bE r.k.edges r.lg.edges.length).length)(q:((bE r.k.edges r.lg.edges.length)[i]).toNat<r.lg.edges.length):bfE r f (i+1)=bfE r f i++[⟨r.lg.edges[((bE r.k.edges r.lg.edges.length)[i]).toNat].ty,f r.lg.edges[((bE r.k.edges r.lg.edges.length)[i]).toNat].fr.toNat,f r.lg.edges[((bE r.k.edges r.lg.edges.length)[i]).toNat].to.toNat⟩]:=by
 unfold bfE;rw[ah h,c7,List.map_singleton];unfold aHy;rw[show r.lg.edges.getD ((bE r.k.edges r.lg.edges.length)[i]).toNat default=r.lg.edges[((bE r.k.edges r.lg.edges.length)[i]).toNat] by simp[q]]
theorem aK5(r:Ru):bfN r (bE r.k.nodes r.lg.nodes.length).length=(bE r.k.nodes r.lg.nodes.length).map fun n=>r.lg.nodes.getD n.toNat 0:=by unfold bfN;rw[bh]
theorem aKx(r:Ru)(f:Nat->Int):bfE r f (bE r.k.edges r.lg.edges.length).length=(bE r.k.edges r.lg.edges.length).map (aHy r f):=by unfold bfE;rw[bh]
def aMD(r:Ru)(o:Ov)(Z:Mo)(DN:List (List D))(DE:List (List D))(f:Nat->Int)(o1 o2:Own)(nb:Nat)(box:Bxs)(x:BfA):AS :=
 ⟨tl [(66,I x.i),(65,I r.k.nodes.length),(64,.d (ints r.k.nodes)),(12,.msl (nb+61) 0 r.lg.nodes.length 1),(11,.ptr (nb+11) 0 0),(9,.ptr (nb+9) 0 0),(7,.ptr (nb+7) 0 0),(4,.ptr (nb+4) 0 0),(3,.ptr (nb+3) 0 0),(2,.ptr (nb+2) 0 0)],
  lb nb box [(61,dL (afA r.k.nodes f r.lg.nodes.length x.i)),(11,[aDK r.lg]),(9,[[.osl 1 DN o1,.osl 3 DE o2]]),(7,[[.d (ints Z.nodes),.d (ints Z.edges)]]),(4,[[cT,cT]]),(3,[o.row]),(2,[r.row])],x.tok,x.nt⟩
def aMp(r:Ru)(Z:Mo)(DN:List Int)(DE:List (List D))(f:Nat->Int)(o2:Own)(nb:Nat)(box:Bxs)(x:BfB):AS :=
 ⟨tl [(97,I x.i),(96,I (bE r.k.nodes r.lg.nodes.length).length),(95,.d (ints (bE r.k.nodes r.lg.nodes.length))),(12,.msl (nb+61) 0 r.lg.nodes.length 1),(11,.ptr (nb+11) 0 0),(9,.ptr (nb+9) 0 0),(4,.ptr (nb+4) 0 0),(2,.ptr (nb+2) 0 0)],
  lb nb box [(61,dL (afB r.k.nodes f r.lg.nodes.length x.i)),(11,[aDK r.lg]),(9,[[.osl 1 (rI (DN++bfN r x.i)) x.o,.osl 3 DE o2]]),(4,[[cT,cT]]),(2,[r.row])],x.tok,x.nt⟩
def aMc(r:Ru)(DN:List Int)(DE:List E)(f:Nat->Int)(o1:Own)(nb:Nat)(box:Bxs)(x:BfB):AS :=
 ⟨tl [(126,I x.i),(125,I (bE r.k.edges r.lg.edges.length).length),(124,.d (ints (bE r.k.edges r.lg.edges.length))),(12,.msl (nb+61) 0 r.lg.nodes.length 1),(11,.ptr (nb+11) 0 0),(9,.ptr (nb+9) 0 0),(4,.ptr (nb+4) 0 0)],
  lb nb box [(61,dL ((List.range r.lg.nodes.length).map f)),(11,[aDK r.lg]),(9,[[.osl 1 (rI DN) o1,.osl 3 (rE (DE++bfE r f x.i)) x.o]]),(4,[[cT,cT]])],x.tok,x.nt⟩
set_option maxRecDepth 100000 in
theorem aHs(r:Ru)(hr:r.Fit)(o:Ov)(ho:o.Fit)(hs:aCh r.sp)(va:vG r.lg=0)(hm:Emb r.rg o.g o.l):DC 89 [r.av,o.av] (.tup [(mK r o).1.av,B (mK r o).2]):=by
 intro tok nt box nb;have s1:=aAO r.i.nodes hr.i.n;have s2:=aAO r.i.edges hr.i.e;have hi:VP r.rg (kpI r):=aBT hs.i
 have hC:=aQH r.rg o.g (kpI r) o.l hr.rg ho.g ho.l hi.emb.fit.1 hm hi;have eI:kpI r=⟨cR r.i.nodes,cR r.i.edges⟩:=aHq hs.i
 rw[eI] at hC;refine sI func89 ntmps89 fun Hb Ht=>?_
 repeat first|simp|refine sR ?_
 refine sD (s1 _ _) ?_;repeat first|simp|refine sR ?_
 refine sD (s2 _ _) ?_;repeat first|simp|refine sR ?_
 refine sD (hC _ _) ?_;simp;rw[<-eI];by_cases hd:kA o.g (kpI r) o.l=true
 .have e:vA r.rg o.g (kpI r) o.l=(⟨[],[]⟩,14):=af hd
  have e2:mK r o=(⟨[],[]⟩,false):=af hd
  rw[e,e2];try (simp)
  repeat ((first|refine sR ?_|apply sC|apply sX);simp)
  refine sT (sH ?_);simp[ints,AM.edges]
 .have s9:kA o.g (kpI r) o.l=false:=by simpa using hd
  have e:vA r.rg o.g (kpI r) o.l=(eN r o,0):=ac hd
  have e2:mK r o=(yN r o,true):=ac hd
  rw[e,e2];have vz:VP o.g (eN r o):=Sp.z_vp (s:=r.sp) hs hm s9
  have fz:=vz.emb.fit.1;obtain⟨bn,be⟩:=aMZ (s:=r.sp) hs hm;have bn:zT r.k.nodes r.i.nodes o.l.nodes (eN r o).nodes r.lg.nodes.length r.rg.nodes.length o.g.nodes.length:=bn
  have hx:=aFh o.g (eN r o) ho.g fz vz;have hG:yN r o=⟨(exG o.g (eN r o)).nodes++(bE r.k.nodes r.lg.nodes.length).map fun n=>r.lg.nodes.getD n.toNat 0,(exG o.g (eN r o)).edges++(bE r.k.edges r.lg.edges.length).map (aHy r (tH r o))⟩:=rfl
  have El:(exG o.g (eN r o)).nodes.length=(eN r o).nodes.length:=by simp[exG]
  have B8:(exG o.g (eN r o)).edges.length=(eN r o).edges.length:=by simp[exG]
  have j6:∀j (hj:j<r.k.nodes.length),(r.k.nodes[j]).toNat<r.lg.nodes.length/\aU (eN r o).nodes (o.l.nodes.getD (r.i.nodes.getD j 0).toNat 0)=tH r o (r.k.nodes[j]).toNat:=fun j hj=>by
   have h1:=bn.kr _ (aa hj);have e0:(((r.k.nodes[j]).toNat:Nat):Int)=r.k.nodes[j]:=by omega
   have Bj:aU r.k.nodes r.k.nodes[j]=j:=by
    have:=zV bn.kn hj
    rwa [show r.k.nodes.getD j 0=r.k.nodes[j] by simp[hj]] at this
   refine⟨by omega,?_⟩;unfold tH;rw[e0,af (aa hj),Bj,bz]
  have wc:∀j (hj:j<(bE r.k.nodes r.lg.nodes.length).length),tH r o ((bE r.k.nodes r.lg.nodes.length)[j]).toNat=(((exG o.g (eN r o)).nodes.length+j:Nat):Int):=fun j hj=>by
   obtain⟨c1,c2,c3⟩:=aJI hj;unfold tH;rw[ac c3];unfold cK at c1;rw[c1]
  rw[hG,<-aK5,<-aKx];unfold QEx at hx;generalize tH r o=f at *;generalize hZ:eN r o=Z at *;generalize exG o.g Z=D0 at *;have lw:=hr.lg.n;have iv:=hr.lg.e;have g9:=hr.k.n;have C9:=hr.k.e;have CA:=fz.n;have Em:=fz.e;have zu:=aE va;try (simp)
  repeat ((first|refine sR ?_|apply sC|apply sX);simp)
  refine aN.of_a (hx _ _ _ _) ?_;rintro v m' ⟨o1,o2,tok1,lc,rfl,rfl,jw⟩;try (simp)
  repeat ((first|refine sR ?_|apply sC|apply sX);simp)
  have wu:=fun v=>aGk Z.nodes v CA
  refine⟨by omega,?_⟩;try (simp)
  repeat ((first|refine sR ?_|apply sC|apply sX);simp)
  apply sN;refine sL (aMD r o Z (rI D0.nodes) (rE D0.edges) f o1 o2 nb box) (fun x=>x.i<=r.k.nodes.length/\TK tok nt x.tok x.nt [o1,o2]) (fun x=>r.k.nodes.length-x.i) ⟨0,tok1,lc⟩ ⟨ai _,jw⟩ (wM jw.le rfl (by simp[ToL,lk]) (by simp[aC,lk,aH3])) ?_;rintro⟨i,io,iz⟩ S ⟨hi,ie⟩ hS;simp only[aMD] at hS hi ie;subst hS;have hw:=sW (i:=i) (by omega);by_cases hlt:i<r.k.nodes.length
  .have lt2:i<r.i.nodes.length:=by rw[bn.lk];exact hlt
   have hy:=bn.sr _ (aa lt2);have Ds:=hy.1;have vj:r.i.nodes[i]<(o.l.nodes.length:Int):=by rw[bn.al];exact hy.2
   have CB:r.i.nodes[i].toNat<o.l.nodes.length:=by omega
   have hA:=j6 i hlt;have En:aU Z.nodes o.l.nodes[r.i.nodes[i].toNat]=f (r.k.nodes[i]).toNat:=by
    rw[<-hA.2];simp[lt2,CB]
   obtain⟨Bz,qm⟩:=bn.kr _ (aa hlt);have hsuc:=aDy (f:=f) bn.kn bn.kr hlt;have hal:=aLA r.k.nodes f r.lg.nodes.length i;have ky:=aDy (f:=f) bn.kn bn.kr hlt;try (simp[hlt,lt2,Ds,vj,CB])
   repeat ((first|refine sR ?_|apply sC|apply sX);simp[hlt,lt2,Ds,vj,CB])
   refine sD (wu _ _ _) ?_;rw[En];try (simp[Bz,qm,hal,hA.1,hw])
   repeat ((first|refine sR ?_|apply sC|apply sX);simp[Bz,qm,hal,hA.1,hw])
   apply sE;exact⟨⟨i+1,io,iz⟩,⟨hlt,ie⟩,by simp only;omega,wM ie.le rfl (by simp[ToL,lk]) (by simp[aC,lk,ky])⟩
  .have:i=r.k.nodes.length:=by omega
   subst this;have c1:=aAw r.k.nodes g9 r.lg.nodes.length lw;try (simp)
   repeat ((first|refine sR ?_|apply sC|apply sX);simp)
   refine sD (c1 _ _) ?_;simp;try (simp)
   repeat ((first|refine sR ?_|apply sC|apply sX);simp)
   apply sN;refine sL (aMp r Z D0.nodes (rE D0.edges) f o2 nb box) (fun x=>x.i<=(bE r.k.nodes r.lg.nodes.length).length/\TK tok nt x.tok x.nt [x.o,o2]) (fun x=>(bE r.k.nodes r.lg.nodes.length).length-x.i) ⟨0,o1,io,iz⟩ ⟨ai _,ie⟩ (wM ie.le rfl (by simp[ToL,lk]) (by simp[aC,lk,aLF,aHH])) ?_;rintro⟨i,o3,i6,jz⟩ S ⟨hi,iy⟩ hS;simp only[aMp] at hS hi iy;subst hS;have pz:=nR r.k.nodes r.lg.nodes.length;have hw:=sW (i:=i) (by omega);by_cases hlt:i<(bE r.k.nodes r.lg.nodes.length).length
   .obtain⟨q0,q1⟩:=xX _ (aa hlt);have q2:((bE r.k.nodes r.lg.nodes.length)[i]).toNat<r.lg.nodes.length:=by omega
    have ky:=aIO (f:=f) hlt;rw[wc i hlt,Int.natCast_add] at ky;have hal:=aLV r.k.nodes f r.lg.nodes.length i;have ht:=aHQ hlt q2;have hl2:=aLb hi;try (simp[hlt,q0,q1,q2,hal,hl2])
    repeat ((first|refine sR ?_|apply sC|apply sX);simp[hlt,q0,q1,q2,hal,hl2])
    refine⟨⟨by omega,iy.live⟩,?_⟩;try (simp[hw])
    repeat ((first|refine sR ?_|apply sC|apply sX);simp[hw])
    apply sE;exact⟨⟨i+1,_,_,_⟩,⟨hlt,iy.app⟩,by simp only;omega,wM iy.app.le rfl (by simp[ToL,lk]) (by simp[aC,lk,ky,ht])⟩
   .have:i=(bE r.k.nodes r.lg.nodes.length).length:=by omega
    subst this;have c2:=aAw r.k.edges C9 r.lg.edges.length iv;try (simp)
    repeat ((first|refine sR ?_|apply sC|apply sX);simp)
    refine sD (c2 _ _) ?_;simp;try (simp)
    repeat ((first|refine sR ?_|apply sC|apply sX);simp)
    apply sN;refine sL (aMc r (D0.nodes++bfN r (bE r.k.nodes r.lg.nodes.length).length) D0.edges f o3 nb box) (fun x=>x.i<=(bE r.k.edges r.lg.edges.length).length/\TK tok nt x.tok x.nt [x.o,o3]) (fun x=>(bE r.k.edges r.lg.edges.length).length-x.i) ⟨0,o2,i6,jz⟩ ⟨ai _,iy.swap⟩ (wM iy.le rfl (by simp[ToL,lk]) (by simp[aC,lk,aLO,aH9])) ?_;rintro⟨i,o4,tok4,nt4⟩ S ⟨hi,mm⟩ hS;simp only[aMc] at hS hi mm;subst hS;have CC:=nR r.k.edges r.lg.edges.length;have hw:=sW (i:=i) (by omega);by_cases hlt:i<(bE r.k.edges r.lg.edges.length).length
    .obtain⟨q0,q1⟩:=xX _ (aa hlt);have q2:((bE r.k.edges r.lg.edges.length)[i]).toNat<r.lg.edges.length:=by omega
     have ht:=aI5 (f:=f) hlt q2;have wb:=zu _ (aa q2);obtain⟨f1,f2,f3,f4⟩:=wb;have f5:r.lg.edges[((bE r.k.edges r.lg.edges.length)[i]).toNat].fr.toNat<r.lg.nodes.length:=by omega
     have f6:r.lg.edges[((bE r.k.edges r.lg.edges.length)[i]).toNat].to.toNat<r.lg.nodes.length:=by omega
     have hl2:=aLX (f:=f) hi;try (simp[hlt,q0,q1,q2])
     repeat ((first|refine sR ?_|apply sC|apply sX);simp[hlt,q0,q1,q2])
     try (simp[f1,f2,f3,f4,f5,f6,hl2])
     repeat ((first|refine sR ?_|apply sC|apply sX);simp[f1,f2,f3,f4,f5,f6,hl2])
     refine⟨⟨by omega,mm.live⟩,?_⟩;try (simp[hw])
     repeat ((first|refine sR ?_|apply sC|apply sX);simp[hw])
     apply sE;exact⟨⟨i+1,_,_,_⟩,⟨hlt,mm.app⟩,by simp only;omega,wM mm.app.le rfl (by simp[ToL,lk]) (by simp[aC,lk,ht])⟩
    .have:i=(bE r.k.edges r.lg.edges.length).length:=by omega
     subst this;try (simp)
     repeat ((first|refine sR ?_|apply sC|apply sX);simp)
     refine sT (sG Hb Ht mm.old mm.le ?_);simp[ints,AM.edges]
theorem yO{t:Ty}{p g:Gr}{inj:Bool}(ht:t.Fit)(hp:p.Fit)(hg:g.Fit)(h:gY t p g=0):(qR t p g inj).Ok:=by
 have a:=aI3 (inj:=inj) ht hp hg h;exact⟨a.t,a.tp,a.p,a.g,ai _,a.vp,a.pn,a.pe,a.np,a.ng⟩
theorem aKh{t:Ty}{p g:Gr}{inj:Bool}(ht:t.Fit)(hp:p.Fit)(hg:g.Fit)(h:gY t p g=0):
  aBv t p g inj=(mX (mG t p g inj).okN g.nodes.length (mG t p g inj).okE g.edges.length p.edges.length p.nodes.length []).take 1:=Sr.fnR_all (yO (inj:=inj) ht hp hg h)
theorem aG0{t:Ty}{p g:Gr}{inj:Bool}{m:Mo}:m∈mX (mG t p g inj).okN g.nodes.length (mG t p g inj).okE g.edges.length p.edges.length p.nodes.length []↔Img t p g inj m :=
 (Sr.all_mem (s:=mG t p g inj)).trans aIo
theorem aHP{t:Ty}{p g:Gr}{inj:Bool}(ht:t.Fit)(hp:p.Fit)(hg:g.Fit)(h:gY t p g=0){m:Mo}(hm:m∈aBv t p g inj):Img t p g inj m:=by
 rw[aKh ht hp hg h] at hm;exact aG0.1 (bt hm)
theorem aAl{t:Ty}{p g:Gr}{inj:Bool}(ht:t.Fit)(hp:p.Fit)(hg:g.Fit)(h:(iX t p g inj).2=0):gY t p g=0/\Img t p g inj (iX t p g inj).1:=by
 unfold iX at h ⊢;split at h
 .rename_i h1;exact absurd h h1
 .rename_i h1;have h1:gY t p g=0:=by simpa using h1
  rw[ac (by simp[h1])];refine⟨h1,?_⟩;cases e:aBv t p g inj with
  | nil=>rw[e] at h;simp[hdM] at h
  | cons m r=>exact aHP ht hp hg h1 (by rw[e];exact List.mem_cons_self)
theorem aI0{t:Ty}{p g:Gr}{m:Mo}{inj:Bool}:rD t p g m inj=0↔Img t p g inj m:=by
 constructor
 .intro h;unfold rD at h;split at h
  .rename_i h1;exact absurd h h1
  rename_i h1;have h1:fY t p g m=0:=by simpa using h1
  split at h
  .cases h
  rename_i h2;unfold fY at h1;split at h1
  .cases h1
  rename_i h3;split at h1
  .rename_i h4;exact absurd h1 h4
  rename_i h4;have a:=dD _ (by simpa using h4:aA (gV t p g m) m.nodes.length=0);have b:=dD _ h1;have an:∀i (hi:i<m.nodes.length),(0<=m.nodes[i]/\m.nodes[i]<g.nodes.length)/\isB t (g.nodes.getD m.nodes[i].toNat 0) (p.nodes.getD i 0)=true:=fun i hi=>by
   have h:=a i hi;unfold gV at h;have e:m.nodes.getD i 0=m.nodes[i]:=by simp[hi]
   rw[e] at h;split at h
   .cases h
   .split at h
    .rename_i h5 h6;exact⟨by omega,h6⟩
    .cases h
  have ae:∀i (hi:i<m.edges.length),(0<=m.edges[i]/\m.edges[i]<g.edges.length)/\g.edges.getD m.edges[i].toNat default=fZ p m.nodes i:=fun i hi=>by
   have h:=b i hi;unfold gL at h;have e:m.edges.getD i 0=m.edges[i]:=by simp[hi]
   rw[e] at h;split at h
   .cases h
   rename_i h5;split at h
   .cases h
   rename_i h6;split at h
   .cases h
   rename_i h7;refine⟨by omega,E.ext3 ?_ ?_ ?_⟩
   .show _=(p.edges.getD i default).ty;omega
   .show _=m.nodes.getD (p.edges.getD i default).fr.toNat 0;omega
   .show _=m.nodes.getD (p.edges.getD i default).to.toNat 0;omega
  have hd:inj=true->m.nodes.Nodup/\m.edges.Nodup:=fun hj=>by
   by_cases a1:m.nodes.Nodup
   .by_cases a2:m.edges.Nodup
    .exact⟨a1,a2⟩
    .exact absurd ⟨hj,.inr a2⟩ h2
   .exact absurd ⟨hj,.inl a1⟩ h2
  refine⟨by omega,by omega,fun x hx=>?_,fun x hx=>?_,fun i hi=>(an i hi).2,fun i hi=>(ae i hi).2,fun hj=>(hd hj).1,fun hj=>(hd hj).2⟩
  .obtain⟨i,hi,rfl⟩:=bf hx;exact(an i hi).1
  .obtain⟨i,hi,rfl⟩:=bf hx;exact(ae i hi).1
 .intro h;have a:aA (gV t p g m) m.nodes.length=0:=cD _ fun i hi=>by
   have h1:=h.rn _ (aa hi);have h2:=h.ty i hi;have e:m.nodes.getD i 0=m.nodes[i]:=by simp[hi]
   unfold gV;rw[e,ac (by omega),af h2]
  have b:aA (gL p g m) m.edges.length=0:=cD _ fun i hi=>by
   have h1:=h.re _ (aa hi);have h2:=h.ed i hi;have e:m.edges.getD i 0=m.edges[i]:=by simp[hi]
   unfold gL;rw[e,ac (by omega),h2];unfold fZ;simp
  have h1:=h.n;have h2:=h.e;have hs:fY t p g m=0:=by
   unfold fY;rw[ac (by omega),ac (by simp[a]),b]
  unfold rD;rw[ac (by simp[hs]),ac];rintro⟨hj,h3|h3⟩
  .exact h3 (h.dn hj)
  .exact h3 (h.de hj)
theorem aJh{t:Ty}{p g:Gr}{m:Mo}{inj:Bool}:tP t p g m inj=0↔gY t p g=0/\Img t p g inj m:=by
 unfold tP;by_cases h:gY t p g=0
 .rw[ac (by simp[h]),aI0];simp[h]
 .rw[af h];simp[h]
theorem aKi{t:Ty}{l:List Co}{g:Gr}(h:tD t l g<l.length):mM t g l[tD t l g]=true:=List.findIdx_getElem
theorem aLt{t:Ty}{l:List Co}{g:Gr}:tD t l g<l.length↔∃c∈l,mM t g c=true:=List.findIdx_lt_length
theorem aA7{t:Ty}{L:List Ru}{l:List Co}:(eM t L l).2=0↔(dE t L l).2=0/\jL t l (dE t L l).1=[]:=by
 unfold eM;by_cases h:(dE t L l).2=0
 .rw[ac (by simp[h])];unfold aBZ jL;rw[List.map_eq_nil_iff,List.filter_eq_nil_iff];by_cases e:(dE t L l).1.all (fun d=>(eD t l d).2)=true
  .rw[af e];have e:=aq.1 e;exact⟨fun _=>⟨h,fun d hd=>by simp[e d hd]⟩,fun _=>rfl⟩
  .rw[ac e];refine⟨fun h=>(by cases h),fun ⟨_,h2⟩=>absurd (aq.2 fun d hd=>?_) e⟩;have:=h2 d hd
   simpa using this
 .rw[af h];exact⟨fun h2=>absurd h2 h,fun h2=>absurd h2.1 h⟩
theorem aKe{t:Ty}(ht:t.Fit){L:List Ru}{l:List Co}(hl:∀c∈l,c.g.Fit)(hD:∀d∈(dE t L l).1,d.o.g.Fit)(h:(eM t L l).2=0):aDz t L l (eM t L l).1=true:=by
 obtain⟨h0,h1⟩:=aA7.1 h;have ik:∀d∈(dE t L l).1,(eD t l d).2=true:=fun d hd=>by
  unfold jL at h1;rw[List.map_eq_nil_iff,List.filter_eq_nil_iff] at h1;have:=h1 d hd
  simpa using this
 have hp:(eM t L l).1=(dE t L l).1.map fun d=>(eD t l d).1:=by
  unfold eM aBZ;rw[ac (by simp[h0]),af (aq.2 ik)]
 rw[hp];unfold aDz;rw[bv h0,br,bv rfl,b9,b9,aq];intro i hi;have hi:=ay.1 hi;have hm:=ik _ (aa hi);have hg:=hD _ (aa hi);rw[f9,ab hi];simp only[dc];generalize (dE t L l).1[i]=d at *;unfold eD at hm ⊢;unfold qO;by_cases hs:d.step=true
 .rw[af hs] at hm ⊢;rw[af hs];split at hm
  .rename_i hlt;rw[gx hlt];have hf:=of_decide_eq_true (aKi hlt);obtain⟨z1,z2⟩:=aAl ht (hl _ (aa hlt)) hg hf;simp only[obE,decide_true,b9,bz,ab hlt];rw[bv (aJh.2 ⟨z1,z2⟩),Bool.and_true];exact bv ⟨by omega,by omega⟩
  .cases hm
 .rw[ac hs];rw[ac hs];simp[obE]
set_option maxRecDepth 100000 in
theorem aDu(t:Ty)(ht:t.Fit)(p g:Gr)(hp:p.Fit)(hg:g.Fit)(inj:Bool):DC 81 [t.av,p.av,g.av,B inj] (.tup [(iX t p g inj).1.av,I (iX t p g inj).2]):=by
 intro tok nt box nb;have hv:=aCG t ht p g hp hg;obtain⟨R,hR⟩:∃R,iX t p g inj=R:=⟨_,rfl⟩
 rw[hR];unfold iX at hR;refine sI func81 ntmps81 fun Hb Ht=>?_
 repeat first|simp|refine sR ?_
 refine sD (hv _ _) ?_;simp;by_cases c1:gY t p g=0
 .rw[ac (by simp[c1])] at hR;have ia:=yO (inj:=inj) ht hp hg c1;have h0:tyE t=0:=(oF c1).1
  have pq:(qR t p g inj).Nl true:=⟨fun _ x hx=>co hx,fun _ x hx=>co hx⟩
  have Aa:=aJm (qR t p g inj) ia h0 true pq 1 (by omega);have hL:(qR t p g inj).fnP 1 (qR t p g inj).p.nodes.length [] []=aBv t p g inj:=Sr.fnP_fnR ia
  unfold QFo at Aa;rw[hL] at Aa;try (simp[c1])
  repeat ((first|refine sR ?_|apply sC|apply sX);simp[c1])
  refine aN.sub (args':=[t.av,p.av,g.av,.agg [.d (.raw aLK),.d (.raw aLK)],B inj,I 1]) ⟨Sub.refl _,Sub.refl _,Sub.refl _,Sub.agg ⟨Sub.nilv,Sub.nilv,trivial⟩,Sub.refl _,Sub.refl _,trivial⟩ ?_;refine aN.of_a (Aa _ _ _ _) ?_;generalize aBv t p g inj=L at *;rintro v m' ⟨own,io,iz,rfl,rfl,htk⟩;cases L with
  | nil =>
   try (simp)
   repeat ((first|refine sR ?_|apply sC|apply sX);simp)
   refine sT (sG Hb Ht htk.old htk.le ?_);simp[<-hR,hdM,ints]
  | cons m r =>
   have n1:¬((r.length:Int)+1=0):=by omega
   have n2:((r.length:Int)+1==0)=false:=by simpa using n1
   try (simp[n1,n2])
   repeat ((first|refine sR ?_|apply sC|apply sX);simp[n1,n2])
   refine sT (sG Hb Ht htk.old htk.le ?_);simp[<-hR,hdM,ints]
 .rw[af c1] at hR;try (simp[c1])
  repeat ((first|refine sR ?_|apply sC|apply sX);simp[c1])
  refine sT (sH ?_);simp[<-hR,ints]
set_option maxRecDepth 100000 in
theorem aGZ(t:Ty)(ht:t.Fit)(p g:Gr)(hp:p.Fit)(hg:g.Fit)(inj:Bool):DC 90 [t.av,p.av,g.av,B inj] (.tup [(iX t p g inj).1.av,I (iX t p g inj).2]):=by
 intro tok nt box nb;have m7:=zW t ht p g hp hg;have jo:=aH6 p hp;obtain⟨R,hR⟩:∃R,iX t p g inj=R:=⟨_,rfl⟩
 rw[hR];unfold iX at hR;refine sI func90 ntmps90 fun Hb Ht=>?_
 repeat first|simp|refine sR ?_
 refine sD (m7 _ _) ?_;simp;by_cases c1:gY t p g=0
 .rw[ac (by simp[c1])] at hR;have ia:=yO (inj:=inj) ht hp hg c1;have jc:=aLl (qR t p g inj) ia;have hL:(qR t p g inj).fnR (qR t p g inj).p.nodes.length [] []=aBv t p g inj:=rfl
  rw[hL] at jc;try (simp[c1])
  repeat ((first|refine sR ?_|apply sC|apply sX);simp[c1])
  refine sD (jo _ _) ?_;simp;refine sD (jc _ _) ?_;generalize aBv t p g inj=L at *;cases L with
  | nil =>
   try (simp)
   repeat ((first|refine sR ?_|apply sC|apply sX);simp)
   refine sT (sH ?_);simp[<-hR,hdM,ints]
  | cons m r =>
   have n1:¬((r.length:Int)+1=0):=by omega
   have n2:((r.length:Int)+1==0)=false:=by simpa using n1
   try (simp[n1,n2])
   repeat ((first|refine sR ?_|apply sC|apply sX);simp[n1,n2])
   refine sT (sH ?_);simp[<-hR,hdM,ints]
 .rw[af c1] at hR;try (simp[c1])
  repeat ((first|refine sR ?_|apply sC|apply sX);simp[c1])
  refine sT (sH ?_);simp[<-hR,ints]
structure aOt (t:Ty) (r:Ru):Prop where
 sp:aCh r.sp
 hl:Lf t r.lg
 hr:Lf t r.rg
theorem aNe{t:Ty}{r:Ru}(ht:tyE t=0)(h:ruE t r=0):cQ r=0/\dF t r.lg=true/\dF t r.rg=true:=by
 unfold ruE at h;split at h
 .rename_i h1;exact absurd h h1
 .rename_i h1;split at h
  .rename_i h2;split at h
   .rename_i h3;exact⟨by simpa using h1,h2,h3⟩
   .cases h
  .cases h
theorem aI8{t:Ty}{g:Gr}(ht:tyE t=0)(va:vG g=0)(h:dF t g=true):Lf t g:=by
 unfold dF at h;split at h
 .rename_i h1;have h1:=aq.1 h1;have h2:=aq.1 h;refine⟨ht,va,fun x hx=>?_,fun e he=>h2 e he⟩;have:=h1 x hx
  have h3:=(bG va).2.1 x hx;simp only[bA,bd,au] at h3;unfold lvN at this;split at this
  .cases this
  .exact⟨by omega,this⟩
 .cases h
theorem aND{t:Ty}{L:List Ru}{l:List Co}{d:Du}:d∈duL t L l L.length↔∃i k n:Nat,∃(hi:i<L.length) (hk:k<l.length) (hn:n<(cH t L[i] l[k]).1.length),d=⟨⟨i,k,n,(mK L[i] (cH t L[i] l[k]).1[n]).1⟩,(mK L[i] (cH t L[i] l[k]).1[n]).2⟩:=by
 unfold duL duK;simp only[gm,ay];constructor
 .rintro⟨i,hi,k,hk,h⟩;unfold duC duW duN at h;rw[ab hi,ab hk] at h;simp only[bc,ay] at h;obtain⟨n,hn,rfl⟩:=h;refine⟨i,k,n,hi,hk,hn,?_⟩;simp[hn]
 .rintro⟨i,k,n,hi,hk,hn,rfl⟩;refine⟨i,hi,k,hk,?_⟩;unfold duC duW duN;rw[ab hi,ab hk];simp only[bc,ay];exact⟨n,hn,by simp[hn]⟩
theorem jB{t:Ty}{L:List Ru}{l:List Co}(h:fG t L l=0):tyE t=0/\(∀r∈L,ruE t r=0)/\(∀c∈l,cnE t c=0/\c.kind=1)/\L.length<=6/\l.length<=8:=by
 unfold fG at h;split at h
 .rename_i h1;exact absurd h h1
 rename_i h1;split at h
 .cases h
 rename_i h2;split at h
 .rename_i h3;exact absurd h h3
 rename_i h3;have h3:aA (qV t L) L.length=0:=by simpa using h3
 refine⟨by simpa using h1,fun r hr=>?_,fun c hc=>?_,by omega,by omega⟩
 .obtain⟨i,hi,rfl⟩:=bf hr;have:=dD _ h3 i hi
  unfold qV at this;rw[ab hi] at this;exact this
 .obtain⟨i,hi,rfl⟩:=bf hc;have:=dD _ h i hi
  unfold yL at this;rw[ab hi] at this;unfold coE at this;simp only at this;split at this
  .rename_i h4;exact absurd this h4
  .rename_i h4;split at this
   .rename_i h5;exact⟨by simpa using h4,h5⟩
   .cases this
theorem aJC{t:Ty}{r:Ru}(ht:tyE t=0)(h:ruE t r=0):aOt t r:=by
 obtain⟨h1,h2,h3⟩:=aNe ht h;obtain⟨s,a,b⟩:=gQ h1;exact⟨s,aI8 ht a h2,aI8 ht b h3⟩
abbrev bR(l:List Co):D:=.sl 5 (rCo l)
def aMF(xs:List Co)(f:FuncId)(caps:List AV)(nb:Nat)(box:Bxs)(tok:Tks)(nt:Nat)(i:Nat):AS:=⟨tl [(0,.d (bR xs)),(1,.fn (.func f) caps),(7,I xs.length),(8,I i)],lb nb box [],tok,nt⟩
theorem zC(xs:List Co)(f:FuncId)(caps:List AV)(p:Co->Bool)(hx:xs.length<=1000000)(box:Bxs)(nb:Nat)(tok:Tks)(nt:Nat)(hc:∀c∈caps,bF (fun k=>box k≠none) (fun _=>True) c)(hf:∀x∈xs,∀box' nb',Ext box box'->aD prog f (x.av::caps) ⟨box',nb',tok,nt⟩ fun v m=>v=B (p x)/\m=⟨box',nb',tok,nt⟩):
  aD prog 134 [.d (bR xs),.fn (.func f) caps] ⟨box,nb,tok,nt⟩ fun v m=>v=I (if bB p xs=true then (xs.findIdx p:Nat) else -1)/\m=⟨box,nb,tok,nt⟩:=by
 refine sI func134 ntmps134 fun Hb Ht=>?_
 repeat first|simp|refine sR ?_
 apply sN;refine sL (aMF xs f caps nb box tok nt) (fun i=>i<=xs.length/\∀x∈xs.take i,p x=false) (fun i=>xs.length-i) 0 ⟨ai _,by simp⟩ (wM (nr0 _) rfl (by simp[ToL];exact .same (lI hc Hb [] (by simp) rfl _)) trivial) ?_;rintro i S' ⟨hi,htk⟩ hS;simp only[aMF] at hS;subst hS;have hw:=sW (i:=i) (by omega);repeat first|simp|refine sR ?_|apply sC
 refine⟨fun hlt=>?_,fun hge=>?_⟩
 .have rp:=hf xs[i] (aa _);have w7:p xs[i]=true->bB p xs=true/\(xs.findIdx p=i):=fun he=>lB hlt htk he
  have ld:p xs[i]=false->∀x∈xs.take (i+1),p x=false:=fun he x hx=>by
   rw[ah hlt] at hx;rcases ap.1 hx with hx|hx
   .exact htk x hx
   .simp at hx;rw[hx];exact he
  repeat first|simp[hlt]|refine sR ?_
  generalize xs[i]=x at *;refine aN.of_b (rp _ _ ((Ext.refl box).lb Hb [])) ?_;simp;cases he:p x
  .apply sC;simp;repeat first|simp[hw]|refine sR ?_
   apply sE;refine⟨i+1,⟨hlt,?_⟩,by omega,wM (nr0 _) rfl (by simp[ToL];exact .same (lI hc Hb [] (by simp) rfl _)) trivial⟩;exact ld he
  .obtain⟨h1,h2⟩:=w7 he;apply sC;repeat first|simp|refine sR ?_
   refine sT (sH ?_);simp[h1,h2]
 .have hn:bB p xs=false:=by
   rw[ak hge] at htk;simpa[bB] using htk
  apply sX;simp only[AU,↓reduceIte];repeat first|simp|refine sR ?_
  refine sT (sH ?_);simp[hn]
theorem tL(xs:List Co)(f:FuncId)(caps:List AV)(p:Co->Bool)(hx:xs.length<=1000000)(box:Bxs)(nb:Nat)(tok:Tks)(nt:Nat)(hc:∀c∈caps,bF (fun k=>box k≠none) (fun _=>True) c)(hf:∀x∈xs,∀box' nb',Ext box box'->aD prog f (x.av::caps) ⟨box',nb',tok,nt⟩ fun v m=>v=B (p x)/\m=⟨box',nb',tok,nt⟩):
  aD prog 85 [.d (bR xs),.fn (.func f) caps] ⟨box,nb,tok,nt⟩ fun v m=>v=B (bB p xs)/\m=⟨box,nb,tok,nt⟩:=by
 obtain⟨A,j7⟩:∃A,bB p xs=A:=⟨_,rfl⟩
 have hi:=fun b nb' h1 h2=>zC xs f caps p hx b nb' tok nt h1 h2
 rw[j7];simp only[j7] at hi;refine sI func85 ntmps85 fun Hb Ht=>?_
 repeat first|simp|refine sR ?_
 refine aN.of_b (hi (lb nb box []) _ (fun c h=>(hc c h).mono (fun k hk=>by rw[Hb];exact hk) fun _ h=>h) (fun x qs box' nb' he=>hf x qs box' nb' (by rw[Hb] at he;exact he))) ?_;simp;cases A
 .repeat first|simp|refine sR ?_
  refine sT (sH ?_);simp
 .have h0:(0:Int)<=(xs.findIdx p:Nat):=by omega
  repeat first|simp|refine sR ?_
  refine sT (sH ?_);simp[h0]
end Go.AM
