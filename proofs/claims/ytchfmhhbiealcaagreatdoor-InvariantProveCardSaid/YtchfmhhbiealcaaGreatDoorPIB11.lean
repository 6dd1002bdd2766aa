import Derived.Test.YtchfmhhbiealcaaGreatDoorPIB10
set_option linter.unusedSimpArgs false
set_option linter.unusedVariables false
namespace Go.AM
theorem bk:type_of% @decide_eq_false:=@decide_eq_false
theorem dz.{u}:type_of% @List.all_eq_false.{u}:=@List.all_eq_false
theorem bv:type_of% @decide_eq_true:=@decide_eq_true
open Go Go.Proofs Go.ChangeShapes
open Go.Proofs.Tryz
structure RdF (P:Program) (T:TypeId) {α:Type} (en:α->List D) (ok:α->Prop) (n:Nat):Prop where
 sound:∀{H:Type} (e:TypeId × Value->H) (w:World) (base:Nat) (spare:Nat->Bool) (i7:Bool) (cs:List Value) (x:DataW H × List MemPlace),
  DataW.trod e P w base spare i7 n T cs=some x->∃y,Rd w cs (en y)/\(gJ P T x.1->ok y)
theorem Rdr.f{P:Program}{T:TypeId}{α:Type}(r:Rdr P T α)(n:Nat):RdF P T r.enc r.ok n:=⟨fun e w base spare i7 cs x hx=>r.sound e w base spare i7 n cs x hx⟩
theorem RdF.zero{P:Program}{T:TypeId}{α:Type}{en:α->List D}{ok:α->Prop}:RdF P T en ok 0:=⟨fun e w base spare i7 cs x hx=>by simp[DataW.trod] at hx⟩
def Rdr.ofF{P:Program}{T:TypeId}{α:Type}(en:α->List D)(ok:α->Prop)(len:∀x,(en x).length=P.cellsOf T)(h:∀n,RdF P T en ok n):Rdr P T α:=⟨en,ok,len,fun e w base spare i7 n cs x hx=>(h n).sound e w base spare i7 cs x hx⟩
theorem RdF.slice{P:Program}{T E:TypeId}{α:Type}{en:α->List D}{ok:α->Prop}{n:Nat}(r:RdF P E en ok n)(k:Nat)(hk:P.cellsOf E=k)(hlen:∀x,(en x).length=k)(h:P.underlying T=some (.slice E)):
  RdF P T (fun l:List α=>[.sl k (l.map en)]) (fun l=>(∀x∈l,ok x)/\l.length*P.bytesOf E<=reachBytes) (n+1):=by
 subst hk;constructor
 intro H e w base spare i7 cs x hx;rcases DataW.trod_slice h hx with ⟨rfl,rfl⟩|⟨a,len,cap,elems,rest,n',uu,rfl,rfl,hb,hl,hm,z8,j6,_⟩
 .exact⟨[],Rd.one (.sl (es:=[]) (fun _ _=>default) (nr0 _) (by decide) (by simp) (by simp) (by simp) (by simp)),fun _=>⟨by simp,by simp⟩⟩
 .obtain rfl:n'=n:=by omega
  have key:∀i (hi:i<elems.length),∃cs y,cs.length=P.cellsOf E/\(∀j (hj:j<cs.length),w.cell? (a.add (i*P.cellsOf E+j))=some cs[j])/\Rd w cs (en y)/\(gJ P E elems[i].1->ok y):=by
   intro i hi;have h1:=j6 i (by omega);have h2:elems[i]?=some elems[i]:=ab hi
   rw[h2,dv] at h1;obtain⟨cs,m9,Cv⟩:=h1;obtain⟨nm,hcc⟩:=xB m9;obtain⟨y,hy,ia⟩:=r.sound e w base spare i7 cs _ Cv;refine⟨cs,y,nm,fun j hj=>?_,hy,ia⟩;rw[<-Addr.add_add];exact hcc j hj
  have pick:∀m,m<=elems.length->∃ys:List α,ys.length=m/\(∀i (hi:i<ys.length) (uf:i<elems.length),∃cs,cs.length=P.cellsOf E/\(∀j (hj:j<cs.length),w.cell? (a.add (i*P.cellsOf E+j))=some cs[j])/\Rd w cs (en ys[i])/\(gJ P E elems[i].1->ok ys[i])):=by
   intro m;induction m with
   | zero=>intro _;exact⟨[],rfl,fun i hi=>by simp at hi⟩
   | succ m ih =>
    intro mb;obtain⟨ys,xc,ik⟩:=ih (by omega);obtain⟨cs,y,g1,g2,g3,g4⟩:=key m (by omega);refine⟨ys++[y],by simp[xc],fun i hi uf=>?_⟩;by_cases xt:i<ys.length
    .rw[b6 xt];exact ik i xt uf
    .have:i=m:=by simp at hi;omega
     subst this;have e1:(ys++[y])[i]=y:=by
      rw[ch (by omega)];simp
     rw[e1];exact⟨cs,g1,g2,g3,g4⟩
  obtain⟨ys,xc,ik⟩:=pick elems.length (nr0 _);refine⟨ys,Rd.one ?_,fun iw=>?_⟩
  .have AZ:len=ys.length:=by omega
   subst AZ;have pz:ys.length=(ys.map en).length:=by simp
   rw[pz];refine .sl (fun i j=>(w.cell? (a.add (i*P.cellsOf E+j))).getD default) (by simpa using hl) hm (fun e he=>?_) (fun _=>⟨a,rfl⟩) (fun a' xi i j hi hj=>?_) (fun i j hi hj=>?_)
   .obtain⟨y,_,rfl⟩:=bc.1 he;exact hlen y
   .cases xi
    obtain⟨cs,g1,g2,_⟩:=ik i (by simpa using hi) (by simp at hi;omega);rw[g2 j (by omega)];exact⟨trivial,rfl⟩
   .obtain⟨cs,g1,g2,g3,_⟩:=ik i (by simpa using hi) (by simp at hi;omega);simp only[bl] at hj ⊢;have AX:j<cs.length:=by rw[g3.1];exact hj
    rw[g2 j AX];exact g3.2 j AX hj
  .obtain⟨w1,w2⟩:=uN h iw;refine⟨fun y hy=>?_,by simpa[xc] using w1⟩;obtain⟨i,hi,rfl⟩:=bf hy;obtain⟨_,_,_,_,h4⟩:=ik i hi (by omega);exact h4 (w2 _ (bc.2 ⟨_,aa _,rfl⟩))
theorem aP5{α:Type}{l:List α}(h:l.length=4):l=[l[0]'(by omega),l[1]'(by omega),l[2]'(by omega),l[3]'(by omega)]:=by
 match l,h with
 | [p,q,r,s],_=>rfl
theorem RdF.struct4{P:Program}{T A B C E:TypeId}{α β γ δ:Type}{ea:α->List D}{eb:β->List D}{ec:γ->List D}{ed:δ->List D}{oa:α->Prop}{ob:β->Prop}{oc:γ->Prop}{od:δ->Prop}{n:Nat}(r:RdF P A ea oa n)(s:RdF P B eb ob n)(t:RdF P C ec oc n)(u:RdF P E ed od n){f0 f1 f2 f3:Field}(h:P.underlying T=some (.struct #[f0,f1,f2,f3]))(hA:f0.type=A)(hB:f1.type=B)(hC:f2.type=C)(hE:f3.type=E)(h0:f0.offset=0)(h1:f1.offset=P.cellsOf A)(h2:f2.offset=P.cellsOf A+P.cellsOf B)(h3:f3.offset=P.cellsOf A+P.cellsOf B+P.cellsOf C)(hc:P.cellsOf T=P.cellsOf A+P.cellsOf B+P.cellsOf C+P.cellsOf E):
  RdF P T (fun x:α × β × γ × δ=>ea x.1++(eb x.2.1++(ec x.2.2.1++ed x.2.2.2))) (fun x=>oa x.1/\ob x.2.1/\oc x.2.2.1/\od x.2.2.2) (n+1):=by
 constructor
 intro H e w base spare i7 cs x hx;obtain⟨xs,n',uu,rfl,hl,tr,j6⟩:=DataW.trod_struct h hx;obtain rfl:n'=n:=by omega
 have ss:xs.length=4:=tr
 have g0:=j6 0 f0 rfl;have g1:=j6 1 f1 rfl;have g2:=j6 2 f2 rfl;have g3:=j6 3 f3 rfl;have e0:xs[0]?=some (xs[0]'(by omega)):=ab (by omega)
 have e1:xs[1]?=some (xs[1]'(by omega)):=ab (by omega)
 have e2:xs[2]?=some (xs[2]'(by omega)):=ab (by omega)
 have e3:xs[3]?=some (xs[3]'(by omega)):=ab (by omega)
 rw[e0,h0,hA] at g0;rw[e1,h1,hB] at g1;rw[e2,h2,hC] at g2;rw[e3,h3,hE] at g3;obtain⟨y,k1,k2⟩:=r.sound e w base spare i7 _ _ g0;obtain⟨z,m1,m2⟩:=s.sound e w base spare i7 _ _ g1;obtain⟨q,p1,p2⟩:=t.sound e w base spare i7 _ _ g2;obtain⟨v,q1,q2⟩:=u.sound e w base spare i7 _ _ g3;refine⟨(y,z,q,v),?_,fun iw=>?_⟩
 rotate_left
 .unfold gJ at iw k2 m2 p2 q2;have e2:xs=[xs[0]'(by omega),xs[1]'(by omega),xs[2]'(by omega),xs[3]'(by omega)]:=aP5 ss
  rw[e2] at iw;simp only[di,d6,DataW.weights,h,DataW.weightsEach,hA,hB,hC,hE,fw,bd] at iw;exact⟨k2 iw.1,m2 iw.2.1,p2 iw.2.2.1,q2 iw.2.2.2.1⟩
 have m9:cs=(cs.drop 0).take (P.cellsOf A)++((cs.drop (P.cellsOf A)).take (P.cellsOf B)++((cs.drop (P.cellsOf A+P.cellsOf B)).take (P.cellsOf C)++(cs.drop (P.cellsOf A+P.cellsOf B+P.cellsOf C)).take (P.cellsOf E))):=by
  have:(cs.drop (P.cellsOf A+P.cellsOf B+P.cellsOf C)).take (P.cellsOf E)=cs.drop (P.cellsOf A+P.cellsOf B+P.cellsOf C):=ak (by simp;omega)
  rw[this];have e3:=cg (P.cellsOf C) (cs.drop (P.cellsOf A+P.cellsOf B));have e2:=cg (P.cellsOf B) (cs.drop (P.cellsOf A));rw[List.drop_drop] at e3 e2;rw[e3,e2,List.drop_zero,cg]
 rw[m9];exact k1.append (m1.append (p1.append q1))
theorem aNB:prog.bytesOf 3=8:=by kernel_rfl
theorem aKO:prog.bytesOf 164=24:=by kernel_rfl
theorem aGb:prog.bytesOf 381=32:=by kernel_rfl
theorem aFt:prog.bytesOf 383=40:=by kernel_rfl
theorem aLJ:prog.bytesOf 50=184:=by kernel_rfl
theorem eF{l:List Int}(h:tO.ok l):l.length<=dP:=by
 have h2:l.length*prog.bytesOf 3<=reachBytes:=h.2
 rw[aNB] at h2;unfold reachBytes at h2;rw[bP];omega
theorem aE2{l:List E}(h:aF0.ok l):l.length<=dP:=by
 have h2:l.length*prog.bytesOf 164<=reachBytes:=h.2
 rw[aKO] at h2;unfold reachBytes at h2;rw[bP];omega
structure Gr.Big (g:Gr):Prop where
 n:g.nodes.length<=dP
 e:g.edges.length<=dP
def gB:Rdr prog 40 Gr:=aIW.map (fun x=>⟨x.1,x.2⟩) (fun g=>[ints g.nodes,AM.edges g.edges]) Gr.Big (fun _=>rfl) (fun _ h=>⟨eF h.1,aE2 h.2⟩) (fun _=>by kernel_rfl)
def kX:Rdr prog 47 (List Int × List Int):=Rdr.struct2 tO tO underlying47 rfl rfl rfl (by kernel_rfl) (by kernel_rfl)
def aEr:Rdr prog 379 (Int × Int):=Rdr.struct2 bJ bJ underlying379 rfl rfl rfl (by kernel_rfl) (by kernel_rfl)
def aLx:Rdr prog 381 (Int × Int × Int × Int):=Rdr.struct3 bJ bJ aEr underlying381 rfl rfl rfl rfl (by kernel_rfl) (by kernel_rfl) (by kernel_rfl)
def aNv:Rdr prog 381 Sl:=aLx.map (fun x=>⟨x.1,x.2.1,x.2.2.1,x.2.2.2⟩) Sl.cells (fun _=>True) (fun _=>rfl) (fun _ _=>trivial) (fun _=>by kernel_rfl)
def rQ:Rdr prog 41 (List Sl):=aNv.sliceN 4 underlying41 (by kernel_rfl) (by kernel_rfl)
def aLY:Rdr prog 383 (Int × (Int × Int) × (Int × Int)):=Rdr.struct3 bJ aEr aEr underlying383 rfl rfl rfl rfl (by kernel_rfl) (by kernel_rfl) (by kernel_rfl)
def aNR:Rdr prog 383 Te:=aLY.map (fun x=>⟨x.1,x.2.1.1,x.2.1.2,x.2.2.1,x.2.2.2⟩) Te.cells (fun _=>True) (fun _=>rfl) (fun _ _=>trivial) (fun _=>by kernel_rfl)
def rW:Rdr prog 42 (List Te):=aNR.sliceN 5 underlying42 (by kernel_rfl) (by kernel_rfl)
theorem aLf(n:Nat):RdF prog 44 (fun x:Gr × List Sl × Int × List Te=>gB.enc x.1++(rQ.enc x.2.1++(bJ.enc x.2.2.1++rW.enc x.2.2.2))) (fun x=>gB.ok x.1/\rQ.ok x.2.1/\bJ.ok x.2.2.1/\rW.ok x.2.2.2) n:=by
 cases n with
 | zero=>exact .zero
 | succ n=>exact RdF.struct4 (gB.f n) (rQ.f n) (bJ.f n) (rW.f n) underlying44 rfl rfl rfl rfl rfl (by kernel_rfl) (by kernel_rfl) (by kernel_rfl) (by kernel_rfl)
def uI:Rdr prog 44 (Gr × List Sl × Int × List Te):=Rdr.ofF _ _ (fun x=>by simp[gB.len,rQ.len,bJ.len,rW.len];kernel_rfl) aLf
def Cd.rowD(c:Cd):List D:=[.raw (.int .i64 c.kind),zU c.kids,ints c.m.nodes,ints c.m.edges,ints c.g.nodes,AM.edges c.g.edges,iE c.sl,.raw (.int .i64 c.vars),iG c.te]
theorem aID:∀n,RdF prog 50 Cd.cells Cd.Big n
 | 0=>.zero
 | 1=>by
  constructor
  intro H e w base spare i7 cs x hx;obtain⟨xs,n',uu,rfl,hl,tr,j6⟩:=DataW.trod_struct underlying50 hx;obtain rfl:n'=0:=by omega
  have g0:=j6 0 _ rfl;simp[DataW.trod] at g0;subst g0;simp at tr
 | n+2=>by
  have ih:=aID n;have hk:=ih.slice 9 (by kernel_rfl) (fun c=>by rw[c.cells_eq];rfl) (T:=48) underlying48;have hs:=RdF.struct4 (bJ.f (n+1)) hk (kX.f (n+1)) (uI.f (n+1)) underlying50 rfl rfl rfl rfl rfl (by kernel_rfl) (by kernel_rfl) (by kernel_rfl) (by kernel_rfl);constructor
  intro H e w base spare i7 cs x hx;obtain⟨y,h1,h2⟩:=hs.sound e w base spare i7 cs x hx;refine⟨.mk y.1 y.2.1 ⟨y.2.2.1.1,y.2.2.1.2⟩ y.2.2.2.1 y.2.2.2.2.1 y.2.2.2.2.2.1 y.2.2.2.2.2.2,?_,fun iw=>?_⟩
  .rw[Cd.cells_eq];exact h1
  .obtain⟨_,⟨k1,k2⟩,⟨m1,m2⟩,g1,s1,_,t1⟩:=h2 iw;have g2:y.2.2.2.1.Big:=g1
   have s2:y.2.2.2.2.1.length*prog.bytesOf 381<=reachBytes:=s1.2
   have t2:y.2.2.2.2.2.2.length*prog.bytesOf 383<=reachBytes:=t1.2
   rw[aGb] at s2;rw[aFt] at t2;rw[aLJ] at k2;unfold reachBytes at s2 t2 k2;exact .mk (by rw[aKA];simp only[Cd.kids];omega) (eF m1) (eF m2) g2.n g2.e (by rw[bP];simp only[Cd.sl];omega) (by rw[bP];simp only[Cd.te];omega) k1
theorem aIk(c:Cd):c.cells.length=prog.cellsOf 50:=by rw[c.cells_eq];kernel_rfl
def aKD:Rdr prog 50 Cd:=Rdr.ofF Cd.cells Cd.Big aIk aID
def Rdr.str{P:Program}{T:TypeId}(h:P.underlying T=some .string)(hc:P.cellsOf T=1):Rdr P T ByteArray where
 enc n:=[.raw (.string n)]
 ok n:=n.size<=maxLen
 len _:=by simp[hc]
 sound e w base spare i7 fuel cs x hx:=by
  cases fuel with
  | zero=>simp[DataW.trod] at hx
  | succ n =>
   unfold DataW.trod at hx;rw[h] at hx;split at hx<;>simp_all
   exact⟨_,Rd.one (.raw rfl),fun _=>hx.1⟩
def Rdr.bool{P:Program}{T:TypeId}(h:P.underlying T=some .bool)(hc:P.cellsOf T=1):Rdr P T Bool where
 enc n:=[.raw (.bool n)]
 ok n:=True
 len _:=by simp[hc]
 sound e w base spare i7 fuel cs x hx:=by
  cases fuel with
  | zero=>simp[DataW.trod] at hx
  | succ n =>
   unfold DataW.trod at hx;rw[h] at hx;split at hx<;>first|(simp_all;done)|skip
   exact⟨_,Rd.one (.raw rfl),fun _=>trivial⟩
theorem aPF{α:Type}{l:List α}(h:l.length=7):l=[l[0]'(by omega),l[1]'(by omega),l[2]'(by omega),l[3]'(by omega),l[4]'(by omega),l[5]'(by omega),l[6]'(by omega)]:=by
 match l,h with
 | [p0,p1,p2,p3,p4,p5,p6],_=>rfl
theorem RdF.struct7{P:Program}{T T0 T1 T2 T3 T4 T5 T6:TypeId}{a0 a1 a2 a3 a4 a5 a6:Type}{e0:a0->List D}{e1:a1->List D}{e2:a2->List D}{e3:a3->List D}{e4:a4->List D}{e5:a5->List D}{e6:a6->List D}{o0:a0->Prop}{o1:a1->Prop}{o2:a2->Prop}{o3:a3->Prop}{o4:a4->Prop}{o5:a5->Prop}{o6:a6->Prop}{n:Nat}(r0:RdF P T0 e0 o0 n)(r1:RdF P T1 e1 o1 n)(r2:RdF P T2 e2 o2 n)(r3:RdF P T3 e3 o3 n)(r4:RdF P T4 e4 o4 n)(r5:RdF P T5 e5 o5 n)(r6:RdF P T6 e6 o6 n){f0 f1 f2 f3 f4 f5 f6:Field}(h:P.underlying T=some (.struct #[f0,f1,f2,f3,f4,f5,f6]))(t0:f0.type=T0)(t1:f1.type=T1)(t2:f2.type=T2)(t3:f3.type=T3)(t4:f4.type=T4)(t5:f5.type=T5)(t6:f6.type=T6)(h0:f0.offset=0)(h1:f1.offset=P.cellsOf T0)(h2:f2.offset=P.cellsOf T0+P.cellsOf T1)(h3:f3.offset=P.cellsOf T0+P.cellsOf T1+P.cellsOf T2)(h4:f4.offset=P.cellsOf T0+P.cellsOf T1+P.cellsOf T2+P.cellsOf T3)(h5:f5.offset=P.cellsOf T0+P.cellsOf T1+P.cellsOf T2+P.cellsOf T3+P.cellsOf T4)(h6:f6.offset=P.cellsOf T0+P.cellsOf T1+P.cellsOf T2+P.cellsOf T3+P.cellsOf T4+P.cellsOf T5)(hc:P.cellsOf T=P.cellsOf T0+P.cellsOf T1+P.cellsOf T2+P.cellsOf T3+P.cellsOf T4+P.cellsOf T5+P.cellsOf T6):
  RdF P T (fun x:a0 × a1 × a2 × a3 × a4 × a5 × a6=>e0 x.1++(e1 x.2.1++(e2 x.2.2.1++(e3 x.2.2.2.1++(e4 x.2.2.2.2.1++(e5 x.2.2.2.2.2.1++e6 x.2.2.2.2.2.2)))))) (fun x=>o0 x.1/\o1 x.2.1/\o2 x.2.2.1/\o3 x.2.2.2.1/\o4 x.2.2.2.2.1/\o5 x.2.2.2.2.2.1/\o6 x.2.2.2.2.2.2) (n+1):=by
 constructor
 intro H e w base spare i7 cs x hx;obtain⟨xs,n',uu,rfl,hl,tr,j6⟩:=DataW.trod_struct h hx;obtain rfl:n'=n:=by omega
 have ss:xs.length=7:=tr
 have g0:=j6 0 f0 rfl;have g1:=j6 1 f1 rfl;have g2:=j6 2 f2 rfl;have g3:=j6 3 f3 rfl;have g4:=j6 4 f4 rfl;have g5:=j6 5 f5 rfl;have g6:=j6 6 f6 rfl;have e0:xs[0]?=some (xs[0]'(by omega)):=ab (by omega)
 have e1:xs[1]?=some (xs[1]'(by omega)):=ab (by omega)
 have e2:xs[2]?=some (xs[2]'(by omega)):=ab (by omega)
 have e3:xs[3]?=some (xs[3]'(by omega)):=ab (by omega)
 have e4:xs[4]?=some (xs[4]'(by omega)):=ab (by omega)
 have e5:xs[5]?=some (xs[5]'(by omega)):=ab (by omega)
 have e6:xs[6]?=some (xs[6]'(by omega)):=ab (by omega)
 rw[e0,h0,t0] at g0;rw[e1,h1,t1] at g1;rw[e2,h2,t2] at g2;rw[e3,h3,t3] at g3;rw[e4,h4,t4] at g4;rw[e5,h5,t5] at g5;rw[e6,h6,t6] at g6;obtain⟨y0,k0,m0⟩:=r0.sound e w base spare i7 _ _ g0;obtain⟨y1,k1,m1⟩:=r1.sound e w base spare i7 _ _ g1;obtain⟨y2,k2,m2⟩:=r2.sound e w base spare i7 _ _ g2;obtain⟨y3,k3,m3⟩:=r3.sound e w base spare i7 _ _ g3;obtain⟨y4,k4,m4⟩:=r4.sound e w base spare i7 _ _ g4;obtain⟨y5,k5,m5⟩:=r5.sound e w base spare i7 _ _ g5;obtain⟨y6,k6,m6⟩:=r6.sound e w base spare i7 _ _ g6;refine⟨(y0,y1,y2,y3,y4,y5,y6),?_,fun iw=>?_⟩
 rotate_left
 .unfold gJ at iw m0 m1 m2 m3 m4 m5 m6;rw[aPF ss] at iw;simp only[di,d6,DataW.weights,h,DataW.weightsEach,t0,t1,t2,t3,t4,t5,t6,fw,bd] at iw;exact⟨m0 iw.1,m1 iw.2.1,m2 iw.2.2.1,m3 iw.2.2.2.1,m4 iw.2.2.2.2.1,m5 iw.2.2.2.2.2.1,m6 iw.2.2.2.2.2.2.1⟩
 have m9:cs=(cs.drop (0)).take (P.cellsOf T0)++((cs.drop (P.cellsOf T0)).take (P.cellsOf T1)++((cs.drop (P.cellsOf T0+P.cellsOf T1)).take (P.cellsOf T2)++((cs.drop (P.cellsOf T0+P.cellsOf T1+P.cellsOf T2)).take (P.cellsOf T3)++((cs.drop (P.cellsOf T0+P.cellsOf T1+P.cellsOf T2+P.cellsOf T3)).take (P.cellsOf T4)++((cs.drop (P.cellsOf T0+P.cellsOf T1+P.cellsOf T2+P.cellsOf T3+P.cellsOf T4)).take (P.cellsOf T5)++((cs.drop (P.cellsOf T0+P.cellsOf T1+P.cellsOf T2+P.cellsOf T3+P.cellsOf T4+P.cellsOf T5)).take (P.cellsOf T6))))))):=by
  have:(cs.drop (P.cellsOf T0+P.cellsOf T1+P.cellsOf T2+P.cellsOf T3+P.cellsOf T4+P.cellsOf T5)).take (P.cellsOf T6)=cs.drop (P.cellsOf T0+P.cellsOf T1+P.cellsOf T2+P.cellsOf T3+P.cellsOf T4+P.cellsOf T5):=ak (by simp;omega)
  rw[this];have e5:=cg (P.cellsOf T5) (cs.drop (P.cellsOf T0+P.cellsOf T1+P.cellsOf T2+P.cellsOf T3+P.cellsOf T4));have e4:=cg (P.cellsOf T4) (cs.drop (P.cellsOf T0+P.cellsOf T1+P.cellsOf T2+P.cellsOf T3));have e3:=cg (P.cellsOf T3) (cs.drop (P.cellsOf T0+P.cellsOf T1+P.cellsOf T2));have e2:=cg (P.cellsOf T2) (cs.drop (P.cellsOf T0+P.cellsOf T1));have e1:=cg (P.cellsOf T1) (cs.drop (P.cellsOf T0));rw[List.drop_drop] at e5 e4 e3 e2 e1;rw[e5,e4,e3,e2,e1,List.drop_zero,cg]
 rw[m9];exact k0.append (k1.append (k2.append (k3.append (k4.append (k5.append (k6))))))
def eO:Rdr prog 9 ByteArray:=Rdr.str underlying9 (by kernel_rfl)
def nM:Rdr prog 4 Bool:=Rdr.bool underlying4 (by kernel_rfl)
def vI:Rdr prog 46 (List Int × List Int):=Rdr.struct2 tO tO underlying46 rfl rfl rfl (by kernel_rfl) (by kernel_rfl)
theorem yV{l:List Sl}(h:rQ.ok l):l.length<=dP:=by
 have h2:l.length*prog.bytesOf 381<=reachBytes:=h.2
 rw[aGb] at h2;have:reachBytes=140737488351232:=rfl
 rw[bP];omega
theorem wS{l:List Te}(h:rW.ok l):l.length<=dP:=by
 have h2:l.length*prog.bytesOf 383<=reachBytes:=h.2
 rw[aFt] at h2;have:reachBytes=140737488351232:=rfl
 rw[bP];omega
abbrev RuT:=ByteArray × (Gr × List Sl × Int × List Te) × (Gr × List Sl × Int × List Te) × (List Int × List Int) × (List Int × List Int) × Bool × Cd
theorem aM8(n:Nat):RdF prog 52 (fun x:RuT=>eO.enc x.1++(uI.enc x.2.1++(uI.enc x.2.2.1++(vI.enc x.2.2.2.1++(kX.enc x.2.2.2.2.1++(nM.enc x.2.2.2.2.2.1++aKD.enc x.2.2.2.2.2.2)))))) (fun x=>eO.ok x.1/\uI.ok x.2.1/\uI.ok x.2.2.1/\vI.ok x.2.2.2.1/\kX.ok x.2.2.2.2.1/\nM.ok x.2.2.2.2.2.1/\aKD.ok x.2.2.2.2.2.2) n:=by
 cases n with
 | zero=>exact .zero
 | succ n=>exact RdF.struct7 (eO.f n) (uI.f n) (uI.f n) (vI.f n) (kX.f n) (nM.f n) (aKD.f n) underlying52 rfl rfl rfl rfl rfl rfl rfl rfl (by kernel_rfl) (by kernel_rfl) (by kernel_rfl) (by kernel_rfl) (by kernel_rfl) (by kernel_rfl) (by kernel_rfl)
def aO5:Rdr prog 52 RuT:=Rdr.ofF _ _ (fun x=>by simp[eO.len,uI.len,vI.len,kX.len,nM.len,aKD.len];kernel_rfl) aM8
def Ru.rowD(r:Ru):List D:=[.raw (.string r.name),ints r.lg.nodes,AM.edges r.lg.edges,iE r.lsl,.raw (.int .i64 r.lv),iG r.lte,ints r.rg.nodes,AM.edges r.rg.edges,iE r.rsl,.raw (.int .i64 r.rv),iG r.rte,
 ints r.k.nodes,ints r.k.edges,ints r.i.nodes,ints r.i.edges,.raw (.bool r.inj)]++r.c.cells
theorem aJ9(r:Ru):r.rowD.length=prog.cellsOf 52:=by rw[Ru.rowD,r.c.cells_eq];kernel_rfl
def aSI:Rdr prog 52 Ru:=aO5.map (fun x=>⟨x.1,x.2.1.1,x.2.1.2.1,x.2.1.2.2.1,x.2.1.2.2.2,x.2.2.1.1,x.2.2.1.2.1,x.2.2.1.2.2.1,x.2.2.1.2.2.2,⟨x.2.2.2.1.1,x.2.2.2.1.2⟩,⟨x.2.2.2.2.1.1,x.2.2.2.2.1.2⟩,x.2.2.2.2.2.1,x.2.2.2.2.2.2⟩) Ru.rowD Ru.Big (fun _=>rfl) (fun x h=>⟨⟨eF h.2.2.2.1.1,eF h.2.2.2.1.2⟩,⟨eF h.2.2.2.2.1.1,eF h.2.2.2.2.1.2⟩,yV h.2.1.2.1,wS h.2.1.2.2.2,yV h.2.2.1.2.1,wS h.2.2.1.2.2.2,h.2.2.2.2.2.2⟩) aJ9
def tR(s:ByteArray):Bool:=decide (s.size<=40)
def rZ(a:At):Bool:=if 40<a.name.size then false else if 25<a.names.length then false else cJ tR a.names
def dQ(t:Ty):Nat->Nat
 | 0=>0
 | i+1=>dQ t i+(t.nd i).own.length
def mP(t:Ty)(i:Nat):Int:=if 30<dQ t (i+1) then 1 else if 40<(t.nd i).name.size then 1 else if cJ rZ (t.nd i).own=true then 0 else 1
def vW(e:ET):Bool:=decide (e.name.size<=40)
def aCQ(t:Ty):Bool:=if 20<t.nodes.length then false else if 30<t.edges.length then false else if aA (mP t) t.nodes.length≠0 then false else cJ vW t.edges
structure At.Big (a:At):Prop where
 n:a.name.size<=maxLen
 l:a.names.length<=dP
 s:∀x∈a.names,x.size<=maxLen
structure NT.Big (x:NT):Prop where
 n:x.name.size<=maxLen
 l:x.own.length<=dP
 a:∀y∈x.own,y.Big
structure Ty.Big (t:Ty):Prop where
 n:t.nodes.length<=dP
 e:t.edges.length<=dP
 nn:∀x∈t.nodes,x.Big
 en:∀x∈t.edges,x.name.size<=maxLen
theorem xQ{α:Type}{p:α->Bool}{l:List α}:cJ p l=true↔∀x∈l,p x=true:=by simp[cJ]
theorem aGG{a:At}(h:rZ a=true):a.Fit:=by
 unfold rZ at h;split at h
 .cases h
 .split at h
  .cases h
  .rw[xQ] at h;exact⟨by omega,⟨by omega,fun x hx=>by have:=h x hx;simp only[tR,au] at this;omega⟩⟩
theorem xL{t:Ty}{i:Nat}(h:mP t i=0):dQ t (i+1)<=30/\(t.nd i).name.size<=40/\∀x∈(t.nd i).own,x.Fit:=by
 unfold mP at h;split at h
 .cases h
 .split at h
  .cases h
  .split at h
   .rename_i h1 h2 h3;rw[xQ] at h3;exact⟨by omega,by omega,fun x hx=>aGG (h3 x hx)⟩
   .cases h
theorem aIq{t:Ty}(h:aCQ t=true):t.Fit:=by
 unfold aCQ at h;split at h
 .cases h
 .split at h
  .cases h
  .split at h
   .cases h
   .rename_i h1 h2 h3;have hz:=dX _ (dq.1 h3);rw[xQ] at h;have key:∀x∈t.nodes,∃i,i<t.nodes.length/\t.nd i=x:=fun x hx=>by
     obtain⟨i,hi,he⟩:=List.mem_iff_getElem.1 hx;exact⟨i,hi,by rw[iV hi,he]⟩
    refine⟨by omega,by omega,fun x hx=>?_,fun x hx=>?_,fun x hx=>?_⟩
    .obtain⟨i,hi,he⟩:=key x hx;have:=(xL (hz i hi)).2.1
     rw[he] at this;omega
    .have:=h x hx
     simp only[vW,au] at this;omega
    .obtain⟨i,hi,he⟩:=key x hx;have h4:=xL (hz i hi);rw[he] at h4;refine⟨?_,h4.2.2⟩;have:=h4.1
     simp only[dQ,he] at this;omega
theorem aIJ{t:Ty}{i:Nat}(h:i<t.nodes.length):mP t i=if 30<dQ t i+t.nodes[i].own.length then 1 else if 40<t.nodes[i].name.size then 1 else if cJ rZ t.nodes[i].own=true then 0 else 1:=by rw[mP,dQ,iV h]
abbrev fwB(t:Ty):Nat × List (List AV):=(1,[[.d (nts t.nodes),.d (ets t.edges)]])
def aMe(t:Ty)(nb:Nat)(box:Bxs)(tok:Tks)(nt:Nat)(i:Nat):AS:=⟨tl [(4,I i),(3,I (dQ t i)),(1,.ptr (nb+1) 0 0)],lb nb box [fwB t],tok,nt⟩
def aMs(t:Ty)(i n:Nat)(nb:Nat)(box:Bxs)(tok:Tks)(nt:Nat)(k:Nat):AS:=⟨tl [(5,I k),(4,I i),(3,I n),(1,.ptr (nb+1) 0 0)],lb nb box [fwB t],tok,nt⟩
def aMB(t:Ty)(i n k:Nat)(a:At)(nb:Nat)(box:Bxs)(tok:Tks)(nt:Nat)(j:Nat):AS:=⟨tl [(7,I j),(6,.ptr (nb+6) 0 0),(5,I k),(4,I i),(3,I n),(1,.ptr (nb+1) 0 0)],lb nb box [(6,[a.row]),fwB t],tok,nt⟩
def aMY(t:Ty)(nb:Nat)(box:Bxs)(tok:Tks)(nt:Nat)(i:Nat):AS:=⟨tl [(8,I i),(1,.ptr (nb+1) 0 0)],lb nb box [fwB t],tok,nt⟩
theorem aKN(t:Ty)(hb:t.Big):DC 61 [t.av] (B (aCQ t)):=by
 intro tok nt box nb;have tg:=hb.n;have u6:=hb.e;rw[bP] at tg u6;obtain⟨N,hN⟩:∃N,aCQ t=N:=⟨_,rfl⟩
 rw[hN];unfold aCQ at hN;by_cases e1:20<t.nodes.length
 .have j9:(20:Int)<t.nodes.length:=by omega
  rw[af e1] at hN;refine sI func61 ntmps61 fun Hb Ht=>?_
  repeat first|simp[e1,j9]|refine sR ?_|apply sC
  refine sT (sH ?_);simp[<-hN]
 .have j9:¬(20:Int)<t.nodes.length:=by omega
  rw[ac e1] at hN;by_cases e2:30<t.edges.length
  .have j0:(30:Int)<t.edges.length:=by omega
   rw[af e2] at hN;refine sI func61 ntmps61 fun Hb Ht=>?_
   repeat first|simp[e1,j9,e2,j0]|refine sR ?_|apply sC
   refine sT (sH ?_);simp[<-hN]
  .have j0:¬(30:Int)<t.edges.length:=by omega
   rw[ac e2] at hN;refine sI func61 ntmps61 fun Hb Ht=>?_
   repeat first|simp[e1,j9,e2,j0]|refine sR ?_|apply sC
   apply sN;refine sL (aMe t nb box tok nt) (fun i=>i<=t.nodes.length/\dQ t i<=30/\aA (mP t) i=0) (fun i=>t.nodes.length-i) 0 ⟨ai _,ai _,rfl⟩ (wM (nr0 _) rfl (by simp[ToL,lk,aQ,dQ]) (by simp[aC,lk])) ?_;rintro i S' ⟨hi,hsum,ia⟩ hS;simp only[aMe] at hS;subst hS;have hw:=sW (i:=i) (by omega);repeat first|simp|refine sR ?_|apply sC
   refine⟨fun hlt=>?_,fun hge=>?_⟩
   .have hR:mP t i≠0->aA (mP t) t.nodes.length=mP t i:=fun h0=>aL ia h0 _ hlt
    have hnx:mP t i=0->aA (mP t) (i+1)=0:=fun h0=>by simp only[aA,ia,h0,↓reduceIte]
    have hd:=aIJ hlt;have v8:dQ t (i+1)=dQ t i+t.nodes[i].own.length:=by rw[dQ,iV hlt]
    have j8:=hb.nn _ (aa hlt);have B7:=j8.l;rw[bP] at B7;have ri:IntKind.i64.wrap ((dQ t i:Nat)+(t.nodes[i].own.length:Nat):Int)=((dQ t i+t.nodes[i].own.length:Nat):Int):=by rw[aM (by omega) (by omega)];rfl
    by_cases c1:30<dQ t i+t.nodes[i].own.length
    .have sm:(30:Int)<(dQ t i:Int)+(t.nodes[i].own.length:Int):=by omega
     rw[af c1] at hd;rw[af (by rw[hR (by rw[hd];decide),hd];decide)] at hN;repeat first|simp[hlt,ri,c1,sm]|refine sR ?_
     apply sC;simp[c1,sm];repeat first|simp|refine sR ?_
     refine sT (sH ?_);simp[<-hN]
    .have sm:¬(30:Int)<((dQ t i+t.nodes[i].own.length:Nat):Int):=by omega
     rw[ac c1] at hd;by_cases c2:40<t.nodes[i].name.size
     .have Ba:(40:Int)<t.nodes[i].name.size:=by omega
      rw[af c2] at hd;rw[af (by rw[hR (by rw[hd];decide),hd];decide)] at hN;have sm:¬(30:Int)<(dQ t i:Int)+(t.nodes[i].own.length:Int):=by omega
      repeat first|simp[hlt,ri,c1,sm,c2,Ba]|refine sR ?_
      apply sC;simp[c1,sm,c2,Ba];repeat first|simp|refine sR ?_
      refine sT (sH ?_);simp[<-hN]
     .have Ba:¬(40:Int)<t.nodes[i].name.size:=by omega
      rw[ac c2] at hd;obtain⟨n,hn⟩:∃n:Nat,dQ t i+t.nodes[i].own.length=n:=⟨_,rfl⟩
      rw[hn] at ri sm c1 v8;repeat first|simp[hlt,ri,c1,sm,c2,Ba]|refine sR ?_
      apply sC;simp[c1,sm,c2,Ba];repeat first|simp|refine sR ?_
      apply sN;refine sL (aMs t i n nb box tok nt) (fun k=>k<=t.nodes[i].own.length/\cJ rZ (t.nodes[i].own.take k)=true) (fun k=>t.nodes[i].own.length-k) 0 ⟨ai _,rfl⟩ wkA ?_;rintro k S' ⟨hk,ik⟩ hS;simp only[aMs] at hS;subst hS;have oi:=sW (i:=k) (by omega);repeat first|simp[hlt]|refine sR ?_|apply sC
      refine⟨fun ll=>?_,fun hgek=>?_⟩
      .have ju:=fun h=>gA (p:=rZ) ll h
       have jt:=fun h=>dA (p:=rZ) ll ik h
       have DS:=j8.a _ (aa ll);have qq:=DS.l;rw[bP] at qq;have th:rZ t.nodes[i].own[k]=if 40<t.nodes[i].own[k].name.size then false else if 25<t.nodes[i].own[k].names.length then false else cJ tR t.nodes[i].own[k].names:=rfl
       have ow:rZ t.nodes[i].own[k]=false->N=false:=fun h=>by
        rw[ju h,ac (by simp)] at hd;rw[af (by rw[hR (by rw[hd];decide),hd];decide)] at hN;exact hN.symm
       by_cases c3:40<t.nodes[i].own[k].name.size
       .have zm:(40:Int)<t.nodes[i].own[k].name.size:=by omega
        rw[af c3] at th;repeat first|simp[hlt,ll,c3,zm]|refine sR ?_
        apply sC;simp[c3,zm];repeat first|simp|refine sR ?_
        refine sT (sH ?_);simp[ow th]
       .have zm:¬(40:Int)<t.nodes[i].own[k].name.size:=by omega
        rw[ac c3] at th;by_cases c4:25<t.nodes[i].own[k].names.length
        .have Bb:(25:Int)<t.nodes[i].own[k].names.length:=by omega
         rw[af c4] at th;repeat first|simp[hlt,ll,c3,zm,c4,Bb]|refine sR ?_
         apply sC;simp[c3,zm,c4,Bb];repeat first|simp|refine sR ?_
         refine sT (sH ?_);simp[ow th]
        .have Bb:¬(25:Int)<t.nodes[i].own[k].names.length:=by omega
         rw[ac c4] at th;repeat first|simp[hlt,ll,c3,zm,c4,Bb]|refine sR ?_
         apply sC;simp[c3,zm,c4,Bb];repeat first|simp|refine sR ?_
         apply sN;refine sL (aMB t i n k t.nodes[i].own[k] nb box tok nt) (fun j=>j<=t.nodes[i].own[k].names.length/\cJ tR (t.nodes[i].own[k].names.take j)=true) (fun j=>t.nodes[i].own[k].names.length-j) 0 ⟨ai _,rfl⟩ wkA ?_;rintro j S' ⟨hj,vh⟩ hS;simp only[aMB] at hS;subst hS;have v6:=sW (i:=j) (by omega);repeat first|simp|refine sR ?_|apply sC
         refine⟨fun qz=>?_,fun hgej=>?_⟩
         .have Cy:=fun h=>gA (p:=tR) qz h
          have Bc:=fun h=>dA (p:=tR) qz vh h
          by_cases c5:40<t.nodes[i].own[k].names[j].size
          .have vi:(40:Int)<t.nodes[i].own[k].names[j].size:=by omega
           rw[Cy (by simp only[tR,bq];omega)] at th;repeat first|simp[qz,c5,vi]|refine sR ?_
           apply sC;simp[c5,vi];repeat first|simp|refine sR ?_
           refine sT (sH ?_);simp[ow th]
          .have vi:¬(40:Int)<t.nodes[i].own[k].names[j].size:=by omega
           repeat first|simp[qz,c5,vi]|refine sR ?_
           apply sC;simp[c5,vi];repeat first|simp[v6]|refine sR ?_
           apply sE;exact⟨j+1,⟨qz,Bc (by simp only[tR,au];omega)⟩,by omega,wkA⟩
         .apply sX;simp only[AU,↓reduceIte];have:j=t.nodes[i].own[k].names.length:=by omega
          subst this;rw[bh] at vh;rw[vh] at th;repeat first|simp[oi]|refine sR ?_
          apply sE;exact⟨k+1,⟨ll,jt th⟩,by omega,wkA⟩
      .apply sX;simp only[AU,↓reduceIte];have:k=t.nodes[i].own.length:=by omega
       subst this;rw[bh] at ik;rw[af ik] at hd;repeat first|simp[hw]|refine sR ?_
       apply sE;exact⟨i+1,⟨hlt,by omega,hnx hd⟩,by omega,wM (nr0 _) rfl (by simp[ToL,lk,aQ,v8]) (by simp[aC,lk])⟩
   .apply sX;simp only[AU,↓reduceIte];have:i=t.nodes.length:=by omega
    subst this;rw[ac (by simp[ia])] at hN;repeat first|simp|refine sR ?_
    apply sN;refine sL (aMY t nb box tok nt) (fun i=>i<=t.edges.length/\cJ vW (t.edges.take i)=true) (fun i=>t.edges.length-i) 0 ⟨ai _,rfl⟩ wkA ?_;rintro i S' ⟨hi,ik⟩ hS;simp only[aMY] at hS;subst hS;have hw:=sW (i:=i) (by omega);repeat first|simp|refine sR ?_|apply sC
    refine⟨fun hlt=>?_,fun hge=>?_⟩
    .have ju:=fun h=>gA (p:=vW) hlt h
     have jt:=fun h=>dA (p:=vW) hlt ik h
     by_cases c5:40<t.edges[i].name.size
     .have vi:(40:Int)<t.edges[i].name.size:=by omega
      rw[ju (by simp only[vW,bq];omega)] at hN;repeat first|simp[hlt,c5,vi]|refine sR ?_
      apply sC;simp[c5,vi];repeat first|simp|refine sR ?_
      refine sT (sH ?_);simp[<-hN]
     .have vi:¬(40:Int)<t.edges[i].name.size:=by omega
      repeat first|simp[hlt,c5,vi]|refine sR ?_
      apply sC;simp[c5,vi];repeat first|simp[hw]|refine sR ?_
      apply sE;exact⟨i+1,⟨hlt,jt (by simp only[vW,au];omega)⟩,by omega,wkA⟩
    .apply sX;simp only[AU,↓reduceIte];have:i=t.edges.length:=by omega
     subst this;rw[bh] at ik;rw[ik] at hN;repeat first|simp|refine sR ?_
     refine sT (sH ?_);simp[<-hN]
def vV:Rdr prog 155 (List ByteArray):=eO.sliceN 1 underlying155 (by kernel_rfl) (by kernel_rfl)
abbrev AtT:=ByteArray × Int × Int × List ByteArray
theorem aNL(n:Nat):RdF prog 157 (fun x:AtT=>eO.enc x.1++(bJ.enc x.2.1++(bJ.enc x.2.2.1++vV.enc x.2.2.2))) (fun x=>eO.ok x.1/\bJ.ok x.2.1/\bJ.ok x.2.2.1/\vV.ok x.2.2.2) n:=by
 cases n with
 | zero=>exact .zero
 | succ n=>exact RdF.struct4 (eO.f n) (bJ.f n) (bJ.f n) (vV.f n) underlying157 rfl rfl rfl rfl rfl (by kernel_rfl) (by kernel_rfl) (by kernel_rfl) (by kernel_rfl)
def aQG:Rdr prog 157 AtT:=Rdr.ofF _ _ (fun x=>by simp[eO.len,bJ.len,vV.len];kernel_rfl) aNL
theorem aGL:prog.bytesOf 9=16:=by kernel_rfl
theorem aKX:prog.bytesOf 157=56:=by kernel_rfl
theorem aKC:prog.bytesOf 160=56:=by kernel_rfl
theorem aHT:prog.bytesOf 162=64:=by kernel_rfl
theorem aAF{l:List ByteArray}(h:vV.ok l):l.length<=dP/\∀x∈l,x.size<=maxLen:=by
 have h2:l.length*prog.bytesOf 9<=reachBytes:=h.2
 rw[aGL] at h2;have:reachBytes=140737488351232:=rfl
 exact⟨by rw[bP];omega,fun x hx=>h.1 x hx⟩
def aSZ:Rdr prog 157 At:=aQG.map (fun x=>⟨x.1,x.2.1,x.2.2.1,x.2.2.2⟩) At.cells At.Big (fun _=>rfl) (fun x h=>⟨h.1,(aAF h.2.2.2).1,(aAF h.2.2.2).2⟩) (fun _=>by kernel_rfl)
def aCv:Rdr prog 158 (List At):=aSZ.sliceN 4 underlying158 (by kernel_rfl) (by kernel_rfl)
abbrev NtT:=ByteArray × Int × Bool × List At
theorem aNh(n:Nat):RdF prog 160 (fun x:NtT=>eO.enc x.1++(bJ.enc x.2.1++(nM.enc x.2.2.1++aCv.enc x.2.2.2))) (fun x=>eO.ok x.1/\bJ.ok x.2.1/\nM.ok x.2.2.1/\aCv.ok x.2.2.2) n:=by
 cases n with
 | zero=>exact .zero
 | succ n=>exact RdF.struct4 (eO.f n) (bJ.f n) (nM.f n) (aCv.f n) underlying160 rfl rfl rfl rfl rfl (by kernel_rfl) (by kernel_rfl) (by kernel_rfl) (by kernel_rfl)
def aPS:Rdr prog 160 NtT:=Rdr.ofF _ _ (fun x=>by simp[eO.len,bJ.len,nM.len,aCv.len];kernel_rfl) aNh
theorem aDA{l:List At}(h:aCv.ok l):l.length<=dP/\∀x∈l,x.Big:=by
 have h2:l.length*prog.bytesOf 157<=reachBytes:=h.2
 rw[aKX] at h2;have:reachBytes=140737488351232:=rfl
 exact⟨by rw[bP];omega,fun x hx=>h.1 x hx⟩
def aSE:Rdr prog 160 NT:=aPS.map (fun x=>⟨x.1,x.2.1,x.2.2.1,x.2.2.2⟩) NT.cells NT.Big (fun _=>rfl) (fun x h=>⟨h.1,(aDA h.2.2.2).1,(aDA h.2.2.2).2⟩) (fun _=>by kernel_rfl)
def aMo:Rdr prog 22 (List NT):=aSE.sliceN 4 underlying22 (by kernel_rfl) (by kernel_rfl)
abbrev EtT:=ByteArray × Int × Int × Int × Int × Int × Int
theorem aNz(n:Nat):RdF prog 162 (fun x:EtT=>eO.enc x.1++(bJ.enc x.2.1++(bJ.enc x.2.2.1++(bJ.enc x.2.2.2.1++(bJ.enc x.2.2.2.2.1++(bJ.enc x.2.2.2.2.2.1++bJ.enc x.2.2.2.2.2.2)))))) (fun x=>eO.ok x.1/\bJ.ok x.2.1/\bJ.ok x.2.2.1/\bJ.ok x.2.2.2.1/\bJ.ok x.2.2.2.2.1/\bJ.ok x.2.2.2.2.2.1/\bJ.ok x.2.2.2.2.2.2) n:=by
 cases n with
 | zero=>exact .zero
 | succ n=>exact RdF.struct7 (eO.f n) (bJ.f n) (bJ.f n) (bJ.f n) (bJ.f n) (bJ.f n) (bJ.f n) underlying162 rfl rfl rfl rfl rfl rfl rfl rfl (by kernel_rfl) (by kernel_rfl) (by kernel_rfl) (by kernel_rfl) (by kernel_rfl) (by kernel_rfl) (by kernel_rfl)
def aPq:Rdr prog 162 EtT:=Rdr.ofF _ _ (fun x=>by simp[eO.len,bJ.len];kernel_rfl) aNz
def aSQ:Rdr prog 162 ET:=aPq.map (fun x=>⟨x.1,x.2.1,x.2.2.1,x.2.2.2.1,x.2.2.2.2.1,x.2.2.2.2.2.1,x.2.2.2.2.2.2⟩) ET.cells (fun e=>e.name.size<=maxLen) (fun _=>rfl) (fun x h=>h.1) (fun _=>by kernel_rfl)
def aMA:Rdr prog 23 (List ET):=aSQ.sliceN 7 underlying23 (by kernel_rfl) (by kernel_rfl)
def aOU:Rdr prog 25 (List NT × List ET):=Rdr.struct2 aMo aMA underlying25 rfl rfl rfl (by kernel_rfl) (by kernel_rfl)
theorem aKR{l:List NT}{m:List ET}(h:aMo.ok l)(k:aMA.ok m):(Ty.mk l m).Big:=by
 have h2:l.length*prog.bytesOf 160<=reachBytes:=h.2
 have k2:m.length*prog.bytesOf 162<=reachBytes:=k.2
 rw[aKC] at h2;rw[aHT] at k2;have:reachBytes=140737488351232:=rfl
 exact⟨by rw[bP];simp only;omega,by rw[bP];simp only;omega,fun x hx=>h.1 x hx,fun x hx=>k.1 x hx⟩
def aSL:Rdr prog 25 Ty:=aOU.map (fun x=>⟨x.1,x.2⟩) (fun x=>[nts x.nodes,ets x.edges]) Ty.Big (fun _=>rfl) (fun x h=>aKR h.1 h.2) (fun _=>by kernel_rfl)
structure Xt where
 m:Mo
 g:Gr
structure Co where
 name:ByteArray
 kind:Int
 g:Gr
 exts:List Xt
abbrev Xt.cells(x:Xt):List D:=[ints x.m.nodes,ints x.m.edges,ints x.g.nodes,AM.edges x.g.edges]
abbrev xts(l:List Xt):D:=.sl 4 (l.map Xt.cells)
abbrev Xt.av(x:Xt):AV:=.agg [.d (ints x.m.nodes),.d (ints x.m.edges),.d (ints x.g.nodes),.d (AM.edges x.g.edges)]
abbrev Co.row(c:Co):List AV:=[Sb c.name,I c.kind,.d (ints c.g.nodes),.d (AM.edges c.g.edges),.d (xts c.exts)]
abbrev Co.av(c:Co):AV:=.agg c.row
structure Xt.Fit (x:Xt):Prop where
 m:x.m.Fit
 g:x.g.Fit
structure Co.Fit (c:Co):Prop where
 name:c.name.size<=200000000000000
 g:c.g.Fit
 n:c.exts.length<=1000000
 exts:∀x∈c.exts,x.Fit
def pB(g:Gr):Bool:=if 6<g.nodes.length then true else decide (8<g.edges.length)
def xtE(p:Gr)(x:Xt):Int:=if aG p x.g x.m≠0 then aG p x.g x.m else if pB x.g=true then 3 else if fV p x.g x.m=true then 0 else 1
def dZ(c:Co)(i:Nat):Int:=match c.exts[i]? with|some x=>xtE c.g x|none=>0
theorem qM{c:Co}{i:Nat}(h:i<c.exts.length):dZ c i=xtE c.g c.exts[i]:=by simp[dZ,h]
def kdE(c:Co):Int :=
 if c.kind=1 then if c.exts=[] then 0 else 1 else if c.kind=2 then if c.exts=[] then 7 else if 6<c.exts.length then 3 else 0 else 1
def lL(c:Co):Int :=
 if cO c.name=false then 2 else if kdE c≠0 then kdE c else if vG c.g≠0 then vG c.g else if pB c.g=true then 3 else aA (dZ c) c.exts.length
def lvX(t:Ty)(c:Co):Bool:=if dF t c.g=true then cJ (fun x:Xt=>dF t x.g) c.exts else false
def cnE(t:Ty)(c:Co):Int:=if tyE t≠0 then tyE t else if lL c≠0 then lL c else if lvX t c=true then 0 else 13
theorem tG{c:Co}(h:lL c=0):cO c.name=true/\kdE c=0/\vG c.g=0/\pB c.g=false/\∀x∈c.exts,aG c.g x.g x.m=0/\pB x.g=false/\fV c.g x.g x.m=true:=by
 unfold lL at h;split at h
 .cases h
 rename_i h1;split at h
 .rename_i h2;exact absurd h h2
 rename_i h2;split at h
 .rename_i h3;exact absurd h h3
 rename_i h3;split at h
 .cases h
 rename_i h4;refine⟨by simpa using h1,by simpa using h2,by simpa using h3,by simpa using h4,fun x hx=>?_⟩;obtain⟨i,hi,rfl⟩:=bf hx;have h5:=dX _ h i hi;rw[qM hi] at h5;unfold xtE at h5;split at h5
 .rename_i h6;exact absurd h5 h6
 rename_i h6;split at h5
 .cases h5
 rename_i h7;split at h5
 .rename_i h8;exact⟨by simpa using h6,by simpa using h7,h8⟩
 .cases h5
structure Xt.Big (x:Xt):Prop where
 mn:x.m.nodes.length<=dP
 me:x.m.edges.length<=dP
 g:x.g.Big
structure Co.Big (c:Co):Prop where
 name:c.name.size<=maxLen
 g:c.g.Big
 n:c.exts.length<=dP
 exts:∀x∈c.exts,x.Big
theorem aQc:prog.bytesOf 182=96:=by kernel_rfl
def aPM:Rdr prog 182 ((List Int × List Int) × Gr):=Rdr.struct2 kX gB underlying182 rfl rfl rfl (by kernel_rfl) (by kernel_rfl)
def aSB:Rdr prog 182 Xt:=aPM.map (fun x=>⟨⟨x.1.1,x.1.2⟩,x.2⟩) Xt.cells Xt.Big (fun _=>rfl) (fun x h=>⟨eF h.1.1,eF h.1.2,h.2⟩) (fun _=>by kernel_rfl)
def aCx:Rdr prog 54 (List Xt):=aSB.sliceN 4 underlying54 (by kernel_rfl) (by kernel_rfl)
theorem aCt{l:List Xt}(h:aCx.ok l):l.length<=dP/\∀x∈l,x.Big:=by
 have h2:l.length*prog.bytesOf 182<=reachBytes:=h.2
 rw[aQc] at h2;have:reachBytes=140737488351232:=rfl
 exact⟨by rw[bP];omega,h.1⟩
abbrev CoT:=ByteArray × Int × Gr × List Xt
theorem aNk(n:Nat):RdF prog 56 (fun x:CoT=>eO.enc x.1++(bJ.enc x.2.1++(gB.enc x.2.2.1++aCx.enc x.2.2.2))) (fun x=>eO.ok x.1/\bJ.ok x.2.1/\gB.ok x.2.2.1/\aCx.ok x.2.2.2) n:=by
 cases n with
 | zero=>exact .zero
 | succ n=>exact RdF.struct4 (eO.f n) (bJ.f n) (gB.f n) (aCx.f n) underlying56 rfl rfl rfl rfl rfl (by kernel_rfl) (by kernel_rfl) (by kernel_rfl) (by kernel_rfl)
def aOM:Rdr prog 56 CoT:=Rdr.ofF _ _ (fun x=>by simp[eO.len,bJ.len,gB.len,aCx.len];kernel_rfl) aNk
def Co.rowD(c:Co):List D:=[.raw (.string c.name),.raw (.int .i64 c.kind),ints c.g.nodes,AM.edges c.g.edges,xts c.exts]
def aSO:Rdr prog 56 Co:=aOM.map (fun x=>⟨x.1,x.2.1,x.2.2.1,x.2.2.2⟩) Co.rowD Co.Big (fun _=>rfl) (fun x h=>⟨h.1,h.2.2.1,(aCt h.2.2.2).1,(aCt h.2.2.2).2⟩) (fun _=>by kernel_rfl)
variable {P:Program}
section
variable (R:AV->AV->Prop)
def CvR(r r':List AV):Prop:=r.length=r'.length/\∀i (h1:i<r.length) (h2:i<r'.length),R r[i] r'[i]
def aEE(r r':List (List AV)):Prop:=r.length=r'.length/\∀i (h1:i<r.length) (h2:i<r'.length),CvR R r[i] r'[i]
def CvL:List (Nat × AV)->List (Nat × AV)->Prop
 | [],[]=>True
 | (i,x)::a,(j,y)::b=>i=j/\R x y/\CvL a b
 | _,_=>False
def CvB:List (Nat × List (List AV))->List (Nat × List (List AV))->Prop
 | [],[]=>True
 | (i,x)::a,(j,y)::b=>i=j/\aEE R x y/\CvB a b
 | _,_=>False
end
section
variable {R:AV->AV->Prop}
theorem CvL.at(h0:R .bot .bot):∀{l l':List (Nat × AV)},CvL R l l'->∀i,R (tl l i) (tl l' i)
 | [],[],_,i=>h0
 | (i,x)::a,(j,y)::b,h,q=>by
  obtain⟨rfl,h1,h2⟩:=h;rw[jP,jP];split
  .exact h1
  .exact CvL.at h0 h2 q
 | [],_::_,h,_=>h.elim
 | _::_,[],h,_=>h.elim
theorem CvB.at:∀{l l':List (Nat × List (List AV))},CvB R l l'->∀i,(lk l i=none/\lk l' i=none)∨∃r r',lk l i=some r/\lk l' i=some r'/\aEE R r r'
 | [],[],_,i=>.inl ⟨rfl,rfl⟩
 | (i,x)::a,(j,y)::b,h,q=>by
  obtain⟨rfl,h1,h2⟩:=h;rw[cC,cC];split
  .exact .inr ⟨x,y,rfl,rfl,h1⟩
  .exact CvB.at h2 q
 | [],_::_,h,_=>h.elim
 | _::_,[],h,_=>h.elim
theorem aEE.flat:∀{r r':List (List AV)},aEE R r r'->CvR R r.flatten r'.flatten
 | [],[],_=>⟨rfl,fun i h=>by simp at h⟩
 | x::a,y::b,h=>by
  have h0:=h.2 0 (by simp) (by simp);have ih:CvR R a.flatten b.flatten:=aEE.flat ⟨by simpa using h.1,fun i h1 h2=>h.2 (i+1) (by simpa using h1) (by simpa using h2)⟩
  simp only[ck] at h0;refine⟨by simp[h0.1,ih.1],fun i h1 h2=>?_⟩;have hl:=h0.1;have uf:=ih.1;simp only[cr] at h1 h2 ⊢;rw[am] at h1 h2;by_cases hi:i<x.length
  .have e1:(x++a.flatten)[i]'(by rw[am];omega)=x[i]:=b6 hi
   have e2:(y++b.flatten)[i]'(by rw[am];omega)=y[i]'(by omega):=b6 (by omega)
   rw[e1,e2];exact h0.2 i hi _
  .have e1:(x++a.flatten)[i]'(by rw[am];omega)=a.flatten[i-x.length]'(by omega):=ch (by omega)
   have e2:(y++b.flatten)[i]'(by rw[am];omega)=b.flatten[i-y.length]'(by omega):=ch (by omega)
   rw[e1,e2];have:=ih.2 (i-x.length) (by omega) (by omega)
   simp only[hl] at this ⊢;exact this
 | [],_::_,h=>by have:=h.1;simp at this
 | _::_,[],h=>by have:=h.1;simp at this
theorem CvR.vs{G:Gh}{w:World}(hto:∀x y v,R x y->RV G w x v->RV G w y v){xs ys:List AV}{vs:List Value}(h:CvR R xs ys)(hr:RVs G w xs vs):RVs G w ys vs :=
 ⟨h.1.symm.trans hr.1,fun i h1 h2=>hto _ _ _ (h.2 i (by rw[h.1];exact h1) h1) (hr.2 i _ h2)⟩
theorem aV.rows{G:Gh}{w:World}{base nb nt:Nat}{out:Bxs}{loc loc':List (Nat × List (List AV))}{tok:Nat->Bool}(hto:∀x y v,R x y->RV G w x v->RV G w y v)(hb:CvB R loc loc')(hm:aV G ⟨lb base out loc,nb,tok,nt⟩ w):aV G ⟨lb base out loc',nb,tok,nt⟩ w:=by
 constructor
 case box =>
  intro k rows b z hk n5;simp only at hk;by_cases jb:k<base
  .rw[lO jb] at hk;exact hm.box k rows b z (by simp only;rw[lO jb];exact hk) n5
  .have jd:k=base+(k-base):=by omega
   rw[jd,aQ] at hk;rcases hb.at (k-base) with ⟨_,h2⟩|⟨r0,r',h1,h2,h3⟩
   .rw[h2] at hk;cases hk
   .rw[h2] at hk;cases hk;obtain⟨g1,cs,e,g2,g3,g4,g5⟩:=hm.box k r0 b z (by simp only;rw[jd,aQ];exact h1) n5;refine⟨g1,cs,e,g2,fun q hq=>?_,h3.flat.vs hto g4,g5⟩;obtain⟨i,hi,rfl⟩:=bf hq;have r7:i<r0.length:=by rw[h3.1];exact hi
    rw[<-(h3.2 i r7 hi).1];exact g3 _ (aa _)
 case nobox =>
  intro k hk;refine hm.nobox k ?_;simp only at hk ⊢;by_cases jb:k<base
  .rw[lO jb] at hk ⊢;exact hk
  .have jd:k=base+(k-base):=by omega
   rw[jd,aQ] at hk ⊢;rcases hb.at (k-base) with ⟨h1,_⟩|⟨r0,r',_,h2,_⟩
   .exact h1
   .rw[h2] at hk;cases hk
 case inj=>exact hm.inj
 case nb =>
  intro k hk;have h0:=hm.nb k hk;simp only at h0 ⊢;by_cases jb:k<base
  .rw[lO jb] at h0 ⊢;exact h0
  .have jd:k=base+(k-base):=by omega
   rw[jd,aQ] at h0 ⊢;rcases hb.at (k-base) with ⟨_,h2⟩|⟨r0,r',h1,_,_⟩
   .exact h2
   .rw[h1] at h0;cases h0
 case nt=>exact hm.nt
 case toks=>exact hm.toks
 case tokb=>exact hm.tokb
 case tinj=>exact hm.tinj
 case tnt=>exact hm.tnt
 case glob=>exact hm.glob
 case fresh=>exact hm.fresh
end
inductive uW (t sz:Nat):AV->AV->Prop
 | bot {x}:uW t sz x .bot
 | same {x}:uW t sz x x
 | nil {n}:uW t sz (.osl n [] .full) (.stk t sz [])
theorem uW.rv{G:Gh}{w:World}{t sz:Nat}(ht:t<G.nt)(hk:G.tk t=some none){x y:AV}{v:Value}(h:uW t sz x y)(hr:RV G w x v):RV G w y v:=by
 cases h with
 | bot=>exact .bot
 | same=>exact hr
 | nil =>
  cases hr with
  | osl _ ho =>
   obtain⟨A,rfl,_⟩:=ho;refine .stk ⟨ht,A,0,rfl,nr0 _,ai _,fun x hx=>?_⟩;rw[hk] at hx;cases hx;rfl
theorem iO.opn{cx:Cx}{nt0 nt:Nat}{l l':List (Nat × AV)}{out:Bxs}{loc loc':List (Nat × List (List AV))}{tok:Nat->Bool}(sz:Nat)(hl:CvL (uW nt sz) l l')(hb:CvB (uW nt sz) loc loc'):
  iO cx nt0 ⟨tl l,lb cx.base out loc,tok,nt⟩ ⟨tl l',lb cx.base out loc',upd tok nt true,nt+1⟩:=by
 intro G0 w0 G a w he we hS hL;have hm:=hS.mem;have rj:G.nt=nt:=hm.nt
 have iv:=Le.newtok (G:=G) (w:=w) none;have mb:=hm.newtok none (fun g h=>by cases h)
 have h1:nt<(G.newtok none).nt:=by simp only[Gh.newtok];omega
 have h2:(G.newtok none).tk nt=some none:=by simp only[Gh.newtok];rw[<-rj,uS]
 refine⟨G.newtok none,⟨hS.defers,hS.size,fun i=>(hl.at .bot i).rv h1 h2 ((hS.tmps i).mono iv),mb.rows (fun x y v h hr=>h.rv h1 h2 hr) hb⟩,?_⟩;refine hL.step ⟨iv,fun k jb hg=>⟨hg,?_⟩⟩;simp only;rw[lO jb,lO jb]
section
variable {t sz:Nat}
@[simp] theorem aPG(x:AV):uW t sz x .bot:=.bot
@[simp] theorem aN0(x:AV):uW t sz x x:=.same
@[simp] theorem aQY(n:Nat):uW t sz (.osl n [] .full) (.stk t sz []):=.nil
end
@[simp] theorem aSM{p:Nat->Prop}{fz:Option (Nat × Nat × List (List D))}(t sz:Nat)(es:List (List D)):To p (fun _=>True) fz (.stk t sz es) (.stk t sz es):=.same (.stk trivial)
@[simp] theorem aSP{p:Nat->Prop}{fz:Option (Nat × Nat × List (List D))}(t sz:Nat)(es:List (List D)):To p (fun _=>True) fz (.que t sz es) (.que t sz es):=.same (.que trivial)
@[simp] theorem aPD{p q:Nat->Prop}{t sz:Nat}{es:List (List D)}:bF p q (.que t sz es)↔q t:=⟨fun h=>by cases h;assumption,.que⟩
@[simp] theorem aPu{p q:Nat->Prop}{t sz:Nat}{es:List (List D)}:bF p q (.stk t sz es)↔q t:=⟨fun h=>by cases h;assumption,.stk⟩
theorem aB2{R:AV->AV->Prop}:CvR R [] []:=⟨rfl,fun i h=>by simp at h⟩
theorem aZ{R:AV->AV->Prop}{x y:AV}{a b:List AV}(h:R x y)(r:CvR R a b):CvR R (x::a) (y::b):=⟨by simp[r.1],fun i h1 h2=>by
 cases i with
 | zero=>exact h
 | succ i=>exact r.2 i (by simpa using h1) (by simpa using h2)⟩
theorem wU{R:AV->AV->Prop}{r r':List AV}(h:CvR R r r'):aEE R [r] [r']:=⟨rfl,fun i h1 h2=>by
 have:i=0:=by simp at h1;omega
 subst this;exact h⟩
variable {P:Program}
inductive aBa (tok:Tks):AV->D->Prop
 | d {x}:aBa tok (.d x) x
 | osl {sz es o}:aBa tok (.osl sz es o) (.sl sz es)
 | stk {t sz es} (h:tok t=true):aBa tok (.stk t sz es) (.sl sz es)
def mQ(tok:Tks):List AV->List D->Prop
 | [],[]=>True
 | x::a,y::b=>aBa tok x y/\mQ tok a b
 | _,_=>False
theorem mQ.at{tok:Nat->Bool}:∀{a:List AV} {b:List D},mQ tok a b->a.length=b.length/\∀i (h1:i<a.length) (h2:i<b.length),aBa tok a[i] b[i]
 | [],[],_=>⟨rfl,fun i h=>by simp at h⟩
 | x::a,y::b,h=>by
  obtain⟨h1,h2⟩:=mQ.at h.2;refine⟨by simp[h1],fun i g1 g2=>?_⟩;cases i with
  | zero=>exact h.1
  | succ i=>exact h2 i (by simpa using g1) (by simpa using g2)
 | [],_::_,h=>h.elim
 | _::_,[],h=>h.elim
inductive qS (box:Bxs) (tok:Tks):AV->AV->Prop
 | same {x} (h:bF (fun _=>False) (fun _=>True) x):qS box tok x x
 | stk {t sz es} (h:tok t=true):qS box tok (.stk t sz es) (.d (.sl sz es))
 | ptr {k row ds} (hk:box k=some [row]) (h:mQ tok row ds):qS box tok (.ptr k 0 0) (.cptr ds 0)
 | fn {f} {caps caps':List AV} (hl:caps.length=caps'.length) (h:∀i (h1:i<caps.length) (h2:i<caps'.length),qS box tok caps[i] caps'[i]):qS box tok (.fn f caps) (.fn f caps')
def rM(box:Bxs)(tok:Tks):List AV->List AV->Prop
 | [],[]=>True
 | x::a,y::b=>qS box tok x y/\rM box tok a b
 | _,_=>False
theorem qS.ext{box box':Bxs}{tok:Nat->Bool}(he:Ext box box'){x y:AV}(h:qS box tok x y):qS box' tok x y:=by
 induction h with
 | same h=>exact .same h
 | stk h=>exact .stk h
 | ptr hk h=>exact .ptr (he _ _ hk) h
 | fn hl _ ih=>exact .fn hl ih
theorem qS.fn1{box:Bxs}{tok:Nat->Bool}{f:Fn}{x y:AV}(h:qS box tok x y):qS box tok (.fn f [x]) (.fn f [y]):=.fn rfl fun i h1 h2=>by
 have:i=0:=by simp at h1;omega
 subst this;exact h
theorem rM.ext{box box':Bxs}{tok:Nat->Bool}(he:Ext box box'):∀{a b:List AV},rM box tok a b->rM box' tok a b
 | [],[],_=>trivial
 | x::a,y::b,h=>⟨h.1.ext he,rM.ext he h.2⟩
 | [],_::_,h=>h.elim
 | _::_,[],h=>h.elim
def Gh.lb(G:Gh)(b:Nat):Prop:=(∃k sz,G.bx k=some (b,sz))∨∃t,G.tk t=some (some b)/\G.kind b=.ex
def Gh.lt(G:Gh)(t:Nat):Prop:=∃g,G.tk t=some (some g)/\G.kind g=.ex
open Classical in
noncomputable def Gh.lent(G:Gh):Gh:={ bx:=fun _=>none,kind:=fun b=>if G.lb b then .whole else G.kind b,tk:=fun t=>if G.lt t then none else G.tk t,nt:=G.nt }
open Classical in
noncomputable def Gh.back(G G1:Gh):Gh:={ bx:=G.bx,kind:=fun b=>if G.lb b then G.kind b else G1.kind b,tk:=fun t=>if G.lt t then G.tk t else G1.tk t,nt:=G1.nt }
theorem aB6{G:Gh}{a:Addr}(h:G.ps a):G.lent.ps a:=by
 unfold Gh.ps at h ⊢;simp only[Gh.lent];by_cases e:G.lb a.block
 .simp[e]
 .simp only[e,↓reduceIte];exact h
theorem gD{G:Gh}{t:Nat}{x:Option Nat}(h:G.lent.tk t=some x):G.tk t=some x/\¬G.lt t:=by
 simp only[Gh.lent] at h;split at h
 .cases h
 .rename_i hn;exact⟨h,hn⟩
theorem aAK{G:Gh}{m:bH}{w:World}(hm:aV G m w){x:AV}{y:D}{v:Value}(hc:aBa m.tok x y)(h:RV G w x v):RVd w.cell? G.lent.ps y v:=by
 have hcm:∀(a:Addr) (u:Value),G.ps a->w.cell? a=some u->G.lent.ps a/\w.cell? a=some u:=fun a u h1 h2=>⟨aB6 h1,h2⟩
 cases hc with
 | d=>cases h with|d h1=>exact h1.mono hcm
 | osl=>cases h with|osl h1 _=>exact h1.mono hcm
 | @stk t sz es ht =>
  cases h with
  | stk hs =>
   obtain⟨_,A,cap,rfl,i8,i9,jp⟩:=hs;obtain⟨_,y,hy⟩:=hm.toks t ht;have jp:=jp y hy;cases y with
   | none =>
    have mf:es=[]:=bg (by have:cap=0:=jp;omega)
    subst mf;exact .sl (es:=[]) (fun _ _=>default) (ai _) i9 (by simp) (by simp) (fun a _ i j hi _=>by simp at hi) (fun i j hi _=>by simp at hi)
   | some g =>
    obtain⟨hA,vs,sp,e,h1,h2,h3,h4,h5⟩:=jp;refine RVd.of_flat i8 i9 ⟨h4.len,fun a ha q u hq=>?_,h4.one,fun _=>⟨_,hA⟩,h4.each,fun i j hi hj=>?_⟩
    .rw[hA] at ha;cases ha;rw[bK];refine⟨?_,?_⟩
     .have hl:G.lb g:=.inr ⟨t,hy,h1⟩
      simp[Gh.ps,Gh.lent,hl]
     .rw[e8 w g _ _ e (0,0) h2,cd];simp only[d5];rw[bi (ba.1 hq).1];exact hq
    .obtain⟨u,hu,hr⟩:=h4.read i j hi hj;exact⟨u,hu,hr.mono hcm⟩
theorem aFF{G:Gh}{m:bH}{w:World}(hm:aV G m w){b:Nat}(h:G.lb b):b<w.heap.size/\(G.kind b=.box∨G.kind b=.ex):=by
 rcases h with ⟨k,sz,h⟩|⟨t,h1,h2⟩
 .have:=hm.blt h
  exact⟨this.1,.inl this.2⟩
 .obtain⟨f,cur,e,_,h3⟩:=hm.tokb t b h1;exact⟨bY h3,.inr h2⟩
theorem RV.lent{G:Gh}{m:bH}{w:World}(hm:aV G m w){x:AV}{v:Value}(h:RV G w x v)(ho:bF (fun _=>False) (fun _=>True) x):RV G.lent w x v:=by
 have hc:∀(a:Addr) (u:Value),G.ps a->w.cell? a=some u->G.lent.ps a/\w.cell? a=some u:=fun a u h1 h2=>⟨aB6 h1,h2⟩
 have hk:∀g f c,G.kind g=.part f c->G.lent.kind g=G.kind g:=fun g f c hg=>by
  simp only[Gh.lent];rw[ac fun e=>by rcases (aFF hm e).2 with h|h<;>rw[hg] at h<;>cases h]
 have hown:∀{sz n:Nat} {o:Own} {v:Value},tI G sz n o v->tI G.lent sz n o v:=by
  intro sz n o v h2;cases o with
  | full=>exact h2
  | tok t =>
   refine⟨h2.1,fun y hy=>?_⟩;have:=h2.2 y (gD hy).1
   cases y with
   | none=>exact this
   | some g =>
    obtain⟨cap,hv,hg⟩:=this;exact⟨cap,hv,(hk g _ _ hg).trans hg⟩
 induction h with
 | bot=>exact .bot
 | d h1=>exact .d (h1.mono hc)
 | osl h1 h2=>exact .osl (h1.mono hc) (hown h2)
 | ptr h1=>cases ho with|ptr h=>exact h.elim
 | here h1 h2=>cases ho with|here h=>exact h.elim
 | buf h1 h2 h3 h4=>exact .buf (h1.mono hc) (hown h2) (fun e=>h3 (gD e).1) (fun g hg=>h4 g (gD hg).1)
 | cptr a u h1 h2=>exact .cptr a u (fun j hj=>hc _ _ (h1 j hj).1 (h1 j hj).2) fun j hj=>(h2 j hj).mono hc
 | msl h1=>cases ho with|msl h=>exact h.elim
 | fn hl _ ih=>cases ho with|fn h=>exact .fn hl fun i h1 h2=>ih i h1 h2 (h _ (aa h1))
 | agg hl _ jq ih=>cases ho with|agg h=>exact .agg hl (fun i h1 h2=>ih i h1 h2 (h _ (aa h1))) jq
 | tup hl _ ih=>cases ho with|tup h=>exact .tup hl fun i h1 h2=>ih i h1 h2 (h _ (aa h1))
 | ex h1 =>
  obtain⟨r1,r0,r2⟩:=h1;refine .ex ⟨r1,r0,fun y hy=>?_⟩;obtain⟨vj,hn⟩:=gD hy;obtain⟨g,cap,cs,e,rfl,h2,h3,h4,h5,_⟩:=r2 y vj;exact absurd ⟨g,vj,h5⟩ hn
 | stk h1 =>
  obtain⟨r1,A,cap,hv,hc1,sd,r2⟩:=h1;refine .stk ⟨r1,A,cap,hv,hc1,sd,fun y hy=>?_⟩;obtain⟨vj,hn⟩:=gD hy;have h0:=r2 y vj;cases y with
  | none=>exact h0
  | some g =>
   obtain⟨hA,vs,sp,e,h5,_⟩:=h0;exact absurd ⟨g,vj,h5⟩ hn
 | que h1 h2=>exact .que (h1.mono hc) (h2.imp h2.1 fun x hx=>⟨(gD hx).1,fun g _ f c he=>(hk g f c he).trans he⟩)
 | mp h1 =>
  obtain⟨r1,r0,r,hv,r2⟩:=h1;refine .mp ⟨r1,r0,r,hv,fun y hy=>?_⟩;obtain⟨vj,hn⟩:=gD hy;obtain⟨rfl,h5,_⟩:=r2 y vj;exact absurd ⟨r,vj,h5⟩ hn
 | mpd h1=>exact .mpd (h1.imp hc fun r _ qm=>⟨by simp only[Gh.lent];split;rfl;exact qm,rfl⟩)
theorem qS.rv{G:Gh}{m:bH}{w:World}(hm:aV G m w){x y:AV}{v:Value}(hb:qS m.box m.tok x y)(h:RV G w x v):RV G.lent w y v:=by
 induction hb generalizing v with
 | fn hl _ ih =>
  cases h with
  | fn lh hh=>exact .fn (hl.symm.trans lh) fun i h1 h2=>ih i (by omega) h1 (hh i (by omega) h2)
 | same ho=>exact h.lent hm ho
 | stk ht=>exact .d (aAK hm (.stk ht) h)
 | @ptr k row ds hk hd =>
  generalize hx:AV.ptr k 0 0=x at h;cases h with
  | @ptr k' i off b sz n5 =>
   cases hx;obtain⟨ti,cs,e,kw,u3,hR,jq⟩:=hm.box k [row] b sz hk n5;have hR:RVs G w row cs.toList:=by simpa using hR
   obtain⟨hl,j6⟩:=hd.at;have mh:G.lb b:=.inl ⟨k,sz,n5⟩
   have:=RV.cptr (G:=G.lent) (w:=w) (cs:=ds) (off:=0) ⟨b,0,none⟩ (fun j=>cs.getD j default) (fun j hj=>?_) (fun j hj=>?_)
   .rw[bK] at this;simpa using this
   .rw[bK];refine⟨by simp[Gh.ps,Gh.lent,mh],?_⟩;rw[e8 w b _ _ e (0,0) kw,cd];have xb:j<cs.size:=by have:=hR.1;simp at this;omega
    simp[xb]
   .have xb:j<cs.size:=by have:=hR.1;simp at this;omega
    have h1:=aAK hm (j6 j (by omega) hj) (hR.2 j (by omega) (by simpa using xb));simpa[xb] using h1
  | _=>cases hx
theorem rM.rvs{G:Gh}{m:bH}{w:World}(hm:aV G m w):∀{xs ys:List AV} {vs:List Value},rM m.box m.tok xs ys->RVs G w xs vs->RVs G.lent w ys vs
 | [],[],vs,_,h=>⟨by have:=h.1;simpa using this,fun i h=>by simp at h⟩
 | x::a,y::b,vs,hb,h=>by
  obtain⟨v,us,rfl,h1,h2⟩:=h.uncons;exact RVs.cons (hb.1.rv hm h1) (rM.rvs hm hb.2 h2)
 | [],_::_,_,h,_=>h.elim
 | _::_,[],_,h,_=>h.elim
theorem cW.lends{f:FuncId}{args args':List AV}{box:Bxs}{tok:Nat->Bool}{nt:Nat}{u:Value}(hu:u.oneCell'=true)(h:∀tok,cZ P f args' tok nt (.d (.raw u)) tok nt)(hb:rM box tok args args'):cW P f args box tok nt (.d (.raw u)) tok nt:=by
 classical
 intro box' nb zd;have hb':=hb.ext zd
 refine⟨(h tok (fun _=>none) nb).1,fun G w vals hm hr=>?_⟩;obtain⟨_,hc⟩:=h (fun t=>tok t&&decide (¬G.lt t)) (fun _=>none) nb;have xd:=fun {b} (hb:G.lb b)=>aFF hm hb
 have pq:∀t g,G.tk t=some (some g)->¬G.lt t->¬G.lb g:=fun t g ht hn hl=>by
  rcases hl with ⟨k,sz,hk⟩|⟨t2,h1,h2⟩
  .obtain⟨f',cur,e,h1,_⟩:=hm.tokb t g ht;rw[(hm.blt hk).2] at h1;rcases h1 with ⟨h1,_⟩|h1<;>cases h1
  .exact hn ⟨g,ht,h2⟩
 have tu:aV G.lent ⟨fun _=>none,nb,fun t=>tok t&&decide (¬G.lt t),nt⟩ w:=by
  constructor
  case box=>intro k rows b sz h1;cases h1
  case nobox=>intro k _;rfl
  case inj=>intro k k' b sz sz' h1;cases h1
  case nb=>intro k _;rfl
  case nt=>exact hm.nt
  case toks =>
   intro t ht;simp only[bd,au] at ht;obtain⟨h1,x,h2⟩:=hm.toks t ht.1;exact⟨h1,x,by simp only[Gh.lent];rw[ac ht.2];exact h2⟩
  case tokb =>
   intro t g ht;obtain⟨h1,h2⟩:=gD ht;obtain⟨f',cur,e,h3,h4⟩:=hm.tokb t g h1;refine⟨f',cur,e,?_,h4⟩;simp only[Gh.lent];rw[ac (pq t g h1 h2)];exact h3
  case tinj=>exact fun t t' g h1 h2=>hm.tinj t t' g (gD h1).1 (gD h2).1
  case tnt=>exact fun t x h1=>hm.tnt t x (gD h1).1
  case glob=>exact hm.glob.mono fun a u h1 h2=>⟨aB6 h1,h2⟩
  case fresh =>
   intro b ki;simp only[Gh.lent];split
   .rfl
   .exact hm.fresh b ki
 refine Calls.mono (hc G.lent w vals tu (hb'.rvs hm hr)) ?_;rintro e w' ⟨v,av,m',G1,rfl,⟨rfl,rfl⟩,h3,h4,h5,h6,h7⟩;have hv:v=u:=by cases h5 with|d h=>cases h;rfl
 subst hv;have jk:∀b,G.lb b->G1.kind b=.whole/\w'.heap[b]?=w.heap[b]?:=fun b ki=>h6.whole b (xd ki).1 (by simp[Gh.lent,ki])
 have xe:∀t,G.lt t->∃g,G.tk t=some (some g)/\G.kind g=.ex/\G.lb g:=fun t ⟨g,h1,h2⟩=>⟨g,h1,h2,.inr ⟨t,h1,h2⟩⟩
 have iv:Le G w (G.back G1) w':=by
  refine⟨h6.os,h6.tape,h6.output,h6.size,fun b ki hk=>?_,fun b f' c hk=>?_,fun _ _ h=>h,h6.nt,fun t ht=>?_,?_⟩
  .have hn:¬G.lb b:=fun e=>by rcases (xd e).2 with h|h<;>rw[hk] at h<;>cases h
   obtain⟨a1,a2⟩:=h6.whole b ki (by simp only[Gh.lent];rw[ac hn];exact hk);exact⟨by simp only[Gh.back];rw[ac hn];exact a1,a2⟩
  .have hn:¬G.lb b:=fun e=>by rcases (xd e).2 with h|h<;>rw[hk] at h<;>cases h
   obtain⟨⟨f2,a1,a2⟩,a3⟩:=h6.part b f' c (by simp only[Gh.lent];rw[ac hn];exact hk);exact⟨⟨f2,a1,by simp only[Gh.back];rw[ac hn];exact a2⟩,a3⟩
  .by_cases hl:G.lt t
   .refine .inr ⟨by simp only[Gh.back];rw[af hl],fun g hg=>?_⟩;obtain⟨g',h1,h2,h3⟩:=xe t hl;rw[hg] at h1;cases h1;exact⟨by simp only[Gh.back];rw[af h3],fun _=>(jk g h3).2⟩
   .have e1:(G.back G1).tk t=G1.tk t:=by simp only[Gh.back];rw[ac hl]
    have e2:G.lent.tk t=G.tk t:=by simp only[Gh.lent];rw[ac hl]
    rcases h6.tk t ht with a1|⟨a1,a2⟩
    .exact .inl (e1.trans a1)
    .refine .inr ⟨(e1.trans a1).trans e2,fun g hg=>?_⟩;have hn:=pq t g hg hl;obtain⟨b1,b2⟩:=a2 g (e2.trans hg);simp only[Gh.lent] at b1 b2;rw[ac hn] at b1 b2;exact⟨by simp only[Gh.back];rw[ac hn];exact b1,b2⟩
  .exact h6.ty
 refine⟨v,_,_,G.back G1,rfl,⟨rfl,rfl⟩,rfl,?_,.d (.raw hu),iv,fun k hk=>⟨hk,rfl⟩⟩;have Bd:∀t g,¬G.lt t->(G.back G1).tk t=some (some g)->G1.tk t=some (some g)/\¬G.lb g:=fun t g hl ht=>by
  have e1:G1.tk t=some (some g):=by simp only[Gh.back] at ht;rw[ac hl] at ht;exact ht
  refine⟨e1,fun AH=>?_⟩;obtain⟨f',cur,e,g1,_⟩:=h4.tokb t g e1;rw[(jk g AH).1] at g1;rcases g1 with ⟨g1,_⟩|g1<;>cases g1
 have uy:∀t,G.lt t->(G.back G1).tk t=G.tk t:=fun t hl=>by simp only[Gh.back];rw[af hl]
 constructor
 case box =>
  intro k rows b sz hk ki;obtain⟨g1,cs,e,g2,g3,g4,g5⟩:=hm.box k rows b sz hk ki;have wd:G.lb b:=.inl ⟨k,sz,ki⟩
  exact⟨by simp only[Gh.back];rw[af wd];exact g1,cs,e,(jk b wd).2.trans g2,g3,g4.mono iv,g5⟩
 case nobox=>exact hm.nobox
 case inj=>exact hm.inj
 case nb=>exact hm.nb
 case nt=>exact h4.nt
 case toks =>
  intro t ht;obtain⟨h1,x,h2⟩:=hm.toks t ht;refine⟨h1,?_⟩;by_cases hl:G.lt t
  .exact⟨x,(uy t hl).trans h2⟩
  .obtain⟨_,y,h3⟩:=h4.toks t (by simp only[bd,au];exact⟨ht,hl⟩);exact⟨y,by simp only[Gh.back];rw[ac hl];exact h3⟩
 case tokb =>
  intro t g ht;by_cases hl:G.lt t
  .rw[uy t hl] at ht;obtain⟨g',h1,h2,h3⟩:=xe t hl;rw[ht] at h1;cases h1;obtain⟨f',cur,e,g1,g2⟩:=hm.tokb t g ht;exact⟨f',cur,e,by simp only[Gh.back];rw[af h3];exact g1,(jk g h3).2.trans g2⟩
  .obtain⟨h1,hn⟩:=Bd t g hl ht;obtain⟨f',cur,e,g1,g2⟩:=h4.tokb t g h1;exact⟨f',cur,e,by simp only[Gh.back];rw[ac hn];exact g1,g2⟩
 case tinj =>
  intro t t' g ht ly;by_cases hl:G.lt t<;>by_cases lh:G.lt t'
  .rw[uy t hl] at ht;rw[uy t' lh] at ly;exact hm.tinj t t' g ht ly
  .rw[uy t hl] at ht;obtain⟨g',h1,_,h3⟩:=xe t hl;rw[ht] at h1;cases h1;exact absurd h3 (Bd t' g lh ly).2
  .rw[uy t' lh] at ly;obtain⟨g',h1,_,h3⟩:=xe t' lh;rw[ly] at h1;cases h1;exact absurd h3 (Bd t g hl ht).2
  .exact h4.tinj t t' g (Bd t g hl ht).1 (Bd t' g lh ly).1
 case tnt =>
  intro t x ht;by_cases hl:G.lt t
  .rw[uy t hl] at ht;have:=hm.tnt t x ht
   have e1:=hm.nt;have e2:=h4.nt;simp only[Gh.back];simp only at e1 e2;omega
  .simp only[Gh.back] at ht;rw[ac hl] at ht;exact h4.tnt t x ht
 case glob=>exact hm.glob.mono iv.cells
 case fresh =>
  intro b ki;have:=h6.size
  have hn:¬G.lb b:=fun zf=>by have:=(xd zf).1;omega
  simp only[Gh.back];rw[ac hn];exact h4.fresh b ki
variable {P:Program}
theorem Le.reKind{G:Gh}{w:World}{g:Nat}(k:BK)(hk:G.kind g=.ex)(ht:∀t,G.tk t≠some (some g)):Le G w (G.setKind g k) w where
 os:=rfl
 tape:=rfl
 output:=rfl
 size:=nr0 _
 whole b _ h:=⟨by simp only[Gh.setKind];rw[uO _ _ (fun e=>by subst e;rw[hk] at h;cases h)];exact h,rfl⟩
 part b f c h:=⟨⟨f,nr0 _,by simp only[Gh.setKind];rw[uO _ _ (fun e=>by subst e;rw[hk] at h;cases h)];exact h⟩,fun _ _ _=>rfl⟩
 bx _ _ h:=h
 nt:=nr0 _
 tk t _:=.inr ⟨rfl,fun j hj=>⟨by simp only[Gh.setKind];exact uO _ _ (fun e=>by subst e;exact ht t hj),fun _=>rfl⟩⟩
 ty _ cs T f h:=⟨cs,f,h⟩
theorem aV.reKind{G:Gh}{m:bH}{w:World}(h:aV G m w){g:Nat}(k:BK)(hk:G.kind g=.ex)(ht:∀t,G.tk t≠some (some g))(hg:g<w.heap.size):aV (G.setKind g k) m w:=by
 have iv:=Le.reKind (w:=w) k hk ht;constructor
 case box =>
  intro q rows b sz hq hb;obtain⟨h1,cs,e,h2,h3,h4,h5⟩:=h.box q rows b sz hq hb;refine⟨?_,cs,e,h2,h3,h4.mono iv,h5⟩;simp only[Gh.setKind];rw[uO _ _ (fun e=>by subst e;rw[hk] at h1;cases h1)];exact h1
 case nobox=>exact h.nobox
 case inj=>exact h.inj
 case nb=>exact h.nb
 case nt=>exact h.nt
 case toks=>exact h.toks
 case tokb =>
  intro t j hj;obtain⟨f0,cur0,e0,h1,h2⟩:=h.tokb t j hj;refine⟨f0,cur0,e0,?_,h2⟩;simp only[Gh.setKind];rw[uO _ _ (fun e=>by subst e;exact ht t hj)];exact h1
 case tinj=>exact h.tinj
 case tnt=>exact h.tnt
 case glob=>exact h.glob.mono iv.cells
 case fresh =>
  intro b hb;simp only[Gh.setKind];rw[uO _ _ (by omega)];exact h.fresh b hb
theorem yU{G:Gh}{m:bH}{w:World}(hm:aV G m w){t g:Nat}(hx:G.tk t=some (some g)):∀q,(G.kill (.tok t)).tk q≠some (some g):=by
 intro q hq;simp only[Gh.kill] at hq;by_cases e:q=t
 .subst e;simp[uS] at hq
 .rw[uO _ _ e] at hq;exact e (hm.tinj q t g hq hx)
inductive aE3 (t:Nat):AV->AV->Prop
 | bot {x}:aE3 t x .bot
 | same {x}:aE3 t x x
 | stk {sz es}:aE3 t (.stk t sz es) (.d (.sl sz es))
theorem iO.stkD{cx:Cx}{nt0 nt:Nat}{l l':List (Nat × AV)}{out:Bxs}{loc loc':List (Nat × List (List AV))}{tok:Nat->Bool}(t:Nat)(ht:tok t=true)(hl:CvL (aE3 t) l l')(hb:CvB (aE3 t) loc loc'):
  iO cx nt0 ⟨tl l,lb cx.base out loc,tok,nt⟩ ⟨tl l',lb cx.base out loc',upd tok t false,nt⟩:=by
 intro G0 w0 G a w he we hS hL;have hm:=hS.mem;obtain⟨hlt,x,hx⟩:=hm.toks t ht;have px:=hm.kill (.tok t);have ll:=Le.kill (G:=G) (w:=w) (.tok t);have xf:∀{sz:Nat} {es:List (List D)} {v:Value},RV G w (.stk t sz es) v->zF G w t sz es v:=fun h=>by cases h with|stk h=>exact h
 have fin:∀G',Le G w G' w->G'.bx=G.bx->aV G' ⟨lb cx.base out loc,cx.nb,upd tok t false,nt⟩ w->(∀sz es v,zF G w t sz es v->RVd w.cell? G'.ps (.sl sz es) v) ->
   ∃G',cS cx.n cx.nb G' ⟨tl l',lb cx.base out loc',upd tok t false,nt⟩ a w/\LeC cx G0 w0 G' w ⟨tl l',lb cx.base out loc',upd tok t false,nt⟩:=by
  intro G' iv n5 mb hd;have hto:∀x y v,aE3 t x y->RV G w x v->RV G' w y v:=fun x y v h hr=>by
   cases h with
   | bot=>exact .bot
   | same=>exact hr.mono iv
   | stk=>exact .d (hd _ _ v (xf hr))
  refine⟨G',⟨hS.defers,hS.size,fun i=>hto _ _ _ (hl.at .bot i) (hS.tmps i),?_⟩,?_⟩
  .constructor
   case box =>
    intro k rows b z hk oz;simp only at hk;by_cases jb:k<cx.base
    .rw[lO jb] at hk;exact mb.box k rows b z (by simp only;rw[lO jb];exact hk) oz
    .have jd:k=cx.base+(k-cx.base):=by omega
     rw[jd,aQ] at hk;rcases hb.at (k-cx.base) with ⟨_,h2⟩|⟨r0,r',h1,h2,h3⟩
     .rw[h2] at hk;cases hk
     .rw[h2] at hk;cases hk;obtain⟨_,cs,e,g2,g3,g4,g5⟩:=hm.box k r0 b z (by simp only;rw[jd,aQ];exact h1) (by rw[<-n5];exact oz);obtain⟨g1,_⟩:=mb.box k r0 b z (by simp only;rw[jd,aQ];exact h1) oz;refine⟨g1,cs,e,g2,fun q hq=>?_,⟨h3.flat.1.symm.trans g4.1,fun i h1 h2=>hto _ _ _ (h3.flat.2 i (by rw[h3.flat.1];exact h1) h1) (g4.2 i _ h2)⟩,g5⟩;obtain⟨i,hi,rfl⟩:=bf hq;have r7:i<r0.length:=by rw[h3.1];exact hi
      rw[<-(h3.2 i r7 hi).1];exact g3 _ (aa _)
   case nobox =>
    intro k hk;refine mb.nobox k ?_;simp only at hk ⊢;by_cases jb:k<cx.base
    .rw[lO jb] at hk ⊢;exact hk
    .have jd:k=cx.base+(k-cx.base):=by omega
     rw[jd,aQ] at hk ⊢;rcases hb.at (k-cx.base) with ⟨h1,_⟩|⟨r0,r',_,h2,_⟩
     .exact h1
     .rw[h2] at hk;cases hk
   case inj=>exact mb.inj
   case nb =>
    intro k hk;have h0:=mb.nb k hk;simp only at h0 ⊢;by_cases jb:k<cx.base
    .rw[lO jb] at h0 ⊢;exact h0
    .have jd:k=cx.base+(k-cx.base):=by omega
     rw[jd,aQ] at h0 ⊢;rcases hb.at (k-cx.base) with ⟨_,h2⟩|⟨r0,r',h1,_,_⟩
     .exact h2
     .rw[h1] at h0;cases h0
   case nt=>exact mb.nt
   case toks=>exact mb.toks
   case tokb=>exact mb.tokb
   case tinj=>exact mb.tinj
   case tnt=>exact mb.tnt
   case glob=>exact mb.glob
   case fresh=>exact mb.fresh
  .refine hL.step ⟨iv,fun k jb hg=>⟨by rw[n5];exact hg,?_⟩⟩;simp only;rw[lO jb,lO jb]
 cases x with
 | none =>
  refine fin (G.kill (.tok t)) ll rfl px fun sz es v hv=>?_
  obtain⟨_,A,cap,rfl,i8,i9,jp⟩:=hv;have Al:cap=0:=jp _ hx
  have mf:es=[]:=bg (by omega)
  subst mf;exact .sl (es:=[]) (fun _ _=>default) (ai _) i9 (by simp) (by simp) (fun a _ i j hi _=>by simp at hi) (fun i j hi _=>by simp at hi)
 | some g =>
  obtain⟨f,cur,e,pj,hg⟩:=hm.tokb t g hx;by_cases vu:G.kind g=.ex
  .have k8:=yU hm hx;have De:=Le.reKind (G:=G.kill (.tok t)) (w:=w) .whole vu k8;refine fin ((G.kill (.tok t)).setKind g .whole) (ll.trans De) rfl (px.reKind .whole vu k8 (bY hg)) fun sz es v hv=>?_
   obtain⟨_,A,cap,rfl,i8,i9,jp⟩:=hv;obtain⟨hA,vs,sp,e,h1,h2,h3,h4,h5⟩:=jp _ hx;refine RVd.of_flat i8 i9 ⟨h4.len,fun a ha q u hq=>?_,h4.one,fun _=>⟨_,hA⟩,h4.each,fun i j hi hj=>?_⟩
   .rw[hA] at ha;cases ha;rw[bK];refine⟨by simp[Gh.ps,Gh.setKind,uS],?_⟩;rw[e8 w g _ _ e (0,0) h2,cd];simp only[d5];rw[bi (ba.1 hq).1];exact hq
   .obtain⟨u,hu,hr⟩:=h4.read i j hi hj;exact⟨u,hu,hr.mono (ll.trans De).cells⟩
  .refine fin (G.kill (.tok t)) ll rfl px fun sz es v hv=>?_
   obtain⟨_,A,cap,rfl,i8,i9,jp⟩:=hv;obtain⟨_,vs,sp,e,h1,_⟩:=jp _ hx;exact absurd h1 vu
def AV.sdT(t:Nat):AV->AV
 | .stk t' sz es=>if t'=t then .d (.sl sz es) else .stk t' sz es
 | x=>x
theorem aJr(t:Nat)(x:AV):aE3 t x (x.sdT t):=by
 cases x with
 | stk t' sz es =>
  simp only[AV.sdT];split
  .rename_i h;subst h;exact .stk
  .exact .same
 | _=>exact .same
theorem aCj{R:AV->AV->Prop}{f:AV->AV}(h:∀x,R x (f x)):∀l:List (Nat × AV),CvL R l (l.map fun q=>(q.1,f q.2))
 | []=>trivial
 | (i,x)::l=>⟨rfl,h x,aCj h l⟩
theorem aBU{R:AV->AV->Prop}{f:AV->AV}(h:∀x,R x (f x)):∀l:List (Nat × List (List AV)),CvB R l (l.map fun q=>(q.1,q.2.map fun r=>r.map f))
 | []=>trivial
 | (i,x)::l=>⟨rfl,⟨by simp,fun i h1 h2=>⟨by simp,fun j g1 g2=>by simp only[bl];exact h _⟩⟩,aBU h l⟩
theorem AL.stkD{cx:Cx}{nt0 nt:Nat}{K:Exit->AS->Prop}{q:List CI}{x:Code}{l:List (Nat × AV)}{out:Bxs}{loc:List (Nat × List (List AV))}{tok:Nat->Bool}(t:Nat)(ht:tok t=true)(h:AL P cx nt0 K (.c x::q) ⟨tl (l.map fun q=>(q.1,q.2.sdT t)),lb cx.base out (loc.map fun q=>(q.1,q.2.map fun r=>r.map (AV.sdT t))),upd tok t false,nt⟩):AL P cx nt0 K (.c x::q) ⟨tl l,lb cx.base out loc,tok,nt⟩ :=
 AL.trans (iO.stkD t ht (aCj (aJr t) l) (aBU (aJr t) loc)) h
variable {P:Program}
theorem cN.rvs{G:Gh}{w:World}{sz:Nat}:∀{es:List (List D)} {vs:List Value},cN w.cell? G.ps sz es vs->RVs G w (es.flatten.map AV.d) vs
 | [],vs,h=>by
  have hv:vs=[]:=bg (by simpa using h.len)
  subst hv;exact⟨rfl,fun i h=>by simp at h⟩
 | e::es,vs,h=>by
  have he:e.length=sz:=h.each e (by simp)
  have hl:=h.len;rw[ci,cf] at hl;have h1:cN w.cell? G.ps sz es (vs.drop sz):=by
   refine⟨by rw[eg];omega,fun u hu=>h.one u (cu hu),fun q hq=>h.each q (by simp[hq]),fun i j hi hj=>?_⟩;obtain⟨u,hu,hr⟩:=h.read (i+1) j (by simpa using hi) (by simpa using hj);refine⟨u,?_,by simpa using hr⟩;rw[gr,<-hu];congr 1
   rw[cf];omega
  have ih:=cN.rvs h1;have h2:RVs G w (e.map AV.d) (vs.take sz):=by
   refine⟨by rw[br,cj];omega,fun j g1 g2=>?_⟩;have hj:j<e.length:=by simpa using g1
   obtain⟨u,hu,hr⟩:=h.read 0 j (by simp) (by simpa using hj);simp only[bl,fj];obtain⟨hlt,rfl⟩:=ba.1 hu;simp only[Nat.zero_mul,cd] at hr ⊢;exact .d (by simpa using hr)
  have:=h2.append ih
  rw[cg] at this;simpa using this
inductive vB (t k sz:Nat) (es:List (List D)):AV->AV->Prop
 | bot {x}:vB t k sz es x .bot
 | same {x}:vB t k sz es x x
 | stk:vB t k sz es (.stk t sz es) (.msl k 0 es.length sz)
theorem AT.thawS{cx:Cx}{nt0 nt:Nat}{c:Code}{K:Exit->AS->Prop}{l l':List (Nat × AV)}{out:Bxs}{loc loc':List (Nat × List (List AV))}{tok:Nat->Bool}(t s sz:Nat)(es:List (List D))(r:Nat)(hn:cx.nb=cx.base+cx.n)(hs:s<cx.n)(hk:lk loc s=none)(ht:tok t=true)(hne:es≠[])(hr:tl l r=.stk t sz es)(hl:CvL (vB t (cx.base+s) sz es) l l')(hb:CvB (vB t (cx.base+s) sz es) loc loc')(h:∀m,AT P cx nt0 c ⟨tl l',lb cx.base out ((s,cI es++List.replicate m (List.replicate sz .bot))::loc'),upd tok t false,nt⟩ K):AT P cx nt0 c ⟨tl l,lb cx.base out loc,tok,nt⟩ K:=by
 intro G0 w0 qt pk G a w hS hL;have hm:=hS.mem;obtain⟨hlt,x,hx⟩:=hm.toks t ht;have xf:∀{v:Value},RV G w (.stk t sz es) v->zF G w t sz es v:=fun h=>by cases h with|stk h=>exact h
 have qd:=hS.tmps r;simp only at qd;rw[hr] at qd;obtain⟨_,A,cap,hv,i8,i9,jp⟩:=xf qd;have jp:=jp x hx;cases x with
 | none =>
  have Al:cap=0:=jp
  exact absurd (bg (by omega)) hne
 | some g =>
  obtain⟨hA,vs,sp,e,pj,kw,hlen,hf,qf⟩:=jp;have vk:lb cx.base out loc (cx.base+s)=none:=by rw[aQ];exact hk
  have um:G.bx (cx.base+s)=none:=hm.nobox _ vk
  have j8:∀{k b z},G.bx k=some (b,z)->b≠g:=fun h e=>by
   have:=(hm.blt h).2
   rw[e,pj] at this;cases this
  have px:=hm.kill (.tok t);have k8:=yU hm hx;have tu:=px.reKind .box pj k8 (bY kw)
  let G1:Gh:=(G.kill (.tok t)).setKind g .box
  let G':Gh:={ G1 with bx:=upd G.bx (cx.base+s) (some (g,sz)) }
  have qe:Le G w G1 w:=(Le.kill (.tok t)).trans (Le.reKind .box pj k8)
  have Ag:Le G1 w G' w:=⟨rfl,rfl,rfl,nr0 _,fun _ _ h=>⟨h,rfl⟩,fun _ f _ h=>⟨⟨f,nr0 _,h⟩,fun _ _ _=>rfl⟩,fun k x hk=>by
   simp only[G'];rw[uO _ _ (fun e=>by
    have hk:G.bx k=some x:=hk
    rw[e,um] at hk;cases hk)]
   exact hk,nr0 _,fun t _=>.inr ⟨rfl,fun _ _=>⟨rfl,fun _=>rfl⟩⟩,fun _ cs T f h=>⟨cs,f,h⟩⟩
  have iv:=qe.trans Ag;have hto:∀x y v,vB t (cx.base+s) sz es x y->RV G w x v->RV G' w y v:=fun x y v h hr=>by
   cases h with
   | bot=>exact .bot
   | same=>exact hr.mono iv
   | stk =>
    obtain⟨_,A',cap',rfl,hc1,xz,h2⟩:=xf hr;obtain⟨tq,_⟩:=h2 _ hx;subst tq;have:=RV.msl (G:=G') (w:=w) (k:=cx.base+s) (off:=0) (n:=es.length) (b:=g) (sz:=sz) (cap:=cap') (by simp[G',uS]) hc1 xz
    simpa using this
  have mq:=hf.mono iv.cells
  have qg:=hf.len;obtain⟨m,qn⟩:∃m,cap=es.length+m:=⟨cap-es.length,by omega⟩
  have Cz:sp.length=m*sz:=by
   rw[am,qg,qn,cf] at hlen;omega
  refine h m G0 w0 qt pk G' a w ⟨hS.defers,hS.size,fun i=>hto _ _ _ (hl.at .bot i) (hS.tmps i),?_⟩ ?_
  .constructor
   case box =>
    intro k rows b z jv hb';by_cases e1:k=cx.base+s
    .subst e1;simp only[aQ,cC,↓reduceIte,ad] at jv;simp only[G',uS,ad,aw] at hb';obtain⟨rfl,rfl⟩:=hb';subst jv;refine⟨by simp[G',G1,Gh.setKind,uS],_,e,kw,fun q hq=>?_,?_,fun v hv=>?_⟩
     .rcases ap.1 hq with hq|hq
      .obtain⟨p,hp,rfl⟩:=bc.1 hq;simpa using hf.each p hp
      .rw[co hq];simp
     .rw[gg,wL];have h2:RVs G' w (List.replicate m (List.replicate sz AV.bot)).flatten sp:=by
       refine⟨by rw[Cz];simp[List.length_flatten],fun i g1 g2=>?_⟩;have jg:(List.replicate m (List.replicate sz AV.bot)).flatten[i]∈(List.replicate m (List.replicate sz AV.bot)).flatten:=aa _
       obtain⟨q,hq,Df⟩:=gl.1 jg;rw[co hq] at Df;rw[co Df];exact .bot
      simpa using mq.rvs.append h2
     .have hv:v∈vs++sp:=by simpa using hv
      rcases ap.1 hv with hv|hv
      .exact hf.one v hv
      .exact qf v hv
    .simp only[G'] at hb';rw[uO _ _ e1] at hb';have C0:∃rows0,lb cx.base out loc k=some rows0/\(rows0=rows∨aEE (vB t (cx.base+s) sz es) rows0 rows):=by
      by_cases jb:k<cx.base
      .refine⟨rows,?_,.inl rfl⟩;simp only at jv;rw[lO jb] at jv ⊢;exact jv
      .have jd:k=cx.base+(k-cx.base):=by omega
       simp only at jv;rw[jd,aQ] at jv ⊢;rw[cC,ac (by omega)] at jv;rcases hb.at (k-cx.base) with ⟨_,h2⟩|⟨r0,r',h1,h2,h3⟩
       .rw[h2] at jv;cases jv
       .rw[h2] at jv;cases jv
        exact⟨r0,h1,.inr h3⟩
     obtain⟨rows0,h1,h2⟩:=C0;obtain⟨g1,cs',e',g2,g3,g4,g5⟩:=hm.box k rows0 b z h1 hb';refine⟨by simp only[G',G1,Gh.setKind];rw[uO _ _ (j8 hb')];exact g1,cs',e',g2,?_,?_,g5⟩
     .rcases h2 with rfl|h2
      .exact g3
      .intro q hq;obtain⟨i,hi,rfl⟩:=bf hq;have r7:i<rows0.length:=by rw[h2.1];exact hi
       rw[<-(h2.2 i r7 hi).1];exact g3 _ (aa _)
     .rcases h2 with rfl|h2
      .exact g4.mono iv
      .exact⟨h2.flat.1.symm.trans g4.1,fun i k1 k2=>hto _ _ _ (h2.flat.2 i (by rw[h2.flat.1];exact k1) k1) (g4.2 i _ k2)⟩
   case nobox =>
    intro k jv;have hne:k≠cx.base+s:=fun e=>by subst e;simp[aQ,cC] at jv
    simp only[G'];rw[uO _ _ hne];refine hm.nobox k ?_;simp only at jv ⊢;by_cases jb:k<cx.base
    .rw[lO jb] at jv ⊢;exact jv
    .have jd:k=cx.base+(k-cx.base):=by omega
     rw[jd,aQ] at jv ⊢;rw[cC,ac (by omega)] at jv;rcases hb.at (k-cx.base) with ⟨h1,_⟩|⟨r0,r',_,h2,_⟩
     .exact h1
     .rw[h2] at jv;cases jv
   case inj =>
    intro j j' b z z' hj nk;simp only[G'] at hj nk;by_cases e1:j=cx.base+s<;>by_cases e2:j'=cx.base+s
    .exact e1.trans e2.symm
    .subst e1;rw[uS] at hj;rw[uO _ _ e2] at nk;cases hj;exact absurd rfl (j8 nk)
    .subst e2;rw[uS] at nk;rw[uO _ _ e1] at hj;cases nk
     exact absurd rfl (j8 hj)
    .rw[uO _ _ e1] at hj;rw[uO _ _ e2] at nk;exact hm.inj j j' b z z' hj nk
   case nb =>
    intro k jv;have h0:=hm.nb k jv;simp only at h0 ⊢;have jb:¬k<cx.base:=by simp only at jv;omega
    have jd:k=cx.base+(k-cx.base):=by omega
    rw[jd,aQ] at h0 ⊢;rw[cC,ac (by simp only at jv;omega)];rcases hb.at (k-cx.base) with ⟨_,h2⟩|⟨r0,r',h1,_,_⟩
    .exact h2
    .rw[h1] at h0;cases h0
   case nt=>exact tu.nt
   case toks=>exact tu.toks
   case tokb=>exact tu.tokb
   case tinj=>exact tu.tinj
   case tnt=>exact tu.tnt
   case glob=>exact hm.glob.mono iv.cells
   case fresh=>exact tu.fresh
  .refine hL.step ⟨iv,fun k jb hg=>⟨?_,?_⟩⟩
   .simp only[G'];rw[uO _ _ (by omega)];exact hg
   .simp only;rw[lO jb,lO jb]
theorem AL.thawS{cx:Cx}{nt0 nt:Nat}{K:Exit->AS->Prop}{q:List CI}{x:Code}{l l':List (Nat × AV)}{out:Bxs}{loc loc':List (Nat × List (List AV))}{tok:Nat->Bool}(t s sz:Nat)(es:List (List D))(r:Nat)(hn:cx.nb=cx.base+cx.n)(hs:s<cx.n)(hk:lk loc s=none)(ht:tok t=true)(hne:es≠[])(hr:tl l r=.stk t sz es)(hl:CvL (vB t (cx.base+s) sz es) l l')(hb:CvB (vB t (cx.base+s) sz es) loc loc')(h:∀m,AL P cx nt0 K (.c x::q) ⟨tl l',lb cx.base out ((s,cI es++List.replicate m (List.replicate sz .bot))::loc'),upd tok t false,nt⟩):AL P cx nt0 K (.c x::q) ⟨tl l,lb cx.base out loc,tok,nt⟩:=by
 simp only[AL] at h ⊢;exact AT.thawS t s sz es r hn hs hk ht hne hr hl hb h
section
variable {t k sz:Nat} {es:List (List D)}
@[simp] theorem aPb(x:AV):vB t k sz es x .bot:=.bot
@[simp] theorem aN9(x:AV):vB t k sz es x x:=.same
@[simp] theorem aPZ{n:Nat}:vB t k sz es (.stk t sz es) (.msl k 0 n sz)↔n=es.length:=⟨fun h=>by cases h;rfl,fun h=>by subst h;exact .stk⟩
end
variable {P:Program}
theorem cN.of_rvs{G:Gh}{w:World}{sz:Nat}:∀{es:List (List D)} {vs:List Value},(∀e∈es,e.length=sz)->RVs G w (es.flatten.map AV.d) vs->(∀v∈vs,v.oneCell'=true)->cN w.cell? G.ps sz es vs
 | [],vs,_,h,_=>by
  have hv:vs=[]:=bg (by have:=h.1;simpa using this.symm)
  subst hv;exact cN.none_ _ _ _
 | e::es,vs,hs,h,h1=>by
  have he:=hs e (by simp);rw[cr,c7] at h;have hl:=h.1;rw[am,br,br] at hl;have ha:=h.take e.length;have hb:=h.drop e.length;rw[c8 (by simp),ak (by simp)] at ha;rw[List.drop_append,List.drop_of_length_le (by simp),eq,br,Nat.sub_self,List.drop_zero] at hb;have f1:cN w.cell? G.ps sz [e] (vs.take e.length):=by
   refine⟨by rw[cj];simp;omega,fun u hu=>h1 u (bt hu),fun q hq=>by simp at hq;rw[hq];exact he,fun i j hi hj=>?_⟩;have r7:i=0:=by simp at hi;omega
   subst r7;simp only[ck] at hj ⊢;have y7:j<(vs.take e.length).length:=by rw[cj];omega
   have h3:=ha.2 j (by simpa using hj) y7;simp only[bl] at h3;refine⟨(vs.take e.length)[j],by rw[Nat.zero_mul,cd];exact ab y7,?_⟩;cases h3 with
   | d h4=>exact h4
  have f2:=cN.of_rvs (fun q hq=>hs q (by simp[hq])) hb (fun v hv=>h1 v (cu hv));have:=f1.append f2
  rw[cg] at this;exact this
inductive uY (k sz:Nat) (es:List (List D)):AV->AV->Prop
 | bot {x}:uY k sz es x .bot
 | same {x} (h:bF (· ≠ k) (fun _=>True) x):uY k sz es x x
 | msl:uY k sz es (.msl k 0 es.length sz) (.d (.sl sz es))
theorem iO.sealD{cx:Cx}{nt0 nt:Nat}{l l':List (Nat × AV)}{out:Bxs}{loc loc':List (Nat × List (List AV))}{tok:Nat->Bool}(s sz:Nat)(es:List (List D))(rest:List (List AV))(r:Nat)(ho:out=cx.B0)(hsz:∀e∈es,e.length=sz)(hr:tl l r=.msl (cx.base+s) 0 es.length sz)(jv:lk loc' s=none)(hl:CvL (uY (cx.base+s) sz es) l l')(hb:CvB (uY (cx.base+s) sz es) loc loc'):
  iO cx nt0 ⟨tl l,lb cx.base out ((s,cI es++rest)::loc),tok,nt⟩ ⟨tl l',lb cx.base out loc',tok,nt⟩:=by
 intro G0 w0 G a w he we hS hL;have hm:=hS.mem;have rj:G.nt=nt:=hm.nt
 have qd:=hS.tmps r;simp only at qd;rw[hr] at qd;obtain⟨b,oz⟩:∃b,G.bx (cx.base+s)=some (b,sz):=by
  generalize hq:(AV.msl (cx.base+s) 0 es.length sz)=q at qd;generalize a.tmps.getD r undef=v0 at qd;cases qd with
  | msl h1 h2 h3=>cases hq;exact⟨_,h1⟩
  | _=>cases hq
 have vk:lb cx.base out ((s,cI es++rest)::loc) (cx.base+s)=some (cI es++rest):=by rw[aQ,cC,af rfl]
 obtain⟨ti,cs,e,kw,u3,hR,jq⟩:=hm.box _ _ b sz vk oz
 let G1:Gh:={ bx:=G.bx,kind:=upd G.kind b .whole,tk:=G.tk,nt:=G.nt }
 let G':Gh:={ bx:=upd G.bx (cx.base+s) none,kind:=upd G.kind b .whole,tk:=G.tk,nt:=G.nt }
 have hne:∀{q j},G.tk q=some (some j)->j≠b:=fun h e=>by
  obtain⟨f,cur,e',h1,_⟩:=hm.tokb _ _ h;rw[e,ti] at h1;rcases h1 with ⟨h1,_⟩|h1<;>cases h1
 have iv:Le G w G1 w:=by
  refine⟨rfl,rfl,rfl,nr0 _,fun b' _ hb'=>⟨?_,rfl⟩,fun b' f c hb'=>⟨⟨f,nr0 _,?_⟩,fun _ _ _=>rfl⟩,fun k x hk=>hk,nr0 _,fun q hq=>?_,fun _ _ _ _ h=>⟨_,_,h⟩⟩
  .simp only[G1];rw[uO _ _ (fun e=>by rw[e,ti] at hb';cases hb')];exact hb'
  .simp only[G1];rw[uO _ _ (fun e=>by rw[e,ti] at hb';cases hb')];exact hb'
  .refine .inr ⟨rfl,fun j hj=>⟨?_,fun _=>rfl⟩⟩;simp only[G1];exact uO _ _ (hne hj)
 have qa:∀(q:Addr) (u:Value),G.ps q->w.cell? q=some u->G'.ps q/\w.cell? q=some u:=fun q u h1 h2=>iv.cells q u h1 h2
 -- what does not speak of the box
 have ia:∀{x:AV} {v:Value},bF (· ≠ cx.base+s) (fun _=>True) x->RV G w x v->RV G' w x v:=by
  intro x v hx h;have h1:=h.mono iv;clear h;induction h1 with
  | bot=>exact .bot
  | d h2=>exact .d h2
  | osl h2 h3=>exact .osl h2 h3
  | ptr h2=>cases hx with|ptr hp=>exact .ptr (by simp only[G'];rw[uO _ _ hp];exact h2)
  | buf h2 h3 h4 h5=>exact .buf h2 h3 h4 h5
  | here h2 h3=>cases hx with|here hp=>exact .here (by simp only[G'];rw[uO _ _ hp];exact h2) h3
  | cptr q u hc hr=>exact .cptr q u hc hr
  | msl h2 h3 h4=>cases hx with|msl hp=>exact .msl (by simp only[G'];rw[uO _ _ hp];exact h2) h3 h4
  | fn hl _ ih=>cases hx with|fn hp=>exact .fn hl fun i h1 h2=>ih i h1 h2 (hp _ (aa h1))
  | agg hl _ jq ih=>cases hx with|agg hp=>exact .agg hl (fun i h1 h2=>ih i h1 h2 (hp _ (aa h1))) jq
  | tup hl _ ih=>cases hx with|tup hp=>exact .tup hl fun i h1 h2=>ih i h1 h2 (hp _ (aa h1))
  | ex h2=>exact .ex h2
  | stk h2=>exact .stk h2
  | que h2 h3=>exact .que h2 h3
  | mp h2=>exact .mp h2
  | mpd h2=>exact .mpd h2
 have hto:∀x y v,uY (cx.base+s) sz es x y->RV G w x v->RV G' w y v:=by
  intro x y v Be h;cases Be with
  | bot=>exact .bot
  | same h1=>exact ia h1 h
  | msl =>
   generalize hq:(AV.msl (cx.base+s) 0 es.length sz)=q at h;cases h with
   | msl h1 h2 h3 =>
    cases hq;rw[oz] at h1;cases h1;rw[gg,wL] at hR;have Dg:=hR.take (es.flatten.map AV.d).length;rw[c8 (nr0 _),bh] at Dg;have rr:=cN.of_rvs hsz Dg (fun v hv=>jq v (bt hv));refine .d (RVd.of_flat h2 h3 ⟨rr.len,fun a ha q u hq=>?_,rr.one,fun _=>⟨_,rfl⟩,rr.each,fun i j hi hj=>?_⟩)
    .cases ha;rw[bK];refine⟨by simp[Gh.ps,G',uS],?_⟩;rw[e8 w b _ _ e (0,0) kw];obtain⟨hlt,rfl⟩:=ba.1 hq;rw[fj];have hl2:q<cs.size:=by rw[cj] at hlt;simp at hlt;omega
     have e0:0*sz+q=q:=by omega
     rw[e0];simp[hl2]
    .obtain⟨u,hu,hr⟩:=rr.read i j hi hj;exact⟨u,hu,hr.mono qa⟩
   | _=>cases hq
 have C1:∀{xs ys:List AV} {vs:List Value},CvR (uY (cx.base+s) sz es) xs ys->RVs G w xs vs->RVs G' w ys vs:=fun h hr=>⟨h.1.symm.trans hr.1,fun i h1 h2=>hto _ _ _ (h.2 i (by rw[h.1];exact h1) h1) (hr.2 i _ h2)⟩
 refine⟨G',⟨hS.defers,hS.size,fun i=>hto _ _ _ (hl.at .bot i) (hS.tmps i),?_⟩,?_,?_⟩
 .constructor
  case box =>
   intro k rows b' z hk hb';have e1:k≠cx.base+s:=fun e=>by
    subst e;simp only at hk;rw[aQ,jv] at hk;cases hk
   simp only[G'] at hb';rw[uO _ _ e1] at hb';have Bf:b'≠b:=fun e=>by subst e;exact e1 (hm.inj _ _ _ _ _ hb' oz)
   by_cases jb:k<cx.base
   .simp only at hk;rw[lO jb] at hk;obtain⟨g1,cs',e',g2,g3,g4,g5⟩:=hm.box k rows b' z (by simp only;rw[lO jb];exact hk) hb';refine⟨by simp only[G'];rw[uO _ _ Bf];exact g1,cs',e',g2,g3,⟨g4.1,fun i h1 h2=>?_⟩,g5⟩;have jg:rows.flatten[i]∈rows.flatten:=aa _
    obtain⟨q,hq,DT⟩:=gl.1 jg;have uy:G0.bx k≠none:=by rw[<-hL.1.bx k jb,hb'];simp
    have:=he k rows jb (by rw[<-ho];exact hk) uy q hq _ DT
    exact ia (this.imp (fun j hj=>by omega) fun _ _=>trivial) (g4.2 i h1 h2)
   .have jd:k=cx.base+(k-cx.base):=by omega
    simp only at hk;rw[jd,aQ] at hk;rcases hb.at (k-cx.base) with ⟨_,h2⟩|⟨r0,r',h1,h2,h3⟩
    .rw[h2] at hk;cases hk
    .rw[h2] at hk;cases hk;obtain⟨g1,cs',e',g2,g3,g4,g5⟩:=hm.box k r0 b' z (by simp only;rw[jd,aQ,cC,ac (by omega)];exact h1) hb';refine⟨by simp only[G'];rw[uO _ _ Bf];exact g1,cs',e',g2,fun q hq=>?_,C1 h3.flat g4,g5⟩;obtain⟨i,hi,rfl⟩:=bf hq;have r7:i<r0.length:=by rw[h3.1];exact hi
     rw[<-(h3.2 i r7 hi).1];exact g3 _ (aa _)
  case nobox =>
   intro k hk;simp only[G'];by_cases e1:k=cx.base+s
   .subst e1;simp[uS]
   .rw[uO _ _ e1];refine hm.nobox k ?_;simp only at hk ⊢;by_cases jb:k<cx.base
    .rw[lO jb] at hk ⊢;exact hk
    .have jd:k=cx.base+(k-cx.base):=by omega
     rw[jd,aQ] at hk ⊢;rw[cC,ac (by omega)];rcases hb.at (k-cx.base) with ⟨h1,_⟩|⟨r0,r',_,h2,_⟩
     .exact h1
     .rw[h2] at hk;cases hk
  case inj =>
   intro j j' b' z z' hj nk;simp only[G'] at hj nk;by_cases e1:j=cx.base+s
   .subst e1;simp[uS] at hj
   .by_cases e2:j'=cx.base+s
    .subst e2;simp[uS] at nk
    .rw[uO _ _ e1] at hj;rw[uO _ _ e2] at nk;exact hm.inj j j' b' z z' hj nk
  case nb =>
   intro k hk;have h0:=hm.nb k hk;simp only at h0 ⊢;by_cases jb:k<cx.base
   .rw[lO jb] at h0 ⊢;exact h0
   .have jd:k=cx.base+(k-cx.base):=by omega
    rw[jd,aQ] at h0 ⊢;by_cases e1:k-cx.base=s
    .rw[e1];exact jv
    .rw[cC,ac e1] at h0;rcases hb.at (k-cx.base) with ⟨_,h2⟩|⟨r0,r',h1,_,_⟩
     .exact h2
     .rw[h1] at h0;cases h0
  case nt=>exact hm.nt
  case toks=>exact hm.toks
  case tokb =>
   intro q j hq;obtain⟨f,cur,e',g1,g2⟩:=hm.tokb q j hq;refine⟨f,cur,e',?_,g2⟩;simp only[G'];rw[uO _ _ (hne hq)];exact g1
  case tinj=>exact hm.tinj
  case tnt=>exact hm.tnt
  case glob=>exact hm.glob.mono qa
  case fresh =>
   intro b' hb';have:=bY kw
   simp only[G'];rw[uO _ _ (by omega)];exact hm.fresh b' hb'
 .refine hL.1.trans ⟨rfl,rfl,rfl,nr0 _,iv.whole,iv.part,fun k hk=>?_,iv.nt,iv.tk,iv.ty⟩;simp only[G'];exact uO _ _ (by omega)
 .intro k jb hg;have:=hL.2 k jb hg
  simp only at this ⊢;rw[lO jb] at this ⊢;exact this
section
variable {k sz:Nat} {es:List (List D)}
@[simp] theorem aPa(x:AV):uY k sz es x .bot:=.bot
@[simp] theorem aSU(x:D):uY k sz es (.d x) (.d x):=.same .d
@[simp] theorem aPr(n:Nat)(xs:List (List D))(o:Own):uY k sz es (.osl n xs o) (.osl n xs o):=.same (.osl fun _ _=>trivial)
@[simp] theorem aQt:uY k sz es (.msl k 0 es.length sz) (.d (.sl sz es)):=.msl
end
def jQ(ok:List Int->Nat->Bool)(m:Nat):Nat->List Int->List (List Int)
 | 0,L=>[L]
 | r+1,L=>(List.range m).flatMap fun k=>if ok L k=true then jQ ok m r (L++[(k:Int)]) else []
theorem aJE{α:Type}(n:Nat)(a b:List α):((a.take n)++b).take n=(a++b).take n:=by
 by_cases h:a.length<=n
 .rw[ak h]
 .rw[c8 (by simp;omega),c8 (by omega),List.take_take,Nat.min_self]
theorem tK{α β:Type}(most:Nat)(g:List β->α->List β)(f:α->List β):∀(l:List α) (out:List β),(∀x∈l,∀out,out.length<=most->g out x=(out++f x).take most)->out.length<=most ->
  l.foldl g out=(out++l.flatMap f).take most
 | [],out,_,h=>by simp[ak h]
 | x::l,out,hg,h=>by
  rw[List.foldl_cons,hg x (by simp) out h,tK most g f l _ (fun y hy=>hg y (by simp[hy])) (by simp;omega),aJE,gu,cw]
theorem tM{β:Type}{most:Nat}{out:List β}(h:out.length=most)(l:List β):(out++l).take most=out:=by
 rw[c8 (by omega),ak (by omega)]
def iJ(most:Nat)(ok:List Int->Nat->Bool)(m:Nat)(N:List Int):Nat->List Int->List Mo->List Mo
 | 0,E,out=>if out.length=most then out else out++[⟨N,E⟩]
 | r+1,E,out=>if out.length=most then out else (List.range m).foldl (fun out k=>if ok E k=true then iJ most ok m N r (E++[(k:Int)]) out else out) out
theorem aBk(most:Nat)(ok:List Int->Nat->Bool)(m:Nat)(N:List Int):∀(r:Nat) (E:List Int) (out:List Mo),out.length<=most->iJ most ok m N r E out=(out++(jQ ok m r E).map (Mo.mk N)).take most
 | 0,E,out,h=>by
  unfold iJ;split
  .rename_i e;rw[tM e]
  .rw[jQ,di,d6,ak (by simp;omega)]
 | r+1,E,out,h=>by
  unfold iJ;split
  .rename_i e;rw[tM e]
  .rw[tK most _ (fun k=>if ok E k=true then (jQ ok m r (E++[(k:Int)])).map (Mo.mk N) else []) _ _ (fun k _ out ho=>by
    split
    .exact aBk most ok m N r _ out ho
    .rw[c6,ak ho]) h,jQ,List.map_flatMap]
   refine d8 (fun f=>(out++List.flatMap f (List.range m)).take most) (funext fun k=>?_);split<;>simp
def zP(most:Nat)(okN pos:List Int->Nat->Bool)(mn:Nat)(okE:List Int->List Int->Nat->Bool)(me re:Nat):Nat->List Int->List Mo->List Mo
 | 0,N,out=>iJ most (okE N) me N re [] out
 | r+1,N,out=>if out.length=most then out else (List.range mn).foldl (fun out k=>if okN N k=true then (if pos N k=true then zP most okN pos mn okE me re r (N++[(k:Int)]) out else out) else out) out
def mX(okN:List Int->Nat->Bool)(mn:Nat)(okE:List Int->List Int->Nat->Bool)(me re:Nat)(r:Nat)(N:List Int):List Mo:=(jQ okN mn r N).flatMap fun N=>(jQ (okE N) me re []).map (Mo.mk N)
theorem aGQ(okN:List Int->Nat->Bool)(mn:Nat)(okE:List Int->List Int->Nat->Bool)(me re:Nat)(N:List Int):mX okN mn okE me re 0 N=(jQ (okE N) me re []).map (Mo.mk N):=by simp[mX,jQ]
theorem aGM(okN:List Int->Nat->Bool)(mn:Nat)(okE:List Int->List Int->Nat->Bool)(me re:Nat)(r:Nat)(N:List Int):
  mX okN mn okE me re (r+1) N=(List.range mn).flatMap fun k=>if okN N k=true then mX okN mn okE me re r (N++[(k:Int)]) else []:=by
 unfold mX;rw[jQ,List.flatMap_assoc];congr 1
 funext k
 split<;>simp
theorem aBd(most:Nat)(okN pos:List Int->Nat->Bool)(mn:Nat)(okE:List Int->List Int->Nat->Bool)(me re:Nat)(P:List Int->Prop)(hP:∀N k,P N->k<mn->okN N k=true->P (N++[(k:Int)]))(li:∀r N k,P N->okN N k=true->pos N k=false->mX okN mn okE me re r (N++[(k:Int)])=[]):∀(r:Nat) (N:List Int) (out:List Mo),P N->out.length<=most ->
  zP most okN pos mn okE me re r N out=(out++mX okN mn okE me re r N).take most
 | 0,N,out,hN,h=>by rw[zP,aBk _ _ _ _ _ _ _ h,aGQ]
 | r+1,N,out,hN,h=>by
  rw[zP,aGM];split
  .rename_i e;rw[tM e]
  .refine tK most _ _ _ _ (fun k hk out ho=>?_) h;have hk:=ay.1 hk;cases e:okN N k
   .simp[ak ho]
   .simp only[if_true];cases e2:pos N k
    .simp only[bu,if_false];rw[li r N k hN e e2,c6,ak ho]
    .simp only[if_true];exact aBd most okN pos mn okE me re P hP li r _ out (hP N k hN hk e) ho
theorem mW{most:Nat}{ok:List Int->Nat->Bool}{m:Nat}{N:List Int}{r:Nat}{E:List Int}{out:List Mo}(h:out.length<=most):(iJ most ok m N r E out).length<=most:=by
 rw[aBk _ _ _ _ _ _ _ h];simp;omega
theorem gO{ok:List Int->Nat->Bool}{m:Nat}:∀{r:Nat} {L x:List Int},x∈jQ ok m r L↔∃T:List Nat,T.length=r/\(∀k∈T,k<m)/\x=L++T.map (fun (k:Nat)=>(k:Int))/\∀i (h:i<T.length),ok (L++(T.take i).map (fun (k:Nat)=>(k:Int))) T[i]=true
 | 0,L,x=>by
  rw[jQ,a7];constructor
  .rintro rfl;exact⟨[],rfl,by simp,by simp,fun i h=>by simp at h⟩
  .rintro⟨T,h1,_,h2,_⟩;have:T=[]:=bg h1
   subst this;simpa using h2
 | r+1,L,x=>by
  rw[jQ,gm];constructor
  .rintro⟨k,hk,hx⟩;split at hx
   .rename_i ia;obtain⟨T,h1,h2,rfl,h4⟩:=gO.1 hx;refine⟨k::T,by simp[h1],fun q hq=>?_,by simp,fun i hi=>?_⟩
    .rcases ca.1 hq with rfl|hq
     .exact ay.1 hk
     .exact h2 q hq
    .cases i with
     | zero=>simpa using ia
     | succ i =>
      have:=h4 i (by simpa using hi)
      simpa using this
   .simp at hx
  .rintro⟨T,h1,h2,rfl,h4⟩;cases T with
   | nil=>simp at h1
   | cons k T =>
    refine⟨k,ay.2 (h2 k (by simp)),?_⟩;have h0:=h4 0 (by simp);simp only[List.take_zero,d6,c6,ck] at h0;rw[af h0];refine gO.2 ⟨T,by simpa using h1,fun q hq=>h2 q (by simp[hq]),by simp,fun i hi=>?_⟩;have:=h4 (i+1) (by simpa using hi)
    simpa using this
structure Sr where
 t:Ty
 p:Gr
 g:Gr
 pt:Mo
 inj:Bool
 most:Nat
abbrev Sr.row(s:Sr)(out:List Mo)(own:Own):List AV:=[.d (nts s.t.nodes),.d (ets s.t.edges),.d (ints s.p.nodes),.d (AM.edges s.p.edges),.d (ints s.g.nodes),.d (AM.edges s.g.edges),.d (ints s.pt.nodes),.d (ints s.pt.edges),B s.inj,I s.most,.osl 2 (out.map fun m=>[ints m.nodes,ints m.edges]) own]
structure Sr.Ok (s:Sr):Prop where
 t:s.t.Fit
 tp:∀j,j<s.t.nodes.length->(s.t.nd j).par<j
 p:s.p.Fit
 g:s.g.Fit
 m:s.most<=1000000
 vp:∀e∈s.p.edges,0<=e.fr/\e.fr<s.p.nodes.length/\0<=e.to/\e.to<s.p.nodes.length
 pn:s.pt.nodes.length=s.p.nodes.length
 pe:s.pt.edges.length=s.p.edges.length
 np:∀n∈s.p.nodes,0<=n/\n<s.t.nodes.length
 ng:∀n∈s.g.nodes,0<=n/\n<s.t.nodes.length
def gvB(l:List Int)(i k:Nat):Bool:=if 0<=l.getD i 0 then decide (l.getD i 0=(k:Int)) else true
def usB(inj:Bool)(L:List Int)(k:Nat):Bool:=if inj=true then decide ((k:Int)∈L) else false
def Sr.okE(s:Sr)(N E:List Int)(k:Nat):Bool :=
 if gvB s.pt.edges E.length k=true then (if usB s.inj E k=true then false else decide (s.g.edges.getD k default=fZ s.p N E.length)) else false
def Sr.okN(s:Sr)(N:List Int)(k:Nat):Bool :=
 if gvB s.pt.nodes N.length k=true then (if usB s.inj N k=true then false else isB s.t (s.g.nodes.getD k 0) (s.p.nodes.getD N.length 0)) else false
def QSr(s:Sr)(box:Bxs)(nb k:Nat)(tok:Tks)(nt:Nat)(own:Own)(out:List Mo)(v:AV)(m:bH):Prop :=
 v=.tup []/\∃own' tok' nt',m=⟨upd box k (some [s.row out own']),nb,tok',nt'⟩/\Adv tok nt own tok' nt' own'
structure aQL where
 i:Nat
 out:List Mo
 own:Own
 tok:Nat->Bool
 nt:Nat
def aQR(s:Sr)(row:List AV)(l:List Int)(n:Int)(nb k:Nat)(box:Bxs)(tok:Tks)(nt:Nat)(i:Nat):AS :=
 ⟨tl [(0,.ptr k 0 0),(1,.d (ints l)),(2,I n),(7,I i)],lb nb box [],tok,nt⟩
def aOF(s:Sr)(l:List Int)(n:Nat)(i:Nat):Prop:=i<=l.length/\(s.inj=true->(n:Int)∉l.take i)
theorem aJL(s:Sr)(out:List Mo)(own:Own)(l:List Int)(n:Nat)(hl:l.length<=1000000)(box:Bxs)(nb k:Nat)(tok:Tks)(nt:Nat)(hk:box k=some [s.row out own]):
  aD prog 169 [.ptr k 0 0,.d (ints l),I n] ⟨box,nb,tok,nt⟩ fun v m=>v=B (usB s.inj l n)/\m=⟨box,nb,tok,nt⟩:=by
 obtain⟨N,hN⟩:∃N,usB s.inj l n=N:=⟨_,rfl⟩
 rw[hN];unfold usB at hN;refine sI func169 ntmps169 fun Hb Ht=>?_
 have g9:=bC Hb hk;repeat first|simp[lO g9,hk]|refine sR ?_
 apply sN;refine sL (aQR s (s.row out own) l n nb k box tok nt) (aOF s l n) (fun i=>l.length-i) 0 ⟨ai _,by simp⟩ (wM (nr0 _) rfl (by simp[ToL,lk];exact aI (by rw[lO g9,hk];simp)) (by simp[aC,lk])) ?_;rintro i S' ⟨hi,ia⟩ hS;simp only[aQR] at hS;subst hS;have hw:=sW (i:=i) (by omega);cases e0:s.inj
 .rw[e0,ac (by simp)] at hN;by_cases hlt:i<l.length
  .try (simp[lO g9,hk,hlt,e0])
   repeat ((first|refine sR ?_|apply sC|apply sX);simp[lO g9,hk,hlt,e0])
   refine sT (sH ?_);simp[<-hN]
  .try (simp[lO g9,hk,hlt,e0])
   repeat ((first|refine sR ?_|apply sC|apply sX);simp[lO g9,hk,hlt,e0])
   refine sT (sH ?_);simp[<-hN]
 .rw[e0,af rfl] at hN;have ia:=ia e0;by_cases hlt:i<l.length
  .by_cases e:l[i]=(n:Int)
   .have b:(l[i]==(n:Int))=true:=by simp[e]
    have hm:decide ((n:Int)∈l)=true:=by
     rw[<-e];simp
    rw[hm] at hN;try (simp[lO g9,hk,hlt,e0,b])
    repeat ((first|refine sR ?_|apply sC|apply sX);simp[lO g9,hk,hlt,e0,b])
    refine sT (sH ?_);simp[<-hN]
   .have b:(l[i]==(n:Int))=false:=by simp[e]
    have ju:(n:Int)∉l.take (i+1):=by
     rw[ah hlt];simp only[ap,a7,not_or];exact⟨ia,fun h=>e h.symm⟩
    try (simp[lO g9,hk,hlt,e0,b,hw])
    repeat ((first|refine sR ?_|apply sC|apply sX);simp[lO g9,hk,hlt,e0,b,hw])
    apply sE;exact⟨i+1,⟨hlt,fun _=>ju⟩,by omega,wM (nr0 _) rfl (by simp[ToL,lk];exact aI (by rw[lO g9,hk];simp)) (by simp[aC,lk])⟩
  .have:i=l.length:=by omega
   subst this;rw[bh] at ia;rw[bk ia] at hN;try (simp[lO g9,hk,e0])
   repeat ((first|refine sR ?_|apply sC|apply sX);simp[lO g9,hk,e0])
   refine sT (sH ?_);simp[<-hN]
theorem E.ext3{e:E}{a b c:Int}(h1:e.ty=a)(h2:e.fr=b)(h3:e.to=c):e=⟨a,b,c⟩:=by
 cases e;simp at h1 h2 h3;simp[h1,h2,h3]
theorem dY{s:Sr}{out:List Mo}{own:Own}{box:Bxs}{k base:Nat}{p q:Nat->Prop}(hq:q=fun _=>True):∀k' rows,k'<base->(upd box k (some [s.row out own])) k'=some rows->box k'=some rows∨∀r∈rows,∀x∈r,bF p q x:=by
 subst hq;intro k' rows jv hr;by_cases e:k'=k
 .subst e;rw[uS] at hr;cases hr;exact .inr (by simp)
 .rw[uO _ _ e] at hr;exact .inl hr
theorem Adv.tok1{tok:Nat->Bool}{nt:Nat}{own:Own}(h:own.liveP tok)(hl:∀t,tok t=true->t<nt):Adv tok nt own (upd tok nt true) (nt+1) own:=by
 refine⟨fun t ht _=>by rw[uO _ _ (by have:=hl t ht;omega)];exact ht,by omega,?_,.inl rfl,fun t ht=>?_⟩
 .cases own with
  | full=>trivial
  | tok t=>simp only[aCL] at h ⊢;rw[uO _ _ (by have:=hl t h;omega)];exact h
 .by_cases e:t=nt
  .omega
  .rw[uO _ _ e] at ht;have:=hl t ht;omega
theorem Adv.app3{tok:Nat->Bool}{nt:Nat}{own:Own}(h:own.liveP tok)(hl:∀t,tok t=true->t<nt):Adv tok nt own (upd (own.kill (upd (upd tok nt true) (nt+1) true)) (nt+1+1) true) (nt+1+1+1) (.tok (nt+1+1)):=by
 have a:=Adv.tok1 h hl;have b:=Adv.tok1 a.live a.lt;exact a.trans hl (b.trans a.lt (Adv.app b.live b.lt))
theorem aD6(s:Sr)(out:List Mo)(own:Own)(l:List Int)(n:Nat)(hl:l.length<=1000000)(box:Bxs)(k:Nat)(tok:Tks)(nt:Nat)(hk:box k=some [s.row out own]):
  cW prog 169 [.ptr k 0 0,.d (ints l),I n] box tok nt (B (usB s.inj l n)) tok nt :=
 fun box' nb he=>aJL s out own l n hl box' nb k tok nt (he k _ hk)
def Sr.stE(s:Sr)(N es:List Int)(n:Nat)(out:List Mo)(k:Nat):List Mo:=if s.okE N es k=true then iJ (s.most+1) (s.okE N) s.g.edges.length N n (es++[(k:Int)]) out else out
def aQo(s:Sr)(N es:List Int)(nb k:Nat)(box:Bxs)(x:aQL):AS :=
 ⟨tl [(0,.ptr k 0 0),(1,.d (ints N)),(2,.d (ints es)),(6,I es.length),(7,.ptr (nb+7) 0 0),(8,I x.i)],
  lb nb (upd box k (some [s.row x.out x.own])) [(7,[[I (s.p.edges.getD es.length default).ty,I (s.p.edges.getD es.length default).fr,I (s.p.edges.getD es.length default).to]])],x.tok,x.nt⟩
set_option maxRecDepth 100000 in
theorem aGD(s:Sr)(h:s.Ok)(N:List Int)(hN:N.length=s.p.nodes.length):∀(n:Nat) (es:List Int) (out:List Mo) (own:Own) (box:Bxs) (nb k:Nat) (tok:Tks) (nt:Nat),es.length+n=s.p.edges.length->out.length<=s.most+1 ->
  box k=some [s.row out own]->own.liveP tok->aD prog 168 [.ptr k 0 0,.d (ints N),.d (ints es)] ⟨box,nb,tok,nt⟩ (QSr s box nb k tok nt own (iJ (s.most+1) (s.okE N) s.g.edges.length N n es out)):=by
 intro n;induction n with
 | zero =>
  intro es out own box nb k tok nt mf ho hk ip;have ix:box=upd box k (some [s.row out own]):=(cM box k _ hk).symm
  have hm:=h.m;have so:=h.p.n;have rd:=h.p.e;refine sI func168 ntmps168 fun Hb Ht=>?_
  have g9:=bC Hb hk;refine sR ?_;simp[lO g9,hk];apply sC;simp;refine⟨fun hbig=>?_,fun pb=>?_⟩
  .apply sN;refine AL.ret ?_;try simp only[AU]
   refine⟨by simp,(Fin.own (vs:=[]) (av:=.tup []) (by simp[aP,bI]) Hb rfl (nr0 _) (by simp)).mono fun v m hq=>⟨hq.1,own,tok,nt,?_,Adv.refl ip Ht⟩⟩;have jr:out.length=s.most+1:=by omega
   rw[hq.2,iJ,af jr,<-ix]
  .have kq:¬out.length=s.most+1:=by omega
   have AB:es.length=s.p.edges.length:=by omega
   refine sR ?_;simp[lO g9,hk];refine sR ?_;simp[lO g9,hk];apply sC;simp;refine⟨fun _=>?_,fun hne=>absurd (by omega) hne⟩;refine sR ?_;simp[lO g9,hk];have ko:=Adv.app3 ip Ht;refine⟨by omega,by omega,⟨by omega,(Adv.tok1 (Adv.tok1 ip Ht).live (Adv.tok1 ip Ht).lt).live⟩,?_⟩;simp only[uL g9];apply sN;refine AL.ret ?_;try simp only[AU]
   refine⟨by simp,(Fin.gen (vs:=[]) (av:=.tup []) (tok':=upd (own.kill (upd (upd tok nt true) (nt+1) true)) (nt+1+1) true) (nt':=nt+1+1+1) (by simp[aP,bI]) ?_ (by omega) (nr0 _) (fun t h=>⟨h,.inl rfl⟩) ?_ (by simp)).mono fun v m hq=>⟨hq.1,.tok (nt+1+1),_,nt+1+1+1,?_,ko⟩⟩
   .rw[<-uL g9,Hb]
   .intro k' rows jv hr;by_cases e:k'=k
    .subst e;rw[uS] at hr;cases hr;exact .inr (by simp)
    .rw[uO _ _ e] at hr;exact .inl hr
   .rw[hq.2,iJ,ac kq];simp[Sr.row,ints,rI]
 | succ n ih =>
  intro es out own box nb k tok nt mf ho hk ip;have ix:box=upd box k (some [s.row out own]):=(cM box k _ hk).symm
  have hm:=h.m;have so:=h.p.n;have rd:=h.p.e;have rc:=h.g.n;have hge:=h.g.e;have hlt:es.length<s.p.edges.length:=by omega
  refine sI func168 ntmps168 fun Hb Ht=>?_
  have g9:=bC Hb hk;refine sR ?_;simp[lO g9,hk];apply sC;simp;refine⟨fun hbig=>?_,fun pb=>?_⟩
  .apply sN;refine AL.ret ?_;try simp only[AU]
   refine⟨by simp,(Fin.own (vs:=[]) (av:=.tup []) (by simp[aP,bI]) Hb rfl (nr0 _) (by simp)).mono fun v m hq=>⟨hq.1,own,tok,nt,?_,Adv.refl ip Ht⟩⟩;have jr:out.length=s.most+1:=by omega
   rw[hq.2,iJ,af jr,<-ix]
  .have kq:¬out.length=s.most+1:=by omega
   refine sR ?_;simp[lO g9,hk];refine sR ?_;simp[lO g9,hk];apply sC;simp;refine⟨fun mt=>absurd mt (by omega),fun _=>?_⟩;refine sR ?_;simp[lO g9,hk,hlt];refine sR ?_;simp[lO g9,hk];apply sN;have mh:∀loc,lb nb box loc=lb nb (upd box k (some [s.row out own])) loc:=fun loc=>by rw[<-ix]
   rw[mh];refine sL (aQo s N es nb k box) (fun x=>x.i<=s.g.edges.length/\x.out=(List.range x.i).foldl (s.stE N es n) out/\x.out.length<=s.most+1/\Adv tok nt own x.tok x.nt x.own) (fun x=>s.g.edges.length-x.i)
    ⟨0,out,own,tok,nt⟩ ⟨ai _,rfl,ho,Adv.refl ip Ht⟩ (aS.mk' (nr0 _) (by simp[ToL,lk,hlt];exact aI (by rw[lO g9,uS];simp)) (by simp[aC,lk,hlt]) (dY rfl)) ?_
   rintro⟨i,ii,im,io,iz⟩ S ⟨hi,jm,kg,ib⟩ hS;simp only[aQo] at hS hi jm kg ib;subst hS;have hw:IntKind.i64.wrap (↑i+1)=((i+1:Nat):Int):=by rw[aM (by omega) (by omega)];omega
   have iq:(List.range (i+1)).foldl (s.stE N es n) out=s.stE N es n ii i:=by
    rw[jm,cn,ek];rfl
   refine sR ?_;simp[lO g9,uS];apply sC;simp;refine⟨fun iw=>?_,fun hge=>?_⟩
   .have jy:es.length<s.pt.edges.length:=by rw[h.pe];exact hlt
    obtain⟨x1,x2,x3,x4⟩:=h.vp _ (aa hlt);have x2:s.p.edges[es.length].fr<N.length:=by omega
    have x4:s.p.edges[es.length].to<N.length:=by omega
    have y1:s.p.edges[es.length].fr.toNat<N.length:=by omega
    have y2:s.p.edges[es.length].to.toNat<N.length:=by omega
    refine sR ?_;simp[lO g9,uS,iw];have l9:s.g.edges.getD i default=s.g.edges[i]:=by simp[iw]
    have vf:s.pt.edges.getD es.length 0=s.pt.edges[es.length]:=by simp[jy]
    have rb:fZ s.p N es.length=⟨s.p.edges[es.length].ty,N[s.p.edges[es.length].fr.toNat],N[s.p.edges[es.length].to.toNat]⟩:=by simp[fZ,hlt,y1,y2]
    have rk:=aD6 s ii im es i (by omega) (lb nb (upd box k (some [s.row ii im])) [(9,[[I s.g.edges[i].ty,I s.g.edges[i].fr,I s.g.edges[i].to]]),(9,[[I 0,I 0,I 0]]),(7,[[I s.p.edges[es.length].ty,I s.p.edges[es.length].fr,I s.p.edges[es.length].to]])]) k io iz (by simp only[lO g9,uS]);by_cases p01:0<=s.pt.edges[es.length]/\s.pt.edges[es.length]≠(i:Int)
    .obtain⟨p0,p1⟩:=p01;have b1:(s.pt.edges[es.length] != (i:Int))=true:=by simp[p1]
     have ia:s.okE N es i=false:=by simp[Sr.okE,gvB,jy,p0,p1]
     refine sR ?_;simp[lO g9,uS,iw,jy,hlt,p0,b1];apply sC;simp;apply sX;simp only[AU,↓reduceIte];refine sR ?_;simp[hw];apply sE;exact⟨⟨i+1,ii,im,io,iz⟩,⟨iw,by rw[iq,Sr.stE,ia];simp,kg,ib⟩,by simp only;omega,aS.mk' ib.le (by simp[ToL,lk,hlt];exact aI (by rw[lO g9,uS];simp)) (by simp[aC,lk,hlt]) (dY rfl)⟩
    .have m7:gvB s.pt.edges es.length i=true:=by
      unfold gvB;rw[vf];by_cases p0:0<=s.pt.edges[es.length]
      .rw[af p0];simp;by_cases p1:s.pt.edges[es.length]=(i:Int)
       .exact p1
       .exact absurd ⟨p0,p1⟩ p01
      .rw[ac p0]
     have jp:∀Q,(0<=s.pt.edges[es.length]->(s.pt.edges[es.length] != (i:Int))=false->Q)->(¬0<=s.pt.edges[es.length]->Q)->Q:=by
      intro Q h1 h2;by_cases p0:0<=s.pt.edges[es.length]
      .refine h1 p0 ?_;by_cases p1:s.pt.edges[es.length]=(i:Int)
       .simp[p1]
       .exact absurd ⟨p0,p1⟩ p01
      .exact h2 p0
     refine jp _ (fun p0 b1=>?_) (fun p0=>?_)
     .refine sR ?_;simp[lO g9,uS,iw,jy,hlt,p0,b1];refine aN.of_r rk ?_;cases hU:usB s.inj es i
      .by_cases c1:s.p.edges[es.length].ty=s.g.edges[i].ty
       .have d1:(s.p.edges[es.length].ty != s.g.edges[i].ty)=false:=by simp[c1]
        by_cases c2:s.g.edges[i].fr=N[s.p.edges[es.length].fr.toNat]
        .have d2:(s.g.edges[i].fr != N[s.p.edges[es.length].fr.toNat])=false:=by simp[c2]
         by_cases c3:s.g.edges[i].to=N[s.p.edges[es.length].to.toNat]
         .have d3:(s.g.edges[i].to != N[s.p.edges[es.length].to.toNat])=false:=by simp[c3]
          have ia:s.okE N es i=true:=by
           unfold Sr.okE;rw[m7,hU,l9,rb];simp only[if_true,bu,if_false,au];exact E.ext3 c1.symm c2 c3
          simp[lO g9,uS,iw,jy,hlt,x1,x2,x3,x4,y1,y2,p0,b1,d1,d2,d3];apply sC;simp;refine sR ?_;simp[lO g9,uS];refine⟨by omega,by omega,?_⟩;refine aN.data ?_;simp only[List.map,AV.asD];rw[eY];have ko:=Adv.fresh ib.live ib.lt;refine aN.of_a (ih (es++[(i:Int)]) ii im _ _ k _ _ (by simp;omega) kg (by simp only[lO g9,uS]) ko.live) ?_;rintro v m' ⟨rfl,ja,i6,jz,rfl,i4⟩;simp[uL g9,bD];have kf:Adv tok nt own i6 jz ja:=ib.trans Ht (ko.trans ib.lt i4)
          clear i4 ko;refine sR ?_;simp[hw];apply sE;refine⟨⟨i+1,iJ (s.most+1) (s.okE N) s.g.edges.length N n (es++[(i:Int)]) ii,ja,i6,jz⟩,⟨iw,by rw[iq,Sr.stE,ia];simp,mW kg,kf⟩,by simp only;omega,aS.mk' kf.le (by simp[ToL,lk,hlt];exact aI (by rw[lO g9,uS];simp)) (by simp[aC,lk,hlt]) (dY rfl)⟩
         .have d3:(s.g.edges[i].to != N[s.p.edges[es.length].to.toNat])=true:=by simp[c3]
          have ia:s.okE N es i=false:=by
           unfold Sr.okE;rw[m7,hU,l9,rb];exact bk fun h=>c3 (d8 E.to h)
          simp[lO g9,uS,iw,jy,hlt,x1,x2,x3,x4,y1,y2,p0,b1,d1,d2,d3];apply sC;simp;apply sX;simp only[AU,↓reduceIte];refine sR ?_;simp[hw];apply sE;exact⟨⟨i+1,ii,im,io,iz⟩,⟨iw,by rw[iq,Sr.stE,ia];simp,kg,ib⟩,by simp only;omega,aS.mk' ib.le (by simp[ToL,lk,hlt];exact aI (by rw[lO g9,uS];simp)) (by simp[aC,lk,hlt]) (dY rfl)⟩
        .have d2:(s.g.edges[i].fr != N[s.p.edges[es.length].fr.toNat])=true:=by simp[c2]
         have ia:s.okE N es i=false:=by
          unfold Sr.okE;rw[m7,hU,l9,rb];exact bk fun h=>c2 (d8 E.fr h)
         simp[lO g9,uS,iw,jy,hlt,x1,x2,x3,x4,y1,y2,p0,b1,d1,d2];apply sC;simp;apply sX;simp only[AU,↓reduceIte];refine sR ?_;simp[hw];apply sE;exact⟨⟨i+1,ii,im,io,iz⟩,⟨iw,by rw[iq,Sr.stE,ia];simp,kg,ib⟩,by simp only;omega,aS.mk' ib.le (by simp[ToL,lk,hlt];exact aI (by rw[lO g9,uS];simp)) (by simp[aC,lk,hlt]) (dY rfl)⟩
       .have d1:(s.p.edges[es.length].ty != s.g.edges[i].ty)=true:=by simp[c1]
        have ia:s.okE N es i=false:=by
         unfold Sr.okE;rw[m7,hU,l9,rb];exact bk fun h=>c1 (d8 E.ty h).symm
        simp[lO g9,uS,iw,jy,hlt,x1,x2,x3,x4,y1,y2,p0,b1,d1];apply sC;simp;apply sX;simp only[AU,↓reduceIte];refine sR ?_;simp[hw];apply sE;exact⟨⟨i+1,ii,im,io,iz⟩,⟨iw,by rw[iq,Sr.stE,ia];simp,kg,ib⟩,by simp only;omega,aS.mk' ib.le (by simp[ToL,lk,hlt];exact aI (by rw[lO g9,uS];simp)) (by simp[aC,lk,hlt]) (dY rfl)⟩
      .have ia:s.okE N es i=false:=by simp[Sr.okE,m7,hU]
       simp[lO g9,uS,iw,jy,hlt,x1,x2,x3,x4,y1,y2,p0,b1];apply sC;simp;apply sX;simp only[AU,↓reduceIte];refine sR ?_;simp[hw];apply sE;exact⟨⟨i+1,ii,im,io,iz⟩,⟨iw,by rw[iq,Sr.stE,ia];simp,kg,ib⟩,by simp only;omega,aS.mk' ib.le (by simp[ToL,lk,hlt];exact aI (by rw[lO g9,uS];simp)) (by simp[aC,lk,hlt]) (dY rfl)⟩
     .refine sR ?_;simp[lO g9,uS,iw,jy,hlt,p0];refine aN.of_r rk ?_;cases hU:usB s.inj es i
      .by_cases c1:s.p.edges[es.length].ty=s.g.edges[i].ty
       .have d1:(s.p.edges[es.length].ty != s.g.edges[i].ty)=false:=by simp[c1]
        by_cases c2:s.g.edges[i].fr=N[s.p.edges[es.length].fr.toNat]
        .have d2:(s.g.edges[i].fr != N[s.p.edges[es.length].fr.toNat])=false:=by simp[c2]
         by_cases c3:s.g.edges[i].to=N[s.p.edges[es.length].to.toNat]
         .have d3:(s.g.edges[i].to != N[s.p.edges[es.length].to.toNat])=false:=by simp[c3]
          have ia:s.okE N es i=true:=by
           unfold Sr.okE;rw[m7,hU,l9,rb];simp only[if_true,bu,if_false,au];exact E.ext3 c1.symm c2 c3
          simp[lO g9,uS,iw,jy,hlt,x1,x2,x3,x4,y1,y2,p0,d1,d2,d3];apply sC;simp;refine sR ?_;simp[lO g9,uS];refine⟨by omega,by omega,?_⟩;refine aN.data ?_;simp only[List.map,AV.asD];rw[eY];have ko:=Adv.fresh ib.live ib.lt;refine aN.of_a (ih (es++[(i:Int)]) ii im _ _ k _ _ (by simp;omega) kg (by simp only[lO g9,uS]) ko.live) ?_;rintro v m' ⟨rfl,ja,i6,jz,rfl,i4⟩;simp[uL g9,bD];have kf:Adv tok nt own i6 jz ja:=ib.trans Ht (ko.trans ib.lt i4)
          clear i4 ko;refine sR ?_;simp[hw];apply sE;refine⟨⟨i+1,iJ (s.most+1) (s.okE N) s.g.edges.length N n (es++[(i:Int)]) ii,ja,i6,jz⟩,⟨iw,by rw[iq,Sr.stE,ia];simp,mW kg,kf⟩,by simp only;omega,aS.mk' kf.le (by simp[ToL,lk,hlt];exact aI (by rw[lO g9,uS];simp)) (by simp[aC,lk,hlt]) (dY rfl)⟩
         .have d3:(s.g.edges[i].to != N[s.p.edges[es.length].to.toNat])=true:=by simp[c3]
          have ia:s.okE N es i=false:=by
           unfold Sr.okE;rw[m7,hU,l9,rb];exact bk fun h=>c3 (d8 E.to h)
          simp[lO g9,uS,iw,jy,hlt,x1,x2,x3,x4,y1,y2,p0,d1,d2,d3];apply sC;simp;apply sX;simp only[AU,↓reduceIte];refine sR ?_;simp[hw];apply sE;exact⟨⟨i+1,ii,im,io,iz⟩,⟨iw,by rw[iq,Sr.stE,ia];simp,kg,ib⟩,by simp only;omega,aS.mk' ib.le (by simp[ToL,lk,hlt];exact aI (by rw[lO g9,uS];simp)) (by simp[aC,lk,hlt]) (dY rfl)⟩
        .have d2:(s.g.edges[i].fr != N[s.p.edges[es.length].fr.toNat])=true:=by simp[c2]
         have ia:s.okE N es i=false:=by
          unfold Sr.okE;rw[m7,hU,l9,rb];exact bk fun h=>c2 (d8 E.fr h)
         simp[lO g9,uS,iw,jy,hlt,x1,x2,x3,x4,y1,y2,p0,d1,d2];apply sC;simp;apply sX;simp only[AU,↓reduceIte];refine sR ?_;simp[hw];apply sE;exact⟨⟨i+1,ii,im,io,iz⟩,⟨iw,by rw[iq,Sr.stE,ia];simp,kg,ib⟩,by simp only;omega,aS.mk' ib.le (by simp[ToL,lk,hlt];exact aI (by rw[lO g9,uS];simp)) (by simp[aC,lk,hlt]) (dY rfl)⟩
       .have d1:(s.p.edges[es.length].ty != s.g.edges[i].ty)=true:=by simp[c1]
        have ia:s.okE N es i=false:=by
         unfold Sr.okE;rw[m7,hU,l9,rb];exact bk fun h=>c1 (d8 E.ty h).symm
        simp[lO g9,uS,iw,jy,hlt,x1,x2,x3,x4,y1,y2,p0,d1];apply sC;simp;apply sX;simp only[AU,↓reduceIte];refine sR ?_;simp[hw];apply sE;exact⟨⟨i+1,ii,im,io,iz⟩,⟨iw,by rw[iq,Sr.stE,ia];simp,kg,ib⟩,by simp only;omega,aS.mk' ib.le (by simp[ToL,lk,hlt];exact aI (by rw[lO g9,uS];simp)) (by simp[aC,lk,hlt]) (dY rfl)⟩
      .have ia:s.okE N es i=false:=by simp[Sr.okE,m7,hU]
       simp[lO g9,uS,iw,jy,hlt,x1,x2,x3,x4,y1,y2,p0];apply sC;simp;apply sX;simp only[AU,↓reduceIte];refine sR ?_;simp[hw];apply sE;exact⟨⟨i+1,ii,im,io,iz⟩,⟨iw,by rw[iq,Sr.stE,ia];simp,kg,ib⟩,by simp only;omega,aS.mk' ib.le (by simp[ToL,lk,hlt];exact aI (by rw[lO g9,uS];simp)) (by simp[aC,lk,hlt]) (dY rfl)⟩
   .apply sX;simp only[AU,↓reduceIte];have jf:i=s.g.edges.length:=by omega
    subst jf;apply sE;refine⟨by simp,(Fin.gen (vs:=[]) (av:=.tup []) (tok':=io) (nt':=iz) (by simp[aP,bI]) ?_ ib.le (nr0 _) (fun t h=>⟨h,.inl rfl⟩) (dY (by simp)) (by simp)).mono fun v m hq=>⟨hq.1,im,io,iz,?_,ib⟩⟩
    .rw[<-uL g9,Hb]
    .rw[hq.2,iJ,ac kq,jm];rfl
def Sr.eqE(s:Sr)(N:List Int)(i k:Nat):Bool:=decide (s.g.edges.getD k default=fZ s.p N i)
def Sr.anE(s:Sr)(N:List Int)(i k:Nat):Bool:=(List.range k).any (s.eqE N i)
def Sr.fitE(s:Sr)(N:List Int)(i:Nat):Bool :=
 if (N.length:Int)<=(s.p.edges.getD i default).fr then true else if (N.length:Int)<=(s.p.edges.getD i default).to then true else s.anE N i s.g.edges.length
def Sr.fit(s:Sr)(N:List Int):Bool:=(List.range s.p.edges.length).all (s.fitE N)
theorem Sr.fit_false{s:Sr}{N:List Int}{i:Nat}(hi:i<s.p.edges.length)(h:s.fitE N i=false):s.fit N=false:=by
 unfold Sr.fit;rw[dz];exact⟨i,ay.2 hi,by simp[h]⟩
theorem Sr.fit_true{s:Sr}{N:List Int}(h:∀i,i<s.p.edges.length->s.fitE N i=true):s.fit N=true:=by
 unfold Sr.fit;rw[aq];exact fun i hi=>h i (ay.1 hi)
theorem Sr.anE_succ(s:Sr)(N:List Int)(i k:Nat):s.anE N i (k+1)=(s.anE N i k||s.eqE N i k):=by
 unfold Sr.anE;rw[cn,List.any_append];simp
def aQB(s:Sr)(N:List Int)(nb k:Nat)(box:Bxs)(tok:Tks)(nt:Nat)(i:Nat):AS :=
 ⟨tl [(0,.ptr k 0 0),(1,.d (ints N)),(5,I i)],lb nb box [],tok,nt⟩
def aQr(s:Sr)(N:List Int)(nb k:Nat)(box:Bxs)(tok:Tks)(nt:Nat)(i:Nat)(q:Nat):AS :=
 ⟨tl [(0,.ptr k 0 0),(1,.d (ints N)),(5,I i),(6,.ptr (nb+6) 0 0),(7,B (s.anE N i q)),(8,I q)],
  lb nb box [(6,[[I (s.p.edges.getD i default).ty,I (s.p.edges.getD i default).fr,I (s.p.edges.getD i default).to]])],tok,nt⟩
set_option maxRecDepth 100000 in
theorem aIE(s:Sr)(h:s.Ok)(N:List Int)(Dh:N.length<=s.p.nodes.length)(out:List Mo)(own:Own)(box:Bxs)(nb k:Nat)(tok:Tks)(nt:Nat)(hk:box k=some [s.row out own]):
  aD prog 167 [.ptr k 0 0,.d (ints N)] ⟨box,nb,tok,nt⟩ fun v m=>v=B (s.fit N)/\m=⟨box,nb,tok,nt⟩:=by
 obtain⟨R,hR⟩:∃R,s.fit N=R:=⟨_,rfl⟩
 rw[hR];have so:=h.p.n;have rd:=h.p.e;have rc:=h.g.n;have hge:=h.g.e;refine sI func167 ntmps167 fun Hb Ht=>?_
 have g9:=bC Hb hk;repeat first|simp[lO g9,hk]|refine sR ?_
 apply sN;refine sL (aQB s N nb k box tok nt) (fun i=>i<=s.p.edges.length/\∀j,j<i->s.fitE N j=true) (fun i=>s.p.edges.length-i) 0 ⟨ai _,fun j hj=>absurd hj (b8 _)⟩ (wM (nr0 _) rfl (by simp[ToL,lk];exact aI (by rw[lO g9,hk];simp)) (by simp[aC,lk])) ?_;rintro i S' ⟨hi,ik⟩ hS;simp only[aQB] at hS;subst hS;have hw:=sW (i:=i) (by omega);by_cases hlt:i<s.p.edges.length
 .obtain⟨x1,x2,x3,x4⟩:=h.vp _ (aa hlt);have pg:s.p.edges.getD i default=s.p.edges[i]:=by simp[hlt]
  by_cases a1:(N.length:Int)<=s.p.edges[i].fr
  .have hf:s.fitE N i=true:=by unfold Sr.fitE;rw[pg,af a1]
   try (simp[lO g9,hk,hlt,a1,hw])
   repeat ((first|refine sR ?_|apply sC|apply sX);simp[lO g9,hk,hlt,a1,hw])
   apply sE;exact⟨i+1,⟨hlt,fun j hj=>(ew j i).elim (ik j) fun hh=>by rw[show j=i by omega];exact hf⟩,by omega,wM (nr0 _) rfl (by simp[ToL,lk];exact aI (by rw[lO g9,hk];simp)) (by simp[aC,lk])⟩
  .by_cases a2:(N.length:Int)<=s.p.edges[i].to
   .have hf:s.fitE N i=true:=by unfold Sr.fitE;rw[pg,ac a1,af a2]
    try (simp[lO g9,hk,hlt,a1,a2,hw])
    repeat ((first|refine sR ?_|apply sC|apply sX);simp[lO g9,hk,hlt,a1,a2,hw])
    apply sE;exact⟨i+1,⟨hlt,fun j hj=>(ew j i).elim (ik j) fun hh=>by rw[show j=i by omega];exact hf⟩,by omega,wM (nr0 _) rfl (by simp[ToL,lk];exact aI (by rw[lO g9,hk];simp)) (by simp[aC,lk])⟩
   .have Di:s.fitE N i=s.anE N i s.g.edges.length:=by unfold Sr.fitE;rw[pg,ac a1,ac a2]
    have z2:s.p.edges[i].fr<N.length:=by omega
    have z4:s.p.edges[i].to<N.length:=by omega
    have y1:s.p.edges[i].fr.toNat<N.length:=by omega
    have y2:s.p.edges[i].to.toNat<N.length:=by omega
    have rb:fZ s.p N i=⟨s.p.edges[i].ty,N[s.p.edges[i].fr.toNat],N[s.p.edges[i].to.toNat]⟩:=by simp[fZ,hlt,y1,y2]
    try (simp[lO g9,hk,hlt,a1,a2])
    repeat ((first|refine sR ?_|apply sC|apply sX);simp[lO g9,hk,hlt,a1,a2])
    apply sN;refine sL (aQr s N nb k box tok nt i) (fun q=>q<=s.g.edges.length) (fun q=>s.g.edges.length-q) 0 (ai _) (wM (nr0 _) rfl (by simp[ToL,lk,hlt,Sr.anE];exact aI (by rw[lO g9,hk];simp)) (by simp[aC,lk,hlt])) ?_;rintro q S' DU hS;simp only[aQr] at hS;subst hS;have ua:=sW (i:=q) (by omega);by_cases hq:q<s.g.edges.length
    .have l9:s.g.edges.getD q default=s.g.edges[q]:=by simp[hq]
     have hs:=s.anE_succ N i q;cases eo:s.anE N i q
     .simp only[eo,Bool.false_or] at hs;unfold Sr.eqE at hs;rw[l9,rb] at hs;by_cases c1:s.p.edges[i].ty=s.g.edges[q].ty
      .have d1:(s.p.edges[i].ty==s.g.edges[q].ty)=true:=by simp[c1]
       by_cases c2:s.g.edges[q].fr=N[s.p.edges[i].fr.toNat]
       .have d2:(s.g.edges[q].fr==N[s.p.edges[i].fr.toNat])=true:=by simp[c2]
        by_cases c3:s.g.edges[q].to=N[s.p.edges[i].to.toNat]
        .have d3:(s.g.edges[q].to==N[s.p.edges[i].to.toNat])=true:=by simp[c3]
         rw[bv (E.ext3 c1.symm c2 c3)] at hs;try (simp[lO g9,hk,hlt,hq,ua,x1,x3,z2,z4,y1,y2,eo,d1,d2,d3])
         repeat ((first|refine sR ?_|apply sC|apply sX);simp[lO g9,hk,hlt,hq,ua,x1,x3,z2,z4,y1,y2,eo,d1,d2,d3])
         apply sE;exact⟨q+1,hq,by omega,wM (nr0 _) rfl (by simp[ToL,lk,hlt,hs];exact aI (by rw[lO g9,hk];simp)) (by simp[aC,lk,hlt])⟩
        .have d3:(s.g.edges[q].to==N[s.p.edges[i].to.toNat])=false:=by simp[c3]
         rw[bk fun h=>c3 (d8 E.to h)] at hs;try (simp[lO g9,hk,hlt,hq,ua,x1,x3,z2,z4,y1,y2,eo,d1,d2,d3])
         repeat ((first|refine sR ?_|apply sC|apply sX);simp[lO g9,hk,hlt,hq,ua,x1,x3,z2,z4,y1,y2,eo,d1,d2,d3])
         apply sE;exact⟨q+1,hq,by omega,wM (nr0 _) rfl (by simp[ToL,lk,hlt,hs];exact aI (by rw[lO g9,hk];simp)) (by simp[aC,lk,hlt])⟩
       .have d2:(s.g.edges[q].fr==N[s.p.edges[i].fr.toNat])=false:=by simp[c2]
        rw[bk fun h=>c2 (d8 E.fr h)] at hs;try (simp[lO g9,hk,hlt,hq,ua,x1,x3,z2,z4,y1,y2,eo,d1,d2])
        repeat ((first|refine sR ?_|apply sC|apply sX);simp[lO g9,hk,hlt,hq,ua,x1,x3,z2,z4,y1,y2,eo,d1,d2])
        apply sE;exact⟨q+1,hq,by omega,wM (nr0 _) rfl (by simp[ToL,lk,hlt,hs];exact aI (by rw[lO g9,hk];simp)) (by simp[aC,lk,hlt])⟩
      .have d1:(s.p.edges[i].ty==s.g.edges[q].ty)=false:=by simp[c1]
       rw[bk (p:=s.g.edges[q]=⟨s.p.edges[i].ty,N[s.p.edges[i].fr.toNat],N[s.p.edges[i].to.toNat]⟩) fun h=>c1 (d8 E.ty h).symm] at hs;try (simp[lO g9,hk,hlt,hq,ua,x1,x3,z2,z4,y1,y2,eo,d1])
       repeat ((first|refine sR ?_|apply sC|apply sX);simp[lO g9,hk,hlt,hq,ua,x1,x3,z2,z4,y1,y2,eo,d1])
       apply sE;exact⟨q+1,hq,by omega,wM (nr0 _) rfl (by simp[ToL,lk,hlt,hs];exact aI (by rw[lO g9,hk];simp)) (by simp[aC,lk,hlt])⟩
     .simp only[eo,Bool.true_or] at hs;try (simp[lO g9,hk,hlt,hq,ua,x1,x3,z2,z4,y1,y2,eo])
      repeat ((first|refine sR ?_|apply sC|apply sX);simp[lO g9,hk,hlt,hq,ua,x1,x3,z2,z4,y1,y2,eo])
      apply sE;exact⟨q+1,hq,by omega,wM (nr0 _) rfl (by simp[ToL,lk,hlt,hs];exact aI (by rw[lO g9,hk];simp)) (by simp[aC,lk,hlt])⟩
    .have:q=s.g.edges.length:=by omega
     subst this;cases eo:s.anE N i s.g.edges.length
     .rw[Sr.fit_false hlt (Di.trans eo)] at hR;try (simp[lO g9,hk,hlt,eo])
      repeat ((first|refine sR ?_|apply sC|apply sX);simp[lO g9,hk,hlt,eo])
      refine sT (sH ?_);simp[<-hR]
     .have hf:=Di.trans eo;try (simp[lO g9,hk,hlt,eo,hw])
      repeat ((first|refine sR ?_|apply sC|apply sX);simp[lO g9,hk,hlt,eo,hw])
      apply sE;exact⟨i+1,⟨hlt,fun j hj=>(ew j i).elim (ik j) fun hh=>by rw[show j=i by omega];exact hf⟩,by omega,wM (nr0 _) rfl (by simp[ToL,lk];exact aI (by rw[lO g9,hk];simp)) (by simp[aC,lk])⟩
 .have:i=s.p.edges.length:=by omega
  subst this;rw[Sr.fit_true ik] at hR;try (simp[lO g9,hk])
  repeat ((first|refine sR ?_|apply sC|apply sX);simp[lO g9,hk])
  refine sT (sH ?_);simp[<-hR]
end Go.AM
