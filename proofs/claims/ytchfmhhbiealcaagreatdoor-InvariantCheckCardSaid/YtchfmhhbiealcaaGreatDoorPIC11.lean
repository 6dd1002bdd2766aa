import Derived.Test.YtchfmhhbiealcaaGreatDoorPIC10
set_option linter.unusedSimpArgs false
set_option linter.unusedVariables false
namespace Go.AM
theorem d8.{u}:type_of% @List.all_eq_false.{u}:=@List.all_eq_false
open Go Go.Proofs Go.ChangeShapes
open Go.Proofs.Tryz
structure RdF (P:Program) (T:TypeId) {α:Type} (en:α->List D) (ok:α->Prop) (n:Nat):Prop where
 sound:∀{H:Type} (e:TypeId × Value->H) (w:World) (base:Nat) (spare:Nat->Bool) (im:Bool) (cs:List Value) (x:DataW H × List MemPlace),
  DataW.trod e P w base spare im n T cs=some x->∃y,Rd w cs (en y)/\(eX P T x.1->ok y)
theorem Rdr.f{P:Program}{T:TypeId}{α:Type}(r:Rdr P T α)(n:Nat):RdF P T r.enc r.ok n:=⟨fun e w base spare im cs x hx=>r.sound e w base spare im n cs x hx⟩
theorem RdF.zero{P:Program}{T:TypeId}{α:Type}{en:α->List D}{ok:α->Prop}:RdF P T en ok 0:=⟨fun e w base spare im cs x hx=>by simp[DataW.trod] at hx⟩
def Rdr.ofF{P:Program}{T:TypeId}{α:Type}(en:α->List D)(ok:α->Prop)(len:∀x,(en x).length=P.cellsOf T)(h:∀n,RdF P T en ok n):Rdr P T α:=⟨en,ok,len,fun e w base spare im n cs x hx=>(h n).sound e w base spare im cs x hx⟩
theorem RdF.slice{P:Program}{T E:TypeId}{α:Type}{en:α->List D}{ok:α->Prop}{n:Nat}(r:RdF P E en ok n)(k:Nat)(hk:P.cellsOf E=k)(hlen:∀x,(en x).length=k)(h:P.underlying T=some (.slice E)):
  RdF P T (fun l:List α=>[.sl k (l.map en)]) (fun l=>(∀x∈l,ok x)/\l.length*P.bytesOf E<=reachBytes) (n+1):=by
 subst hk;constructor
 intro H e w base spare im cs x hx;rcases DataW.trod_slice h hx with ⟨rfl,rfl⟩|⟨a,len,cap,elems,rest,n',tz,rfl,rfl,hb,hl,hm,zj,jj,_⟩
 .exact⟨[],Rd.one (.sl (es:=[]) (fun _ _=>default) (nr0 _) (by decide) (by simp) (by simp) (by simp) (by simp)),fun _=>⟨by simp,by simp⟩⟩
 .obtain rfl:n'=n:=by omega
  have key:∀i (hi:i<elems.length),∃cs y,cs.length=P.cellsOf E/\(∀j (hj:j<cs.length),w.cell? (a.add (i*P.cellsOf E+j))=some cs[j])/\Rd w cs (en y)/\(eX P E elems[i].1->ok y):=by
   intro i hi;have h1:=jj i (by omega);have h2:elems[i]?=some elems[i]:=ab hi
   rw[h2,dp] at h1;obtain⟨cs,lx,Ca⟩:=h1;obtain⟨mj,hcc⟩:=wS lx;obtain⟨y,hy,gt⟩:=r.sound e w base spare im cs _ Ca;refine⟨cs,y,mj,fun j hj=>?_,hy,gt⟩;rw[<-Addr.add_add];exact hcc j hj
  have pick:∀m,m<=elems.length->∃ys:List α,ys.length=m/\(∀i (hi:i<ys.length) (s7:i<elems.length),∃cs,cs.length=P.cellsOf E/\(∀j (hj:j<cs.length),w.cell? (a.add (i*P.cellsOf E+j))=some cs[j])/\Rd w cs (en ys[i])/\(eX P E elems[i].1->ok ys[i])):=by
   intro m;induction m with
   | zero=>intro _;exact⟨[],rfl,fun i hi=>by simp at hi⟩
   | succ m ih =>
    intro ll;obtain⟨ys,wc,gz⟩:=ih (by omega);obtain⟨cs,y,g1,g2,g3,g4⟩:=key m (by omega);refine⟨ys++[y],by simp[wc],fun i hi s7=>?_⟩;by_cases ww:i<ys.length
    .rw[bu ww];exact gz i ww s7
    .have:i=m:=by simp at hi;omega
     subst this;have e1:(ys++[y])[i]=y:=by
      rw[cd (by omega)];simp
     rw[e1];exact⟨cs,g1,g2,g3,g4⟩
  obtain⟨ys,wc,gz⟩:=pick elems.length (nr0 _);refine⟨ys,Rd.one ?_,fun ix=>?_⟩
  .have AC:len=ys.length:=by omega
   subst AC;have ph:ys.length=(ys.map en).length:=by simp
   rw[ph];refine .sl (fun i j=>(w.cell? (a.add (i*P.cellsOf E+j))).getD default) (by simpa using hl) hm (fun e he=>?_) (fun _=>⟨a,rfl⟩) (fun a' wj i j hi hj=>?_) (fun i j hi hj=>?_)
   .obtain⟨y,_,rfl⟩:=bc.1 he;exact hlen y
   .cases wj
    obtain⟨cs,g1,g2,_⟩:=gz i (by simpa using hi) (by simp at hi;omega);rw[g2 j (by omega)];exact⟨trivial,rfl⟩
   .obtain⟨cs,g1,g2,g3,_⟩:=gz i (by simpa using hi) (by simp at hi;omega);simp only[bj] at hj ⊢;have AA:j<cs.length:=by rw[g3.1];exact hj
    rw[g2 j AA];exact g3.2 j AA hj
  .obtain⟨w1,w2⟩:=sP h ix;refine⟨fun y hy=>?_,by simpa[wc] using w1⟩;obtain⟨i,hi,rfl⟩:=bi hy;obtain⟨_,_,_,_,h4⟩:=gz i hi (by omega);exact h4 (w2 _ (bc.2 ⟨_,aa _,rfl⟩))
theorem aNZ{α:Type}{l:List α}(h:l.length=4):l=[l[0]'(by omega),l[1]'(by omega),l[2]'(by omega),l[3]'(by omega)]:=by
 match l,h with
 | [p,q,r,s],_=>rfl
theorem RdF.struct4{P:Program}{T A B C E:TypeId}{α β γ δ:Type}{ea:α->List D}{eb:β->List D}{ec:γ->List D}{ed:δ->List D}{oa:α->Prop}{ob:β->Prop}{oc:γ->Prop}{od:δ->Prop}{n:Nat}(r:RdF P A ea oa n)(s:RdF P B eb ob n)(t:RdF P C ec oc n)(u:RdF P E ed od n){f0 f1 f2 f3:Field}(h:P.underlying T=some (.struct #[f0,f1,f2,f3]))(hA:f0.type=A)(hB:f1.type=B)(hC:f2.type=C)(hE:f3.type=E)(h0:f0.offset=0)(h1:f1.offset=P.cellsOf A)(h2:f2.offset=P.cellsOf A+P.cellsOf B)(h3:f3.offset=P.cellsOf A+P.cellsOf B+P.cellsOf C)(hc:P.cellsOf T=P.cellsOf A+P.cellsOf B+P.cellsOf C+P.cellsOf E):
  RdF P T (fun x:α × β × γ × δ=>ea x.1++(eb x.2.1++(ec x.2.2.1++ed x.2.2.2))) (fun x=>oa x.1/\ob x.2.1/\oc x.2.2.1/\od x.2.2.2) (n+1):=by
 constructor
 intro H e w base spare im cs x hx;obtain⟨xs,n',tz,rfl,hl,rc,jj⟩:=gl h hx;obtain rfl:n'=n:=by omega
 have pq:xs.length=4:=rc
 have g0:=jj 0 f0 rfl;have g1:=jj 1 f1 rfl;have g2:=jj 2 f2 rfl;have g3:=jj 3 f3 rfl;have e0:xs[0]?=some (xs[0]'(by omega)):=ab (by omega)
 have e1:xs[1]?=some (xs[1]'(by omega)):=ab (by omega)
 have e2:xs[2]?=some (xs[2]'(by omega)):=ab (by omega)
 have e3:xs[3]?=some (xs[3]'(by omega)):=ab (by omega)
 rw[e0,h0,hA] at g0;rw[e1,h1,hB] at g1;rw[e2,h2,hC] at g2;rw[e3,h3,hE] at g3;obtain⟨y,k1,k2⟩:=r.sound e w base spare im _ _ g0;obtain⟨z,m1,m2⟩:=s.sound e w base spare im _ _ g1;obtain⟨q,p1,p2⟩:=t.sound e w base spare im _ _ g2;obtain⟨v,q1,q2⟩:=u.sound e w base spare im _ _ g3;refine⟨(y,z,q,v),?_,fun ix=>?_⟩
 rotate_left
 .unfold eX at ix k2 m2 p2 q2;have e2:xs=[xs[0]'(by omega),xs[1]'(by omega),xs[2]'(by omega),xs[3]'(by omega)]:=aNZ pq
  rw[e2] at ix;simp only[de,dw,DataW.weights,h,DataW.weightsEach,hA,hB,hC,hE,eo,bd] at ix;exact⟨k2 ix.1,m2 ix.2.1,p2 ix.2.2.1,q2 ix.2.2.2.1⟩
 have lx:cs=(cs.drop 0).take (P.cellsOf A)++((cs.drop (P.cellsOf A)).take (P.cellsOf B)++((cs.drop (P.cellsOf A+P.cellsOf B)).take (P.cellsOf C)++(cs.drop (P.cellsOf A+P.cellsOf B+P.cellsOf C)).take (P.cellsOf E))):=by
  have:(cs.drop (P.cellsOf A+P.cellsOf B+P.cellsOf C)).take (P.cellsOf E)=cs.drop (P.cellsOf A+P.cellsOf B+P.cellsOf C):=ak (by simp;omega)
  rw[this];have e3:=cc (P.cellsOf C) (cs.drop (P.cellsOf A+P.cellsOf B));have e2:=cc (P.cellsOf B) (cs.drop (P.cellsOf A));rw[List.drop_drop] at e3 e2;rw[e3,e2,List.drop_zero,cc]
 rw[lx];exact k1.append (m1.append (p1.append q1))
theorem aMs:prog.bytesOf 3=8:=by kernel_rfl
theorem aJK:prog.bytesOf 164=24:=by kernel_rfl
theorem aFp:prog.bytesOf 381=32:=by kernel_rfl
theorem aFt:prog.bytesOf 383=40:=by kernel_rfl
theorem aKB:prog.bytesOf 50=184:=by kernel_rfl
theorem dC{l:List Int}(h:rX.ok l):l.length<=dI:=by
 have h2:l.length*prog.bytesOf 3<=reachBytes:=h.2
 rw[aMs] at h2;unfold reachBytes at h2;rw[bI];omega
theorem aEa{l:List E}(h:aEE.ok l):l.length<=dI:=by
 have h2:l.length*prog.bytesOf 164<=reachBytes:=h.2
 rw[aJK] at h2;unfold reachBytes at h2;rw[bI];omega
structure Gr.Big (g:Gr):Prop where
 n:g.nodes.length<=dI
 e:g.edges.length<=dI
def dD:Rdr prog 40 Gr:=aGS.map (fun x=>⟨x.1,x.2⟩) (fun g=>[ints g.nodes,AM.edges g.edges]) Gr.Big (fun _=>rfl) (fun _ h=>⟨dC h.1,aEa h.2⟩) (fun _=>by kernel_rfl)
def iE:Rdr prog 47 (List Int × List Int):=Rdr.struct2 rX rX underlying47 rfl rfl rfl (by kernel_rfl) (by kernel_rfl)
def aDI:Rdr prog 379 (Int × Int):=Rdr.struct2 aY aY underlying379 rfl rfl rfl (by kernel_rfl) (by kernel_rfl)
def aKq:Rdr prog 381 (Int × Int × Int × Int):=Rdr.struct3 aY aY aDI underlying381 rfl rfl rfl rfl (by kernel_rfl) (by kernel_rfl) (by kernel_rfl)
def aMv:Rdr prog 381 Sl:=aKq.map (fun x=>⟨x.1,x.2.1,x.2.2.1,x.2.2.2⟩) Sl.cells (fun _=>True) (fun _=>rfl) (fun _ _=>trivial) (fun _=>by kernel_rfl)
def pZ:Rdr prog 41 (List Sl):=aMv.sliceN 4 underlying41 (by kernel_rfl) (by kernel_rfl)
def aJp:Rdr prog 383 (Int × (Int × Int) × (Int × Int)):=Rdr.struct3 aY aDI aDI underlying383 rfl rfl rfl rfl (by kernel_rfl) (by kernel_rfl) (by kernel_rfl)
def aMG:Rdr prog 383 Te:=aJp.map (fun x=>⟨x.1,x.2.1.1,x.2.1.2,x.2.2.1,x.2.2.2⟩) Te.cells (fun _=>True) (fun _=>rfl) (fun _ _=>trivial) (fun _=>by kernel_rfl)
def qO:Rdr prog 42 (List Te):=aMG.sliceN 5 underlying42 (by kernel_rfl) (by kernel_rfl)
theorem aJB(n:Nat):RdF prog 44 (fun x:Gr × List Sl × Int × List Te=>dD.enc x.1++(pZ.enc x.2.1++(aY.enc x.2.2.1++qO.enc x.2.2.2))) (fun x=>dD.ok x.1/\pZ.ok x.2.1/\aY.ok x.2.2.1/\qO.ok x.2.2.2) n:=by
 cases n with
 | zero=>exact .zero
 | succ n=>exact RdF.struct4 (dD.f n) (pZ.f n) (aY.f n) (qO.f n) underlying44 rfl rfl rfl rfl rfl (by kernel_rfl) (by kernel_rfl) (by kernel_rfl) (by kernel_rfl)
def tJ:Rdr prog 44 (Gr × List Sl × Int × List Te):=Rdr.ofF _ _ (fun x=>by simp[dD.len,pZ.len,aY.len,qO.len];kernel_rfl) aJB
def Cd.rowD(c:Cd):List D:=[.raw (.int .i64 c.kind),zW c.kids,ints c.m.nodes,ints c.m.edges,ints c.g.nodes,AM.edges c.g.edges,gS c.sl,.raw (.int .i64 c.vars),gT c.te]
theorem aIX:∀n,RdF prog 50 Cd.cells Cd.Big n
 | 0=>.zero
 | 1=>by
  constructor
  intro H e w base spare im cs x hx;obtain⟨xs,n',tz,rfl,hl,rc,jj⟩:=gl underlying50 hx;obtain rfl:n'=0:=by omega
  have g0:=jj 0 _ rfl;simp[DataW.trod] at g0;subst g0;simp at rc
 | n+2=>by
  have ih:=aIX n;have hk:=ih.slice 9 (by kernel_rfl) (fun c=>by rw[c.cells_eq];rfl) (T:=48) underlying48;have hs:=RdF.struct4 (aY.f (n+1)) hk (iE.f (n+1)) (tJ.f (n+1)) underlying50 rfl rfl rfl rfl rfl (by kernel_rfl) (by kernel_rfl) (by kernel_rfl) (by kernel_rfl);constructor
  intro H e w base spare im cs x hx;obtain⟨y,h1,h2⟩:=hs.sound e w base spare im cs x hx;refine⟨.mk y.1 y.2.1 ⟨y.2.2.1.1,y.2.2.1.2⟩ y.2.2.2.1 y.2.2.2.2.1 y.2.2.2.2.2.1 y.2.2.2.2.2.2,?_,fun ix=>?_⟩
  .rw[Cd.cells_eq];exact h1
  .obtain⟨_,⟨k1,k2⟩,⟨m1,m2⟩,g1,s1,_,t1⟩:=h2 ix;have g2:y.2.2.2.1.Big:=g1
   have s2:y.2.2.2.2.1.length*prog.bytesOf 381<=reachBytes:=s1.2
   have t2:y.2.2.2.2.2.2.length*prog.bytesOf 383<=reachBytes:=t1.2
   rw[aFp] at s2;rw[aFt] at t2;rw[aKB] at k2;unfold reachBytes at s2 t2 k2;exact .mk (by rw[aJ1];simp only[Cd.kids];omega) (dC m1) (dC m2) g2.n g2.e (by rw[bI];simp only[Cd.sl];omega) (by rw[bI];simp only[Cd.te];omega) k1
theorem aHN(c:Cd):c.cells.length=prog.cellsOf 50:=by rw[c.cells_eq];kernel_rfl
def aKf:Rdr prog 50 Cd:=Rdr.ofF Cd.cells Cd.Big aHN aIX
def Rdr.str{P:Program}{T:TypeId}(h:P.underlying T=some .string)(hc:P.cellsOf T=1):Rdr P T ByteArray where
 enc n:=[.raw (.string n)]
 ok n:=n.size<=maxLen
 len _:=by simp[hc]
 sound e w base spare im fuel cs x hx:=by
  cases fuel with
  | zero=>simp[DataW.trod] at hx
  | succ n =>
   unfold DataW.trod at hx;rw[h] at hx;split at hx<;>simp_all
   exact⟨_,Rd.one (.raw rfl),fun _=>hx.1⟩
def Rdr.bool{P:Program}{T:TypeId}(h:P.underlying T=some .bool)(hc:P.cellsOf T=1):Rdr P T Bool where
 enc n:=[.raw (.bool n)]
 ok n:=True
 len _:=by simp[hc]
 sound e w base spare im fuel cs x hx:=by
  cases fuel with
  | zero=>simp[DataW.trod] at hx
  | succ n =>
   unfold DataW.trod at hx;rw[h] at hx;split at hx<;>first|(simp_all;done)|skip
   exact⟨_,Rd.one (.raw rfl),fun _=>trivial⟩
theorem aN5{α:Type}{l:List α}(h:l.length=7):l=[l[0]'(by omega),l[1]'(by omega),l[2]'(by omega),l[3]'(by omega),l[4]'(by omega),l[5]'(by omega),l[6]'(by omega)]:=by
 match l,h with
 | [p0,p1,p2,p3,p4,p5,p6],_=>rfl
theorem RdF.struct7{P:Program}{T T0 T1 T2 T3 T4 T5 T6:TypeId}{a0 a1 a2 a3 a4 a5 a6:Type}{e0:a0->List D}{e1:a1->List D}{e2:a2->List D}{e3:a3->List D}{e4:a4->List D}{e5:a5->List D}{e6:a6->List D}{o0:a0->Prop}{o1:a1->Prop}{o2:a2->Prop}{o3:a3->Prop}{o4:a4->Prop}{o5:a5->Prop}{o6:a6->Prop}{n:Nat}(r0:RdF P T0 e0 o0 n)(r1:RdF P T1 e1 o1 n)(r2:RdF P T2 e2 o2 n)(r3:RdF P T3 e3 o3 n)(r4:RdF P T4 e4 o4 n)(r5:RdF P T5 e5 o5 n)(r6:RdF P T6 e6 o6 n){f0 f1 f2 f3 f4 f5 f6:Field}(h:P.underlying T=some (.struct #[f0,f1,f2,f3,f4,f5,f6]))(t0:f0.type=T0)(t1:f1.type=T1)(t2:f2.type=T2)(t3:f3.type=T3)(t4:f4.type=T4)(t5:f5.type=T5)(t6:f6.type=T6)(h0:f0.offset=0)(h1:f1.offset=P.cellsOf T0)(h2:f2.offset=P.cellsOf T0+P.cellsOf T1)(h3:f3.offset=P.cellsOf T0+P.cellsOf T1+P.cellsOf T2)(h4:f4.offset=P.cellsOf T0+P.cellsOf T1+P.cellsOf T2+P.cellsOf T3)(h5:f5.offset=P.cellsOf T0+P.cellsOf T1+P.cellsOf T2+P.cellsOf T3+P.cellsOf T4)(h6:f6.offset=P.cellsOf T0+P.cellsOf T1+P.cellsOf T2+P.cellsOf T3+P.cellsOf T4+P.cellsOf T5)(hc:P.cellsOf T=P.cellsOf T0+P.cellsOf T1+P.cellsOf T2+P.cellsOf T3+P.cellsOf T4+P.cellsOf T5+P.cellsOf T6):
  RdF P T (fun x:a0 × a1 × a2 × a3 × a4 × a5 × a6=>e0 x.1++(e1 x.2.1++(e2 x.2.2.1++(e3 x.2.2.2.1++(e4 x.2.2.2.2.1++(e5 x.2.2.2.2.2.1++e6 x.2.2.2.2.2.2)))))) (fun x=>o0 x.1/\o1 x.2.1/\o2 x.2.2.1/\o3 x.2.2.2.1/\o4 x.2.2.2.2.1/\o5 x.2.2.2.2.2.1/\o6 x.2.2.2.2.2.2) (n+1):=by
 constructor
 intro H e w base spare im cs x hx;obtain⟨xs,n',tz,rfl,hl,rc,jj⟩:=gl h hx;obtain rfl:n'=n:=by omega
 have pq:xs.length=7:=rc
 have g0:=jj 0 f0 rfl;have g1:=jj 1 f1 rfl;have g2:=jj 2 f2 rfl;have g3:=jj 3 f3 rfl;have g4:=jj 4 f4 rfl;have g5:=jj 5 f5 rfl;have g6:=jj 6 f6 rfl;have e0:xs[0]?=some (xs[0]'(by omega)):=ab (by omega)
 have e1:xs[1]?=some (xs[1]'(by omega)):=ab (by omega)
 have e2:xs[2]?=some (xs[2]'(by omega)):=ab (by omega)
 have e3:xs[3]?=some (xs[3]'(by omega)):=ab (by omega)
 have e4:xs[4]?=some (xs[4]'(by omega)):=ab (by omega)
 have e5:xs[5]?=some (xs[5]'(by omega)):=ab (by omega)
 have e6:xs[6]?=some (xs[6]'(by omega)):=ab (by omega)
 rw[e0,h0,t0] at g0;rw[e1,h1,t1] at g1;rw[e2,h2,t2] at g2;rw[e3,h3,t3] at g3;rw[e4,h4,t4] at g4;rw[e5,h5,t5] at g5;rw[e6,h6,t6] at g6;obtain⟨y0,k0,m0⟩:=r0.sound e w base spare im _ _ g0;obtain⟨y1,k1,m1⟩:=r1.sound e w base spare im _ _ g1;obtain⟨y2,k2,m2⟩:=r2.sound e w base spare im _ _ g2;obtain⟨y3,k3,m3⟩:=r3.sound e w base spare im _ _ g3;obtain⟨y4,k4,m4⟩:=r4.sound e w base spare im _ _ g4;obtain⟨y5,k5,m5⟩:=r5.sound e w base spare im _ _ g5;obtain⟨y6,k6,m6⟩:=r6.sound e w base spare im _ _ g6;refine⟨(y0,y1,y2,y3,y4,y5,y6),?_,fun ix=>?_⟩
 rotate_left
 .unfold eX at ix m0 m1 m2 m3 m4 m5 m6;rw[aN5 pq] at ix;simp only[de,dw,DataW.weights,h,DataW.weightsEach,t0,t1,t2,t3,t4,t5,t6,eo,bd] at ix;exact⟨m0 ix.1,m1 ix.2.1,m2 ix.2.2.1,m3 ix.2.2.2.1,m4 ix.2.2.2.2.1,m5 ix.2.2.2.2.2.1,m6 ix.2.2.2.2.2.2.1⟩
 have lx:cs=(cs.drop (0)).take (P.cellsOf T0)++((cs.drop (P.cellsOf T0)).take (P.cellsOf T1)++((cs.drop (P.cellsOf T0+P.cellsOf T1)).take (P.cellsOf T2)++((cs.drop (P.cellsOf T0+P.cellsOf T1+P.cellsOf T2)).take (P.cellsOf T3)++((cs.drop (P.cellsOf T0+P.cellsOf T1+P.cellsOf T2+P.cellsOf T3)).take (P.cellsOf T4)++((cs.drop (P.cellsOf T0+P.cellsOf T1+P.cellsOf T2+P.cellsOf T3+P.cellsOf T4)).take (P.cellsOf T5)++((cs.drop (P.cellsOf T0+P.cellsOf T1+P.cellsOf T2+P.cellsOf T3+P.cellsOf T4+P.cellsOf T5)).take (P.cellsOf T6))))))):=by
  have:(cs.drop (P.cellsOf T0+P.cellsOf T1+P.cellsOf T2+P.cellsOf T3+P.cellsOf T4+P.cellsOf T5)).take (P.cellsOf T6)=cs.drop (P.cellsOf T0+P.cellsOf T1+P.cellsOf T2+P.cellsOf T3+P.cellsOf T4+P.cellsOf T5):=ak (by simp;omega)
  rw[this];have e5:=cc (P.cellsOf T5) (cs.drop (P.cellsOf T0+P.cellsOf T1+P.cellsOf T2+P.cellsOf T3+P.cellsOf T4));have e4:=cc (P.cellsOf T4) (cs.drop (P.cellsOf T0+P.cellsOf T1+P.cellsOf T2+P.cellsOf T3));have e3:=cc (P.cellsOf T3) (cs.drop (P.cellsOf T0+P.cellsOf T1+P.cellsOf T2));have e2:=cc (P.cellsOf T2) (cs.drop (P.cellsOf T0+P.cellsOf T1));have e1:=cc (P.cellsOf T1) (cs.drop (P.cellsOf T0));rw[List.drop_drop] at e5 e4 e3 e2 e1;rw[e5,e4,e3,e2,e1,List.drop_zero,cc]
 rw[lx];exact k0.append (k1.append (k2.append (k3.append (k4.append (k5.append (k6))))))
def eH:Rdr prog 9 ByteArray:=Rdr.str underlying9 (by kernel_rfl)
def mV:Rdr prog 4 Bool:=Rdr.bool underlying4 (by kernel_rfl)
def uD:Rdr prog 46 (List Int × List Int):=Rdr.struct2 rX rX underlying46 rfl rfl rfl (by kernel_rfl) (by kernel_rfl)
theorem xG{l:List Sl}(h:pZ.ok l):l.length<=dI:=by
 have h2:l.length*prog.bytesOf 381<=reachBytes:=h.2
 rw[aFp] at h2;have:reachBytes=140737488351232:=rfl
 rw[bI];omega
theorem vH{l:List Te}(h:qO.ok l):l.length<=dI:=by
 have h2:l.length*prog.bytesOf 383<=reachBytes:=h.2
 rw[aFt] at h2;have:reachBytes=140737488351232:=rfl
 rw[bI];omega
abbrev RuT:=ByteArray × (Gr × List Sl × Int × List Te) × (Gr × List Sl × Int × List Te) × (List Int × List Int) × (List Int × List Int) × Bool × Cd
theorem aMC(n:Nat):RdF prog 52 (fun x:RuT=>eH.enc x.1++(tJ.enc x.2.1++(tJ.enc x.2.2.1++(uD.enc x.2.2.2.1++(iE.enc x.2.2.2.2.1++(mV.enc x.2.2.2.2.2.1++aKf.enc x.2.2.2.2.2.2)))))) (fun x=>eH.ok x.1/\tJ.ok x.2.1/\tJ.ok x.2.2.1/\uD.ok x.2.2.2.1/\iE.ok x.2.2.2.2.1/\mV.ok x.2.2.2.2.2.1/\aKf.ok x.2.2.2.2.2.2) n:=by
 cases n with
 | zero=>exact .zero
 | succ n=>exact RdF.struct7 (eH.f n) (tJ.f n) (tJ.f n) (uD.f n) (iE.f n) (mV.f n) (aKf.f n) underlying52 rfl rfl rfl rfl rfl rfl rfl rfl (by kernel_rfl) (by kernel_rfl) (by kernel_rfl) (by kernel_rfl) (by kernel_rfl) (by kernel_rfl) (by kernel_rfl)
def aPw:Rdr prog 52 RuT:=Rdr.ofF _ _ (fun x=>by simp[eH.len,tJ.len,uD.len,iE.len,mV.len,aKf.len];kernel_rfl) aMC
def Ru.rowD(r:Ru):List D:=[.raw (.string r.name),ints r.lg.nodes,AM.edges r.lg.edges,gS r.lsl,.raw (.int .i64 r.lv),gT r.lte,ints r.rg.nodes,AM.edges r.rg.edges,gS r.rsl,.raw (.int .i64 r.rv),gT r.rte,
 ints r.k.nodes,ints r.k.edges,ints r.i.nodes,ints r.i.edges,.raw (.bool r.inj)]++r.c.cells
theorem aHL(r:Ru):r.rowD.length=prog.cellsOf 52:=by rw[Ru.rowD,r.c.cells_eq];kernel_rfl
def aRz:Rdr prog 52 Ru:=aPw.map (fun x=>⟨x.1,x.2.1.1,x.2.1.2.1,x.2.1.2.2.1,x.2.1.2.2.2,x.2.2.1.1,x.2.2.1.2.1,x.2.2.1.2.2.1,x.2.2.1.2.2.2,⟨x.2.2.2.1.1,x.2.2.2.1.2⟩,⟨x.2.2.2.2.1.1,x.2.2.2.2.1.2⟩,x.2.2.2.2.2.1,x.2.2.2.2.2.2⟩) Ru.rowD Ru.Big (fun _=>rfl) (fun x h=>⟨⟨dC h.2.2.2.1.1,dC h.2.2.2.1.2⟩,⟨dC h.2.2.2.2.1.1,dC h.2.2.2.2.1.2⟩,xG h.2.1.2.1,vH h.2.1.2.2.2,xG h.2.2.1.2.1,vH h.2.2.1.2.2.2,h.2.2.2.2.2.2⟩) aHL
def tE(s:ByteArray):Bool:=decide (s.size<=40)
def qG(a:At):Bool:=if 40<a.name.size then false else if 25<a.names.length then false else cJ tE a.names
def dQ(t:Ty):Nat->Nat
 | 0=>0
 | i+1=>dQ t i+(t.nd i).own.length
def mB(t:Ty)(i:Nat):Int:=if 30<dQ t (i+1) then 1 else if 40<(t.nd i).name.size then 1 else if cJ qG (t.nd i).own=true then 0 else 1
def uW(e:ET):Bool:=decide (e.name.size<=40)
def aDp(t:Ty):Bool:=if 20<t.nodes.length then false else if 30<t.edges.length then false else if aA (mB t) t.nodes.length≠0 then false else cJ uW t.edges
structure At.Big (a:At):Prop where
 n:a.name.size<=maxLen
 l:a.names.length<=dI
 s:∀x∈a.names,x.size<=maxLen
structure NT.Big (x:NT):Prop where
 n:x.name.size<=maxLen
 l:x.own.length<=dI
 a:∀y∈x.own,y.Big
structure Ty.Big (t:Ty):Prop where
 n:t.nodes.length<=dI
 e:t.edges.length<=dI
 nn:∀x∈t.nodes,x.Big
 en:∀x∈t.edges,x.name.size<=maxLen
theorem wH{α:Type}{p:α->Bool}{l:List α}:cJ p l=true↔∀x∈l,p x=true:=by simp[cJ]
theorem aF9{a:At}(h:qG a=true):a.Fit:=by
 unfold qG at h;split at h
 .cases h
 .split at h
  .cases h
  .rw[wH] at h;exact⟨by omega,⟨by omega,fun x hx=>by have:=h x hx;simp only[tE,au] at this;omega⟩⟩
theorem xR{t:Ty}{i:Nat}(h:mB t i=0):dQ t (i+1)<=30/\(t.nd i).name.size<=40/\∀x∈(t.nd i).own,x.Fit:=by
 unfold mB at h;split at h
 .cases h
 .split at h
  .cases h
  .split at h
   .rename_i h1 h2 h3;rw[wH] at h3;exact⟨by omega,by omega,fun x hx=>aF9 (h3 x hx)⟩
   .cases h
theorem aHJ{t:Ty}(h:aDp t=true):t.Fit:=by
 unfold aDp at h;split at h
 .cases h
 .split at h
  .cases h
  .split at h
   .cases h
   .rename_i h1 h2 h3;have hz:=dU _ (dm.1 h3);rw[wH] at h;have key:∀x∈t.nodes,∃i,i<t.nodes.length/\t.nd i=x:=fun x hx=>by
     obtain⟨i,hi,he⟩:=List.mem_iff_getElem.1 hx;exact⟨i,hi,by rw[iJ hi,he]⟩
    refine⟨by omega,by omega,fun x hx=>?_,fun x hx=>?_,fun x hx=>?_⟩
    .obtain⟨i,hi,he⟩:=key x hx;have:=(xR (hz i hi)).2.1
     rw[he] at this;omega
    .have:=h x hx
     simp only[uW,au] at this;omega
    .obtain⟨i,hi,he⟩:=key x hx;have h4:=xR (hz i hi);rw[he] at h4;refine⟨?_,h4.2.2⟩;have:=h4.1
     simp only[dQ,he] at this;omega
theorem aIw{t:Ty}{i:Nat}(h:i<t.nodes.length):mB t i=if 30<dQ t i+t.nodes[i].own.length then 1 else if 40<t.nodes[i].name.size then 1 else if cJ qG t.nodes[i].own=true then 0 else 1:=by rw[mB,dQ,iJ h]
abbrev fwB(t:Ty):Nat × List (List AV):=(1,[[.d (nts t.nodes),.d (ets t.edges)]])
def aK7(t:Ty)(nb:Nat)(box:Bxs)(tok:Tks)(nt:Nat)(i:Nat):AS:=⟨tl [(4,I i),(3,I (dQ t i)),(1,.ptr (nb+1) 0 0)],lb nb box [fwB t],tok,nt⟩
def aLZ(t:Ty)(i n:Nat)(nb:Nat)(box:Bxs)(tok:Tks)(nt:Nat)(k:Nat):AS:=⟨tl [(5,I k),(4,I i),(3,I n),(1,.ptr (nb+1) 0 0)],lb nb box [fwB t],tok,nt⟩
def aL5(t:Ty)(i n k:Nat)(a:At)(nb:Nat)(box:Bxs)(tok:Tks)(nt:Nat)(j:Nat):AS:=⟨tl [(7,I j),(6,.ptr (nb+6) 0 0),(5,I k),(4,I i),(3,I n),(1,.ptr (nb+1) 0 0)],lb nb box [(6,[a.row]),fwB t],tok,nt⟩
def aLN(t:Ty)(nb:Nat)(box:Bxs)(tok:Tks)(nt:Nat)(i:Nat):AS:=⟨tl [(8,I i),(1,.ptr (nb+1) 0 0)],lb nb box [fwB t],tok,nt⟩
theorem aKV(t:Ty)(hb:t.Big):DC 61 [t.av] (B (aDp t)):=by
 intro tok nt box nb;have sb:=hb.n;have uf:=hb.e;rw[bI] at sb uf;obtain⟨N,hN⟩:∃N,aDp t=N:=⟨_,rfl⟩
 rw[hN];unfold aDp at hN;by_cases e1:20<t.nodes.length
 .have jt:(20:Int)<t.nodes.length:=by omega
  rw[af e1] at hN;refine sI func61 ntmps61 fun Hb Ht=>?_
  repeat first|simp[e1,jt]|refine sR ?_|apply sC
  refine sT (sH ?_);simp[<-hN]
 .have jt:¬(20:Int)<t.nodes.length:=by omega
  rw[ac e1] at hN;by_cases e2:30<t.edges.length
  .have ji:(30:Int)<t.edges.length:=by omega
   rw[af e2] at hN;refine sI func61 ntmps61 fun Hb Ht=>?_
   repeat first|simp[e1,jt,e2,ji]|refine sR ?_|apply sC
   refine sT (sH ?_);simp[<-hN]
  .have ji:¬(30:Int)<t.edges.length:=by omega
   rw[ac e2] at hN;refine sI func61 ntmps61 fun Hb Ht=>?_
   repeat first|simp[e1,jt,e2,ji]|refine sR ?_|apply sC
   apply sN;refine sL (aK7 t nb box tok nt) (fun i=>i<=t.nodes.length/\dQ t i<=30/\aA (mB t) i=0) (fun i=>t.nodes.length-i) 0 ⟨ai _,ai _,rfl⟩ (wM (nr0 _) rfl (by simp[ToL,lk,aN,dQ]) (by simp[aE,lk])) ?_;rintro i S' ⟨hi,hsum,gt⟩ hS;simp only[aK7] at hS;subst hS;have hw:=sW (i:=i) (by omega);repeat first|simp|refine sR ?_|apply sC
   refine⟨fun hlt=>?_,fun hge=>?_⟩
   .have hR:mB t i≠0->aA (mB t) t.nodes.length=mB t i:=fun h0=>aK gt h0 _ hlt
    have hnx:mB t i=0->aA (mB t) (i+1)=0:=fun h0=>by simp only[aA,gt,h0,↓reduceIte]
    have hd:=aIw hlt;have uz:dQ t (i+1)=dQ t i+t.nodes[i].own.length:=by rw[dQ,iJ hlt]
    have j5:=hb.nn _ (aa hlt);have Bh:=j5.l;rw[bI] at Bh;have qq:IntKind.i64.wrap ((dQ t i:Nat)+(t.nodes[i].own.length:Nat):Int)=((dQ t i+t.nodes[i].own.length:Nat):Int):=by rw[aL (by omega) (by omega)];rfl
    by_cases c1:30<dQ t i+t.nodes[i].own.length
    .have rk:(30:Int)<(dQ t i:Int)+(t.nodes[i].own.length:Int):=by omega
     rw[af c1] at hd;rw[af (by rw[hR (by rw[hd];decide),hd];decide)] at hN;repeat first|simp[hlt,qq,c1,rk]|refine sR ?_
     apply sC;simp[c1,rk];repeat first|simp|refine sR ?_
     refine sT (sH ?_);simp[<-hN]
    .have rk:¬(30:Int)<((dQ t i+t.nodes[i].own.length:Nat):Int):=by omega
     rw[ac c1] at hd;by_cases c2:40<t.nodes[i].name.size
     .have AD:(40:Int)<t.nodes[i].name.size:=by omega
      rw[af c2] at hd;rw[af (by rw[hR (by rw[hd];decide),hd];decide)] at hN;have rk:¬(30:Int)<(dQ t i:Int)+(t.nodes[i].own.length:Int):=by omega
      repeat first|simp[hlt,qq,c1,rk,c2,AD]|refine sR ?_
      apply sC;simp[c1,rk,c2,AD];repeat first|simp|refine sR ?_
      refine sT (sH ?_);simp[<-hN]
     .have AD:¬(40:Int)<t.nodes[i].name.size:=by omega
      rw[ac c2] at hd;obtain⟨n,hn⟩:∃n:Nat,dQ t i+t.nodes[i].own.length=n:=⟨_,rfl⟩
      rw[hn] at qq rk c1 uz;repeat first|simp[hlt,qq,c1,rk,c2,AD]|refine sR ?_
      apply sC;simp[c1,rk,c2,AD];repeat first|simp|refine sR ?_
      apply sN;refine sL (aLZ t i n nb box tok nt) (fun k=>k<=t.nodes[i].own.length/\cJ qG (t.nodes[i].own.take k)=true) (fun k=>t.nodes[i].own.length-k) 0 ⟨ai _,rfl⟩ wkA ?_;rintro k S' ⟨hk,gz⟩ hS;simp only[aLZ] at hS;subst hS;have nc:=sW (i:=k) (by omega);repeat first|simp[hlt]|refine sR ?_|apply sC
      refine⟨fun ku=>?_,fun hgek=>?_⟩
      .have jq:=fun h=>fL (p:=qG) ku h
       have jg:=fun h=>cW (p:=qG) ku gz h
       have DF:=j5.a _ (aa ku);have qd:=DF.l;rw[bI] at qd;have sd:qG t.nodes[i].own[k]=if 40<t.nodes[i].own[k].name.size then false else if 25<t.nodes[i].own[k].names.length then false else cJ tE t.nodes[i].own[k].names:=rfl
       have oo:qG t.nodes[i].own[k]=false->N=false:=fun h=>by
        rw[jq h,ac (by simp)] at hd;rw[af (by rw[hR (by rw[hd];decide),hd];decide)] at hN;exact hN.symm
       by_cases c3:40<t.nodes[i].own[k].name.size
       .have yo:(40:Int)<t.nodes[i].own[k].name.size:=by omega
        rw[af c3] at sd;repeat first|simp[hlt,ku,c3,yo]|refine sR ?_
        apply sC;simp[c3,yo];repeat first|simp|refine sR ?_
        refine sT (sH ?_);simp[oo sd]
       .have yo:¬(40:Int)<t.nodes[i].own[k].name.size:=by omega
        rw[ac c3] at sd;by_cases c4:25<t.nodes[i].own[k].names.length
        .have AE:(25:Int)<t.nodes[i].own[k].names.length:=by omega
         rw[af c4] at sd;repeat first|simp[hlt,ku,c3,yo,c4,AE]|refine sR ?_
         apply sC;simp[c3,yo,c4,AE];repeat first|simp|refine sR ?_
         refine sT (sH ?_);simp[oo sd]
        .have AE:¬(25:Int)<t.nodes[i].own[k].names.length:=by omega
         rw[ac c4] at sd;repeat first|simp[hlt,ku,c3,yo,c4,AE]|refine sR ?_
         apply sC;simp[c3,yo,c4,AE];repeat first|simp|refine sR ?_
         apply sN;refine sL (aL5 t i n k t.nodes[i].own[k] nb box tok nt) (fun j=>j<=t.nodes[i].own[k].names.length/\cJ tE (t.nodes[i].own[k].names.take j)=true) (fun j=>t.nodes[i].own[k].names.length-j) 0 ⟨ai _,rfl⟩ wkA ?_;rintro j S' ⟨hj,ul⟩ hS;simp only[aL5] at hS;subst hS;have ux:=sW (i:=j) (by omega);repeat first|simp|refine sR ?_|apply sC
         refine⟨fun qm=>?_,fun hgej=>?_⟩
         .have Cc:=fun h=>fL (p:=tE) qm h
          have AF:=fun h=>cW (p:=tE) qm ul h
          by_cases c5:40<t.nodes[i].own[k].names[j].size
          .have um:(40:Int)<t.nodes[i].own[k].names[j].size:=by omega
           rw[Cc (by simp only[tE,bo];omega)] at sd;repeat first|simp[qm,c5,um]|refine sR ?_
           apply sC;simp[c5,um];repeat first|simp|refine sR ?_
           refine sT (sH ?_);simp[oo sd]
          .have um:¬(40:Int)<t.nodes[i].own[k].names[j].size:=by omega
           repeat first|simp[qm,c5,um]|refine sR ?_
           apply sC;simp[c5,um];repeat first|simp[ux]|refine sR ?_
           apply sE;exact⟨j+1,⟨qm,AF (by simp only[tE,au];omega)⟩,by omega,wkA⟩
         .apply sX;simp only[AU,↓reduceIte];have:j=t.nodes[i].own[k].names.length:=by omega
          subst this;rw[bh] at ul;rw[ul] at sd;repeat first|simp[nc]|refine sR ?_
          apply sE;exact⟨k+1,⟨ku,jg sd⟩,by omega,wkA⟩
      .apply sX;simp only[AU,↓reduceIte];have:k=t.nodes[i].own.length:=by omega
       subst this;rw[bh] at gz;rw[af gz] at hd;repeat first|simp[hw]|refine sR ?_
       apply sE;exact⟨i+1,⟨hlt,by omega,hnx hd⟩,by omega,wM (nr0 _) rfl (by simp[ToL,lk,aN,uz]) (by simp[aE,lk])⟩
   .apply sX;simp only[AU,↓reduceIte];have:i=t.nodes.length:=by omega
    subst this;rw[ac (by simp[gt])] at hN;repeat first|simp|refine sR ?_
    apply sN;refine sL (aLN t nb box tok nt) (fun i=>i<=t.edges.length/\cJ uW (t.edges.take i)=true) (fun i=>t.edges.length-i) 0 ⟨ai _,rfl⟩ wkA ?_;rintro i S' ⟨hi,gz⟩ hS;simp only[aLN] at hS;subst hS;have hw:=sW (i:=i) (by omega);repeat first|simp|refine sR ?_|apply sC
    refine⟨fun hlt=>?_,fun hge=>?_⟩
    .have jq:=fun h=>fL (p:=uW) hlt h
     have jg:=fun h=>cW (p:=uW) hlt gz h
     by_cases c5:40<t.edges[i].name.size
     .have um:(40:Int)<t.edges[i].name.size:=by omega
      rw[jq (by simp only[uW,bo];omega)] at hN;repeat first|simp[hlt,c5,um]|refine sR ?_
      apply sC;simp[c5,um];repeat first|simp|refine sR ?_
      refine sT (sH ?_);simp[<-hN]
     .have um:¬(40:Int)<t.edges[i].name.size:=by omega
      repeat first|simp[hlt,c5,um]|refine sR ?_
      apply sC;simp[c5,um];repeat first|simp[hw]|refine sR ?_
      apply sE;exact⟨i+1,⟨hlt,jg (by simp only[uW,au];omega)⟩,by omega,wkA⟩
    .apply sX;simp only[AU,↓reduceIte];have:i=t.edges.length:=by omega
     subst this;rw[bh] at gz;rw[gz] at hN;repeat first|simp|refine sR ?_
     refine sT (sH ?_);simp[<-hN]
def wQ:Rdr prog 155 (List ByteArray):=eH.sliceN 1 underlying155 (by kernel_rfl) (by kernel_rfl)
abbrev AtT:=ByteArray × Int × Int × List ByteArray
theorem aMf(n:Nat):RdF prog 157 (fun x:AtT=>eH.enc x.1++(aY.enc x.2.1++(aY.enc x.2.2.1++wQ.enc x.2.2.2))) (fun x=>eH.ok x.1/\aY.ok x.2.1/\aY.ok x.2.2.1/\wQ.ok x.2.2.2) n:=by
 cases n with
 | zero=>exact .zero
 | succ n=>exact RdF.struct4 (eH.f n) (aY.f n) (aY.f n) (wQ.f n) underlying157 rfl rfl rfl rfl rfl (by kernel_rfl) (by kernel_rfl) (by kernel_rfl) (by kernel_rfl)
def aOX:Rdr prog 157 AtT:=Rdr.ofF _ _ (fun x=>by simp[eH.len,aY.len,wQ.len];kernel_rfl) aMf
theorem aFX:prog.bytesOf 9=16:=by kernel_rfl
theorem aKD:prog.bytesOf 157=56:=by kernel_rfl
theorem aKN:prog.bytesOf 160=56:=by kernel_rfl
theorem aIt:prog.bytesOf 162=64:=by kernel_rfl
theorem aAv{l:List ByteArray}(h:wQ.ok l):l.length<=dI/\∀x∈l,x.size<=maxLen:=by
 have h2:l.length*prog.bytesOf 9<=reachBytes:=h.2
 rw[aFX] at h2;have:reachBytes=140737488351232:=rfl
 exact⟨by rw[bI];omega,fun x hx=>h.1 x hx⟩
def aRQ:Rdr prog 157 At:=aOX.map (fun x=>⟨x.1,x.2.1,x.2.2.1,x.2.2.2⟩) At.cells At.Big (fun _=>rfl) (fun x h=>⟨h.1,(aAv h.2.2.2).1,(aAv h.2.2.2).2⟩) (fun _=>by kernel_rfl)
def aCh:Rdr prog 158 (List At):=aRQ.sliceN 4 underlying158 (by kernel_rfl) (by kernel_rfl)
abbrev NtT:=ByteArray × Int × Bool × List At
theorem aMi(n:Nat):RdF prog 160 (fun x:NtT=>eH.enc x.1++(aY.enc x.2.1++(mV.enc x.2.2.1++aCh.enc x.2.2.2))) (fun x=>eH.ok x.1/\aY.ok x.2.1/\mV.ok x.2.2.1/\aCh.ok x.2.2.2) n:=by
 cases n with
 | zero=>exact .zero
 | succ n=>exact RdF.struct4 (eH.f n) (aY.f n) (mV.f n) (aCh.f n) underlying160 rfl rfl rfl rfl rfl (by kernel_rfl) (by kernel_rfl) (by kernel_rfl) (by kernel_rfl)
def aOL:Rdr prog 160 NtT:=Rdr.ofF _ _ (fun x=>by simp[eH.len,aY.len,mV.len,aCh.len];kernel_rfl) aMi
theorem aDm{l:List At}(h:aCh.ok l):l.length<=dI/\∀x∈l,x.Big:=by
 have h2:l.length*prog.bytesOf 157<=reachBytes:=h.2
 rw[aKD] at h2;have:reachBytes=140737488351232:=rfl
 exact⟨by rw[bI];omega,fun x hx=>h.1 x hx⟩
def aRJ:Rdr prog 160 NT:=aOL.map (fun x=>⟨x.1,x.2.1,x.2.2.1,x.2.2.2⟩) NT.cells NT.Big (fun _=>rfl) (fun x h=>⟨h.1,(aDm h.2.2.2).1,(aDm h.2.2.2).2⟩) (fun _=>by kernel_rfl)
def aL1:Rdr prog 22 (List NT):=aRJ.sliceN 4 underlying22 (by kernel_rfl) (by kernel_rfl)
abbrev EtT:=ByteArray × Int × Int × Int × Int × Int × Int
theorem aMj(n:Nat):RdF prog 162 (fun x:EtT=>eH.enc x.1++(aY.enc x.2.1++(aY.enc x.2.2.1++(aY.enc x.2.2.2.1++(aY.enc x.2.2.2.2.1++(aY.enc x.2.2.2.2.2.1++aY.enc x.2.2.2.2.2.2)))))) (fun x=>eH.ok x.1/\aY.ok x.2.1/\aY.ok x.2.2.1/\aY.ok x.2.2.2.1/\aY.ok x.2.2.2.2.1/\aY.ok x.2.2.2.2.2.1/\aY.ok x.2.2.2.2.2.2) n:=by
 cases n with
 | zero=>exact .zero
 | succ n=>exact RdF.struct7 (eH.f n) (aY.f n) (aY.f n) (aY.f n) (aY.f n) (aY.f n) (aY.f n) underlying162 rfl rfl rfl rfl rfl rfl rfl rfl (by kernel_rfl) (by kernel_rfl) (by kernel_rfl) (by kernel_rfl) (by kernel_rfl) (by kernel_rfl) (by kernel_rfl)
def aOT:Rdr prog 162 EtT:=Rdr.ofF _ _ (fun x=>by simp[eH.len,aY.len];kernel_rfl) aMj
def aRU:Rdr prog 162 ET:=aOT.map (fun x=>⟨x.1,x.2.1,x.2.2.1,x.2.2.2.1,x.2.2.2.2.1,x.2.2.2.2.2.1,x.2.2.2.2.2.2⟩) ET.cells (fun e=>e.name.size<=maxLen) (fun _=>rfl) (fun x h=>h.1) (fun _=>by kernel_rfl)
def aLV:Rdr prog 23 (List ET):=aRU.sliceN 7 underlying23 (by kernel_rfl) (by kernel_rfl)
def aPi:Rdr prog 25 (List NT × List ET):=Rdr.struct2 aL1 aLV underlying25 rfl rfl rfl (by kernel_rfl) (by kernel_rfl)
theorem aKG{l:List NT}{m:List ET}(h:aL1.ok l)(k:aLV.ok m):(Ty.mk l m).Big:=by
 have h2:l.length*prog.bytesOf 160<=reachBytes:=h.2
 have k2:m.length*prog.bytesOf 162<=reachBytes:=k.2
 rw[aKN] at h2;rw[aIt] at k2;have:reachBytes=140737488351232:=rfl
 exact⟨by rw[bI];simp only;omega,by rw[bI];simp only;omega,fun x hx=>h.1 x hx,fun x hx=>k.1 x hx⟩
def aRS:Rdr prog 25 Ty:=aPi.map (fun x=>⟨x.1,x.2⟩) (fun x=>[nts x.nodes,ets x.edges]) Ty.Big (fun _=>rfl) (fun x h=>aKG h.1 h.2) (fun _=>by kernel_rfl)
structure Xt where
 m:Mo
 g:Gr
structure Co where
 name:ByteArray
 kind:Int
 g:Gr
 exts:List Xt
abbrev Xt.cells(x:Xt):List D:=[ints x.m.nodes,ints x.m.edges,ints x.g.nodes,AM.edges x.g.edges]
abbrev xts(l:List Xt):D:=.sl 4 (l.map Xt.cells)
abbrev Xt.av(x:Xt):AV:=.agg [.d (ints x.m.nodes),.d (ints x.m.edges),.d (ints x.g.nodes),.d (AM.edges x.g.edges)]
abbrev Co.row(c:Co):List AV:=[Sb c.name,I c.kind,.d (ints c.g.nodes),.d (AM.edges c.g.edges),.d (xts c.exts)]
abbrev Co.av(c:Co):AV:=.agg c.row
structure Xt.Fit (x:Xt):Prop where
 m:x.m.Fit
 g:x.g.Fit
structure Co.Fit (c:Co):Prop where
 name:c.name.size<=200000000000000
 g:c.g.Fit
 n:c.exts.length<=1000000
 exts:∀x∈c.exts,x.Fit
def oB(g:Gr):Bool:=if 6<g.nodes.length then true else decide (8<g.edges.length)
def xtE(p:Gr)(x:Xt):Int:=if aG p x.g x.m≠0 then aG p x.g x.m else if oB x.g=true then 3 else if fJ p x.g x.m=true then 0 else 1
def dW(c:Co)(i:Nat):Int:=match c.exts[i]? with|some x=>xtE c.g x|none=>0
theorem rD{c:Co}{i:Nat}(h:i<c.exts.length):dW c i=xtE c.g c.exts[i]:=by simp[dW,h]
def kdE(c:Co):Int :=
 if c.kind=1 then if c.exts=[] then 0 else 1 else if c.kind=2 then if c.exts=[] then 7 else if 6<c.exts.length then 3 else 0 else 1
def kT(c:Co):Int :=
 if cM c.name=false then 2 else if kdE c≠0 then kdE c else if vG c.g≠0 then vG c.g else if oB c.g=true then 3 else aA (dW c) c.exts.length
def lvX(t:Ty)(c:Co):Bool:=if dA t c.g=true then cJ (fun x:Xt=>dA t x.g) c.exts else false
def cnE(t:Ty)(c:Co):Int:=if tyE t≠0 then tyE t else if kT c≠0 then kT c else if lvX t c=true then 0 else 13
theorem rS{c:Co}(h:kT c=0):cM c.name=true/\kdE c=0/\vG c.g=0/\oB c.g=false/\∀x∈c.exts,aG c.g x.g x.m=0/\oB x.g=false/\fJ c.g x.g x.m=true:=by
 unfold kT at h;split at h
 .cases h
 rename_i h1;split at h
 .rename_i h2;exact absurd h h2
 rename_i h2;split at h
 .rename_i h3;exact absurd h h3
 rename_i h3;split at h
 .cases h
 rename_i h4;refine⟨by simpa using h1,by simpa using h2,by simpa using h3,by simpa using h4,fun x hx=>?_⟩;obtain⟨i,hi,rfl⟩:=bi hx;have h5:=dU _ h i hi;rw[rD hi] at h5;unfold xtE at h5;split at h5
 .rename_i h6;exact absurd h5 h6
 rename_i h6;split at h5
 .cases h5
 rename_i h7;split at h5
 .rename_i h8;exact⟨by simpa using h6,by simpa using h7,h8⟩
 .cases h5
structure Xt.Big (x:Xt):Prop where
 mn:x.m.nodes.length<=dI
 me:x.m.edges.length<=dI
 g:x.g.Big
structure Co.Big (c:Co):Prop where
 name:c.name.size<=maxLen
 g:c.g.Big
 n:c.exts.length<=dI
 exts:∀x∈c.exts,x.Big
theorem aOA:prog.bytesOf 182=96:=by kernel_rfl
def aPB:Rdr prog 182 ((List Int × List Int) × Gr):=Rdr.struct2 iE dD underlying182 rfl rfl rfl (by kernel_rfl) (by kernel_rfl)
def aRv:Rdr prog 182 Xt:=aPB.map (fun x=>⟨⟨x.1.1,x.1.2⟩,x.2⟩) Xt.cells Xt.Big (fun _=>rfl) (fun x h=>⟨dC h.1.1,dC h.1.2,h.2⟩) (fun _=>by kernel_rfl)
def aB3:Rdr prog 54 (List Xt):=aRv.sliceN 4 underlying54 (by kernel_rfl) (by kernel_rfl)
theorem aCq{l:List Xt}(h:aB3.ok l):l.length<=dI/\∀x∈l,x.Big:=by
 have h2:l.length*prog.bytesOf 182<=reachBytes:=h.2
 rw[aOA] at h2;have:reachBytes=140737488351232:=rfl
 exact⟨by rw[bI];omega,h.1⟩
abbrev CoT:=ByteArray × Int × Gr × List Xt
theorem aMT(n:Nat):RdF prog 56 (fun x:CoT=>eH.enc x.1++(aY.enc x.2.1++(dD.enc x.2.2.1++aB3.enc x.2.2.2))) (fun x=>eH.ok x.1/\aY.ok x.2.1/\dD.ok x.2.2.1/\aB3.ok x.2.2.2) n:=by
 cases n with
 | zero=>exact .zero
 | succ n=>exact RdF.struct4 (eH.f n) (aY.f n) (dD.f n) (aB3.f n) underlying56 rfl rfl rfl rfl rfl (by kernel_rfl) (by kernel_rfl) (by kernel_rfl) (by kernel_rfl)
def aPU:Rdr prog 56 CoT:=Rdr.ofF _ _ (fun x=>by simp[eH.len,aY.len,dD.len,aB3.len];kernel_rfl) aMT
def Co.rowD(c:Co):List D:=[.raw (.string c.name),.raw (.int .i64 c.kind),ints c.g.nodes,AM.edges c.g.edges,xts c.exts]
def aRD:Rdr prog 56 Co:=aPU.map (fun x=>⟨x.1,x.2.1,x.2.2.1,x.2.2.2⟩) Co.rowD Co.Big (fun _=>rfl) (fun x h=>⟨h.1,h.2.2.1,(aCq h.2.2.2).1,(aCq h.2.2.2).2⟩) (fun _=>by kernel_rfl)
variable {P:Program}
section
variable (R:AV->AV->Prop)
def CvR(r r':List AV):Prop:=r.length=r'.length/\∀i (h1:i<r.length) (h2:i<r'.length),R r[i] r'[i]
def aDE(r r':List (List AV)):Prop:=r.length=r'.length/\∀i (h1:i<r.length) (h2:i<r'.length),CvR R r[i] r'[i]
def CvL:List (Nat × AV)->List (Nat × AV)->Prop
 | [],[]=>True
 | (i,x)::a,(j,y)::b=>i=j/\R x y/\CvL a b
 | _,_=>False
def CvB:List (Nat × List (List AV))->List (Nat × List (List AV))->Prop
 | [],[]=>True
 | (i,x)::a,(j,y)::b=>i=j/\aDE R x y/\CvB a b
 | _,_=>False
end
section
variable {R:AV->AV->Prop}
theorem CvL.at(h0:R .bot .bot):∀{l l':List (Nat × AV)},CvL R l l'->∀i,R (tl l i) (tl l' i)
 | [],[],_,i=>h0
 | (i,x)::a,(j,y)::b,h,q=>by
  obtain⟨rfl,h1,h2⟩:=h;rw[jG,jG];split
  .exact h1
  .exact CvL.at h0 h2 q
 | [],_::_,h,_=>h.elim
 | _::_,[],h,_=>h.elim
theorem CvB.at:∀{l l':List (Nat × List (List AV))},CvB R l l'->∀i,(lk l i=none/\lk l' i=none)∨∃r r',lk l i=some r/\lk l' i=some r'/\aDE R r r'
 | [],[],_,i=>.inl ⟨rfl,rfl⟩
 | (i,x)::a,(j,y)::b,h,q=>by
  obtain⟨rfl,h1,h2⟩:=h;rw[cB,cB];split
  .exact .inr ⟨x,y,rfl,rfl,h1⟩
  .exact CvB.at h2 q
 | [],_::_,h,_=>h.elim
 | _::_,[],h,_=>h.elim
theorem aDE.flat:∀{r r':List (List AV)},aDE R r r'->CvR R r.flatten r'.flatten
 | [],[],_=>⟨rfl,fun i h=>by simp at h⟩
 | x::a,y::b,h=>by
  have h0:=h.2 0 (by simp) (by simp);have ih:CvR R a.flatten b.flatten:=aDE.flat ⟨by simpa using h.1,fun i h1 h2=>h.2 (i+1) (by simpa using h1) (by simpa using h2)⟩
  simp only[cg] at h0;refine⟨by simp[h0.1,ih.1],fun i h1 h2=>?_⟩;have hl:=h0.1;have s7:=ih.1;simp only[ck] at h1 h2 ⊢;rw[am] at h1 h2;by_cases hi:i<x.length
  .have e1:(x++a.flatten)[i]'(by rw[am];omega)=x[i]:=bu hi
   have e2:(y++b.flatten)[i]'(by rw[am];omega)=y[i]'(by omega):=bu (by omega)
   rw[e1,e2];exact h0.2 i hi _
  .have e1:(x++a.flatten)[i]'(by rw[am];omega)=a.flatten[i-x.length]'(by omega):=cd (by omega)
   have e2:(y++b.flatten)[i]'(by rw[am];omega)=b.flatten[i-y.length]'(by omega):=cd (by omega)
   rw[e1,e2];have:=ih.2 (i-x.length) (by omega) (by omega)
   simp only[hl] at this ⊢;exact this
 | [],_::_,h=>by have:=h.1;simp at this
 | _::_,[],h=>by have:=h.1;simp at this
theorem CvR.vs{G:Gh}{w:World}(hto:∀x y v,R x y->RV G w x v->RV G w y v){xs ys:List AV}{vs:List Value}(h:CvR R xs ys)(hr:RVs G w xs vs):RVs G w ys vs :=
 ⟨h.1.symm.trans hr.1,fun i h1 h2=>hto _ _ _ (h.2 i (by rw[h.1];exact h1) h1) (hr.2 i _ h2)⟩
theorem aR.rows{G:Gh}{w:World}{base nb nt:Nat}{out:Bxs}{loc loc':List (Nat × List (List AV))}{tok:Nat->Bool}(hto:∀x y v,R x y->RV G w x v->RV G w y v)(hb:CvB R loc loc')(hm:aR G ⟨lb base out loc,nb,tok,nt⟩ w):aR G ⟨lb base out loc',nb,tok,nt⟩ w:=by
 constructor
 case box =>
  intro k rows b z hk mu;simp only at hk;by_cases iv:k<base
  .rw[lO iv] at hk;exact hm.box k rows b z (by simp only;rw[lO iv];exact hk) mu
  .have i4:k=base+(k-base):=by omega
   rw[i4,aN] at hk;rcases hb.at (k-base) with ⟨_,h2⟩|⟨r0,r',h1,h2,h3⟩
   .rw[h2] at hk;cases hk
   .rw[h2] at hk;cases hk;obtain⟨g1,cs,e,g2,g3,g4,g5⟩:=hm.box k r0 b z (by simp only;rw[i4,aN];exact h1) mu;refine⟨g1,cs,e,g2,fun q hq=>?_,h3.flat.vs hto g4,g5⟩;obtain⟨i,hi,rfl⟩:=bi hq;have q9:i<r0.length:=by rw[h3.1];exact hi
    rw[<-(h3.2 i q9 hi).1];exact g3 _ (aa _)
 case nobox =>
  intro k hk;refine hm.nobox k ?_;simp only at hk ⊢;by_cases iv:k<base
  .rw[lO iv] at hk ⊢;exact hk
  .have i4:k=base+(k-base):=by omega
   rw[i4,aN] at hk ⊢;rcases hb.at (k-base) with ⟨h1,_⟩|⟨r0,r',_,h2,_⟩
   .exact h1
   .rw[h2] at hk;cases hk
 case inj=>exact hm.inj
 case nb =>
  intro k hk;have h0:=hm.nb k hk;simp only at h0 ⊢;by_cases iv:k<base
  .rw[lO iv] at h0 ⊢;exact h0
  .have i4:k=base+(k-base):=by omega
   rw[i4,aN] at h0 ⊢;rcases hb.at (k-base) with ⟨_,h2⟩|⟨r0,r',h1,_,_⟩
   .exact h2
   .rw[h1] at h0;cases h0
 case nt=>exact hm.nt
 case toks=>exact hm.toks
 case tokb=>exact hm.tokb
 case tinj=>exact hm.tinj
 case tnt=>exact hm.tnt
 case glob=>exact hm.glob
 case fresh=>exact hm.fresh
end
inductive tW (t sz:Nat):AV->AV->Prop
 | bot {x}:tW t sz x .bot
 | same {x}:tW t sz x x
 | nil {n}:tW t sz (.osl n [] .full) (.stk t sz [])
theorem tW.rv{G:Gh}{w:World}{t sz:Nat}(ht:t<G.nt)(hk:G.tk t=some none){x y:AV}{v:Value}(h:tW t sz x y)(hr:RV G w x v):RV G w y v:=by
 cases h with
 | bot=>exact .bot
 | same=>exact hr
 | nil =>
  cases hr with
  | osl _ ho =>
   obtain⟨A,rfl,_⟩:=ho;refine .stk ⟨ht,A,0,rfl,nr0 _,ai _,fun x hx=>?_⟩;rw[hk] at hx;cases hx;rfl
theorem iW.opn{cx:Cx}{nt0 nt:Nat}{l l':List (Nat × AV)}{out:Bxs}{loc loc':List (Nat × List (List AV))}{tok:Nat->Bool}(sz:Nat)(hl:CvL (tW nt sz) l l')(hb:CvB (tW nt sz) loc loc'):
  iW cx nt0 ⟨tl l,lb cx.base out loc,tok,nt⟩ ⟨tl l',lb cx.base out loc',upd tok nt true,nt+1⟩:=by
 intro G0 w0 G a w he u7 hS hL;have hm:=hS.mem;have qr:G.nt=nt:=hm.nt
 have g9:=Le.newtok (G:=G) (w:=w) none;have ll:=hm.newtok none (fun g h=>by cases h)
 have h1:nt<(G.newtok none).nt:=by simp only[Gh.newtok];omega
 have h2:(G.newtok none).tk nt=some none:=by simp only[Gh.newtok];rw[<-qr,uS]
 refine⟨G.newtok none,⟨hS.defers,hS.size,fun i=>(hl.at .bot i).rv h1 h2 ((hS.tmps i).mono g9),ll.rows (fun x y v h hr=>h.rv h1 h2 hr) hb⟩,?_⟩;refine hL.step ⟨g9,fun k iv hg=>⟨hg,?_⟩⟩;simp only;rw[lO iv,lO iv]
section
variable {t sz:Nat}
@[simp] theorem aOW(x:AV):tW t sz x .bot:=.bot
@[simp] theorem aNn(x:AV):tW t sz x x:=.same
@[simp] theorem aPI(n:Nat):tW t sz (.osl n [] .full) (.stk t sz []):=.nil
end
@[simp] theorem aRW{p:Nat->Prop}{fz:Option (Nat × Nat × List (List D))}(t sz:Nat)(es:List (List D)):To p (fun _=>True) fz (.stk t sz es) (.stk t sz es):=.same (.stk trivial)
@[simp] theorem aRO{p:Nat->Prop}{fz:Option (Nat × Nat × List (List D))}(t sz:Nat)(es:List (List D)):To p (fun _=>True) fz (.que t sz es) (.que t sz es):=.same (.que trivial)
@[simp] theorem aOx{p q:Nat->Prop}{t sz:Nat}{es:List (List D)}:bD p q (.que t sz es)↔q t:=⟨fun h=>by cases h;assumption,.que⟩
@[simp] theorem aNw{p q:Nat->Prop}{t sz:Nat}{es:List (List D)}:bD p q (.stk t sz es)↔q t:=⟨fun h=>by cases h;assumption,.stk⟩
theorem aBl{R:AV->AV->Prop}:CvR R [] []:=⟨rfl,fun i h=>by simp at h⟩
theorem aX{R:AV->AV->Prop}{x y:AV}{a b:List AV}(h:R x y)(r:CvR R a b):CvR R (x::a) (y::b):=⟨by simp[r.1],fun i h1 h2=>by
 cases i with
 | zero=>exact h
 | succ i=>exact r.2 i (by simpa using h1) (by simpa using h2)⟩
theorem wT{R:AV->AV->Prop}{r r':List AV}(h:CvR R r r'):aDE R [r] [r']:=⟨rfl,fun i h1 h2=>by
 have:i=0:=by simp at h1;omega
 subst this;exact h⟩
variable {P:Program}
inductive yR (tok:Tks):AV->D->Prop
 | d {x}:yR tok (.d x) x
 | osl {sz es o}:yR tok (.osl sz es o) (.sl sz es)
 | stk {t sz es} (h:tok t=true):yR tok (.stk t sz es) (.sl sz es)
def mA(tok:Tks):List AV->List D->Prop
 | [],[]=>True
 | x::a,y::b=>yR tok x y/\mA tok a b
 | _,_=>False
theorem mA.at{tok:Nat->Bool}:∀{a:List AV} {b:List D},mA tok a b->a.length=b.length/\∀i (h1:i<a.length) (h2:i<b.length),yR tok a[i] b[i]
 | [],[],_=>⟨rfl,fun i h=>by simp at h⟩
 | x::a,y::b,h=>by
  obtain⟨h1,h2⟩:=mA.at h.2;refine⟨by simp[h1],fun i g1 g2=>?_⟩;cases i with
  | zero=>exact h.1
  | succ i=>exact h2 i (by simpa using g1) (by simpa using g2)
 | [],_::_,h=>h.elim
 | _::_,[],h=>h.elim
inductive rA (box:Bxs) (tok:Tks):AV->AV->Prop
 | same {x} (h:bD (fun _=>False) (fun _=>True) x):rA box tok x x
 | stk {t sz es} (h:tok t=true):rA box tok (.stk t sz es) (.d (.sl sz es))
 | ptr {k row ds} (hk:box k=some [row]) (h:mA tok row ds):rA box tok (.ptr k 0 0) (.cptr ds 0)
 | fn {f} {caps caps':List AV} (hl:caps.length=caps'.length) (h:∀i (h1:i<caps.length) (h2:i<caps'.length),rA box tok caps[i] caps'[i]):rA box tok (.fn f caps) (.fn f caps')
def qH(box:Bxs)(tok:Tks):List AV->List AV->Prop
 | [],[]=>True
 | x::a,y::b=>rA box tok x y/\qH box tok a b
 | _,_=>False
theorem rA.ext{box box':Bxs}{tok:Nat->Bool}(he:Ext box box'){x y:AV}(h:rA box tok x y):rA box' tok x y:=by
 induction h with
 | same h=>exact .same h
 | stk h=>exact .stk h
 | ptr hk h=>exact .ptr (he _ _ hk) h
 | fn hl _ ih=>exact .fn hl ih
theorem rA.fn1{box:Bxs}{tok:Nat->Bool}{f:Fn}{x y:AV}(h:rA box tok x y):rA box tok (.fn f [x]) (.fn f [y]):=.fn rfl fun i h1 h2=>by
 have:i=0:=by simp at h1;omega
 subst this;exact h
theorem qH.ext{box box':Bxs}{tok:Nat->Bool}(he:Ext box box'):∀{a b:List AV},qH box tok a b->qH box' tok a b
 | [],[],_=>trivial
 | x::a,y::b,h=>⟨h.1.ext he,qH.ext he h.2⟩
 | [],_::_,h=>h.elim
 | _::_,[],h=>h.elim
def Gh.lb(G:Gh)(b:Nat):Prop:=(∃k sz,G.bx k=some (b,sz))∨∃t,G.tk t=some (some b)/\G.kind b=.ex
def Gh.lt(G:Gh)(t:Nat):Prop:=∃g,G.tk t=some (some g)/\G.kind g=.ex
open Classical in
noncomputable def Gh.lent(G:Gh):Gh:={ bx:=fun _=>none,kind:=fun b=>if G.lb b then .whole else G.kind b,tk:=fun t=>if G.lt t then none else G.tk t,nt:=G.nt }
open Classical in
noncomputable def Gh.back(G G1:Gh):Gh:={ bx:=G.bx,kind:=fun b=>if G.lb b then G.kind b else G1.kind b,tk:=fun t=>if G.lt t then G.tk t else G1.tk t,nt:=G1.nt }
theorem aBc{G:Gh}{a:Addr}(h:G.ps a):G.lent.ps a:=by
 unfold Gh.ps at h ⊢;simp only[Gh.lent];by_cases e:G.lb a.block
 .simp[e]
 .simp only[e,↓reduceIte];exact h
theorem fI{G:Gh}{t:Nat}{x:Option Nat}(h:G.lent.tk t=some x):G.tk t=some x/\¬G.lt t:=by
 simp only[Gh.lent] at h;split at h
 .cases h
 .rename_i hn;exact⟨h,hn⟩
theorem yX{G:Gh}{m:bF}{w:World}(hm:aR G m w){x:AV}{y:D}{v:Value}(hc:yR m.tok x y)(h:RV G w x v):RVd w.cell? G.lent.ps y v:=by
 have hcm:∀(a:Addr) (u:Value),G.ps a->w.cell? a=some u->G.lent.ps a/\w.cell? a=some u:=fun a u h1 h2=>⟨aBc h1,h2⟩
 cases hc with
 | d=>cases h with|d h1=>exact h1.mono hcm
 | osl=>cases h with|osl h1 _=>exact h1.mono hcm
 | @stk t sz es ht =>
  cases h with
  | stk hs =>
   obtain⟨_,A,cap,rfl,iq,iu,jo⟩:=hs;obtain⟨_,y,hy⟩:=hm.toks t ht;have jo:=jo y hy;cases y with
   | none =>
    have mc:es=[]:=bf (by have:cap=0:=jo;omega)
    subst mc;exact .sl (es:=[]) (fun _ _=>default) (ai _) iu (by simp) (by simp) (fun a _ i j hi _=>by simp at hi) (fun i j hi _=>by simp at hi)
   | some g =>
    obtain⟨hA,vs,sp,e,h1,h2,h3,h4,h5⟩:=jo;refine RVd.of_flat iq iu ⟨h4.len,fun a ha q u hq=>?_,h4.one,fun _=>⟨_,hA⟩,h4.each,fun i j hi hj=>?_⟩
    .rw[hA] at ha;cases ha;rw[bK];refine⟨?_,?_⟩
     .have hl:G.lb g:=.inr ⟨t,hy,h1⟩
      simp[Gh.ps,Gh.lent,hl]
     .rw[ee w g _ _ e (0,0) h2,b6];simp only[dy];rw[bg (a8.1 hq).1];exact hq
    .obtain⟨u,hu,hr⟩:=h4.read i j hi hj;exact⟨u,hu,hr.mono hcm⟩
theorem aEM{G:Gh}{m:bF}{w:World}(hm:aR G m w){b:Nat}(h:G.lb b):b<w.heap.size/\(G.kind b=.box∨G.kind b=.ex):=by
 rcases h with ⟨k,sz,h⟩|⟨t,h1,h2⟩
 .have:=hm.blt h
  exact⟨this.1,.inl this.2⟩
 .obtain⟨f,cur,e,_,h3⟩:=hm.tokb t b h1;exact⟨bW h3,.inr h2⟩
theorem RV.lent{G:Gh}{m:bF}{w:World}(hm:aR G m w){x:AV}{v:Value}(h:RV G w x v)(ho:bD (fun _=>False) (fun _=>True) x):RV G.lent w x v:=by
 have hc:∀(a:Addr) (u:Value),G.ps a->w.cell? a=some u->G.lent.ps a/\w.cell? a=some u:=fun a u h1 h2=>⟨aBc h1,h2⟩
 have hk:∀g f c,G.kind g=.part f c->G.lent.kind g=G.kind g:=fun g f c hg=>by
  simp only[Gh.lent];rw[ac fun e=>by rcases (aEM hm e).2 with h|h<;>rw[hg] at h<;>cases h]
 have hown:∀{sz n:Nat} {o:Own} {v:Value},sM G sz n o v->sM G.lent sz n o v:=by
  intro sz n o v h2;cases o with
  | full=>exact h2
  | tok t =>
   refine⟨h2.1,fun y hy=>?_⟩;have:=h2.2 y (fI hy).1
   cases y with
   | none=>exact this
   | some g =>
    obtain⟨cap,hv,hg⟩:=this;exact⟨cap,hv,(hk g _ _ hg).trans hg⟩
 induction h with
 | bot=>exact .bot
 | d h1=>exact .d (h1.mono hc)
 | osl h1 h2=>exact .osl (h1.mono hc) (hown h2)
 | ptr h1=>cases ho with|ptr h=>exact h.elim
 | here h1 h2=>cases ho with|here h=>exact h.elim
 | buf h1 h2 h3 h4=>exact .buf (h1.mono hc) (hown h2) (fun e=>h3 (fI e).1) (fun g hg=>h4 g (fI hg).1)
 | cptr a u h1 h2=>exact .cptr a u (fun j hj=>hc _ _ (h1 j hj).1 (h1 j hj).2) fun j hj=>(h2 j hj).mono hc
 | msl h1=>cases ho with|msl h=>exact h.elim
 | fn hl _ ih=>cases ho with|fn h=>exact .fn hl fun i h1 h2=>ih i h1 h2 (h _ (aa h1))
 | agg hl _ jc ih=>cases ho with|agg h=>exact .agg hl (fun i h1 h2=>ih i h1 h2 (h _ (aa h1))) jc
 | tup hl _ ih=>cases ho with|tup h=>exact .tup hl fun i h1 h2=>ih i h1 h2 (h _ (aa h1))
 | ex h1 =>
  obtain⟨r1,r0,r2⟩:=h1;refine .ex ⟨r1,r0,fun y hy=>?_⟩;obtain⟨un,hn⟩:=fI hy;obtain⟨g,cap,cs,e,rfl,h2,h3,h4,h5,_⟩:=r2 y un;exact absurd ⟨g,un,h5⟩ hn
 | stk h1 =>
  obtain⟨r1,A,cap,hv,hc1,rf,r2⟩:=h1;refine .stk ⟨r1,A,cap,hv,hc1,rf,fun y hy=>?_⟩;obtain⟨un,hn⟩:=fI hy;have h0:=r2 y un;cases y with
  | none=>exact h0
  | some g =>
   obtain⟨hA,vs,sp,e,h5,_⟩:=h0;exact absurd ⟨g,un,h5⟩ hn
 | que h1 h2=>exact .que (h1.mono hc) (h2.imp h2.1 fun x hx=>⟨(fI hx).1,fun g _ f c he=>(hk g f c he).trans he⟩)
 | mp h1 =>
  obtain⟨r1,r0,r,hv,r2⟩:=h1;refine .mp ⟨r1,r0,r,hv,fun y hy=>?_⟩;obtain⟨un,hn⟩:=fI hy;obtain⟨rfl,h5,_⟩:=r2 y un;exact absurd ⟨r,un,h5⟩ hn
 | mpd h1=>exact .mpd (h1.imp hc fun r _ p9=>⟨by simp only[Gh.lent];split;rfl;exact p9,rfl⟩)
theorem rA.rv{G:Gh}{m:bF}{w:World}(hm:aR G m w){x y:AV}{v:Value}(hb:rA m.box m.tok x y)(h:RV G w x v):RV G.lent w y v:=by
 induction hb generalizing v with
 | fn hl _ ih =>
  cases h with
  | fn kj hh=>exact .fn (hl.symm.trans kj) fun i h1 h2=>ih i (by omega) h1 (hh i (by omega) h2)
 | same ho=>exact h.lent hm ho
 | stk ht=>exact .d (yX hm (.stk ht) h)
 | @ptr k row ds hk hd =>
  generalize hx:AV.ptr k 0 0=x at h;cases h with
  | @ptr k' i off b sz mu =>
   cases hx;obtain⟨sf,cs,e,j9,ud,hR,jc⟩:=hm.box k [row] b sz hk mu;have hR:RVs G w row cs.toList:=by simpa using hR
   obtain⟨hl,jj⟩:=hd.at;have md:G.lb b:=.inl ⟨k,sz,mu⟩
   have:=RV.cptr (G:=G.lent) (w:=w) (cs:=ds) (off:=0) ⟨b,0,none⟩ (fun j=>cs.getD j default) (fun j hj=>?_) (fun j hj=>?_)
   .rw[bK] at this;simpa using this
   .rw[bK];refine⟨by simp[Gh.ps,Gh.lent,md],?_⟩;rw[ee w b _ _ e (0,0) j9,b6];have wb:j<cs.size:=by have:=hR.1;simp at this;omega
    simp[wb]
   .have wb:j<cs.size:=by have:=hR.1;simp at this;omega
    have h1:=yX hm (jj j (by omega) hj) (hR.2 j (by omega) (by simpa using wb));simpa[wb] using h1
  | _=>cases hx
theorem qH.rvs{G:Gh}{m:bF}{w:World}(hm:aR G m w):∀{xs ys:List AV} {vs:List Value},qH m.box m.tok xs ys->RVs G w xs vs->RVs G.lent w ys vs
 | [],[],vs,_,h=>⟨by have:=h.1;simpa using this,fun i h=>by simp at h⟩
 | x::a,y::b,vs,hb,h=>by
  obtain⟨v,us,rfl,h1,h2⟩:=h.uncons;exact RVs.cons (hb.1.rv hm h1) (qH.rvs hm hb.2 h2)
 | [],_::_,_,h,_=>h.elim
 | _::_,[],_,h,_=>h.elim
theorem dH.lends{f:FuncId}{args args':List AV}{box:Bxs}{tok:Nat->Bool}{nt:Nat}{u:Value}(hu:u.oneCell'=true)(h:∀tok,cZ P f args' tok nt (.d (.raw u)) tok nt)(hb:qH box tok args args'):dH P f args box tok nt (.d (.raw u)) tok nt:=by
 classical
 intro box' nb yh;have hb':=hb.ext yh
 refine⟨(h tok (fun _=>none) nb).1,fun G w vals hm hr=>?_⟩;obtain⟨_,hc⟩:=h (fun t=>tok t&&decide (¬G.lt t)) (fun _=>none) nb;have wd:=fun {b} (hb:G.lb b)=>aEM hm hb
 have o7:∀t g,G.tk t=some (some g)->¬G.lt t->¬G.lb g:=fun t g ht hn hl=>by
  rcases hl with ⟨k,sz,hk⟩|⟨t2,h1,h2⟩
  .obtain⟨f',cur,e,h1,_⟩:=hm.tokb t g ht;rw[(hm.blt hk).2] at h1;rcases h1 with ⟨h1,_⟩|h1<;>cases h1
  .exact hn ⟨g,ht,h2⟩
 have sj:aR G.lent ⟨fun _=>none,nb,fun t=>tok t&&decide (¬G.lt t),nt⟩ w:=by
  constructor
  case box=>intro k rows b sz h1;cases h1
  case nobox=>intro k _;rfl
  case inj=>intro k k' b sz sz' h1;cases h1
  case nb=>intro k _;rfl
  case nt=>exact hm.nt
  case toks =>
   intro t ht;simp only[bd,au] at ht;obtain⟨h1,x,h2⟩:=hm.toks t ht.1;exact⟨h1,x,by simp only[Gh.lent];rw[ac ht.2];exact h2⟩
  case tokb =>
   intro t g ht;obtain⟨h1,h2⟩:=fI ht;obtain⟨f',cur,e,h3,h4⟩:=hm.tokb t g h1;refine⟨f',cur,e,?_,h4⟩;simp only[Gh.lent];rw[ac (o7 t g h1 h2)];exact h3
  case tinj=>exact fun t t' g h1 h2=>hm.tinj t t' g (fI h1).1 (fI h2).1
  case tnt=>exact fun t x h1=>hm.tnt t x (fI h1).1
  case glob=>exact hm.glob.mono fun a u h1 h2=>⟨aBc h1,h2⟩
  case fresh =>
   intro b jz;simp only[Gh.lent];split
   .rfl
   .exact hm.fresh b jz
 refine Calls.mono (hc G.lent w vals sj (hb'.rvs hm hr)) ?_;rintro e w' ⟨v,av,m',G1,rfl,⟨rfl,rfl⟩,h3,h4,h5,h6,h7⟩;have hv:v=u:=by cases h5 with|d h=>cases h;rfl
 subst hv;have jm:∀b,G.lb b->G1.kind b=.whole/\w'.heap[b]?=w.heap[b]?:=fun b jz=>h6.whole b (wd jz).1 (by simp[Gh.lent,jz])
 have we:∀t,G.lt t->∃g,G.tk t=some (some g)/\G.kind g=.ex/\G.lb g:=fun t ⟨g,h1,h2⟩=>⟨g,h1,h2,.inr ⟨t,h1,h2⟩⟩
 have g9:Le G w (G.back G1) w':=by
  refine⟨h6.os,h6.tape,h6.output,h6.size,fun b jz hk=>?_,fun b f' c hk=>?_,fun _ _ h=>h,h6.nt,fun t ht=>?_,?_⟩
  .have hn:¬G.lb b:=fun e=>by rcases (wd e).2 with h|h<;>rw[hk] at h<;>cases h
   obtain⟨a1,a2⟩:=h6.whole b jz (by simp only[Gh.lent];rw[ac hn];exact hk);exact⟨by simp only[Gh.back];rw[ac hn];exact a1,a2⟩
  .have hn:¬G.lb b:=fun e=>by rcases (wd e).2 with h|h<;>rw[hk] at h<;>cases h
   obtain⟨⟨f2,a1,a2⟩,a3⟩:=h6.part b f' c (by simp only[Gh.lent];rw[ac hn];exact hk);exact⟨⟨f2,a1,by simp only[Gh.back];rw[ac hn];exact a2⟩,a3⟩
  .by_cases hl:G.lt t
   .refine .inr ⟨by simp only[Gh.back];rw[af hl],fun g hg=>?_⟩;obtain⟨g',h1,h2,h3⟩:=we t hl;rw[hg] at h1;cases h1;exact⟨by simp only[Gh.back];rw[af h3],fun _=>(jm g h3).2⟩
   .have e1:(G.back G1).tk t=G1.tk t:=by simp only[Gh.back];rw[ac hl]
    have e2:G.lent.tk t=G.tk t:=by simp only[Gh.lent];rw[ac hl]
    rcases h6.tk t ht with a1|⟨a1,a2⟩
    .exact .inl (e1.trans a1)
    .refine .inr ⟨(e1.trans a1).trans e2,fun g hg=>?_⟩;have hn:=o7 t g hg hl;obtain⟨b1,b2⟩:=a2 g (e2.trans hg);simp only[Gh.lent] at b1 b2;rw[ac hn] at b1 b2;exact⟨by simp only[Gh.back];rw[ac hn];exact b1,b2⟩
  .exact h6.ty
 refine⟨v,_,_,G.back G1,rfl,⟨rfl,rfl⟩,rfl,?_,.d (.raw hu),g9,fun k hk=>⟨hk,rfl⟩⟩;have AG:∀t g,¬G.lt t->(G.back G1).tk t=some (some g)->G1.tk t=some (some g)/\¬G.lb g:=fun t g hl ht=>by
  have e1:G1.tk t=some (some g):=by simp only[Gh.back] at ht;rw[ac hl] at ht;exact ht
  refine⟨e1,fun A0=>?_⟩;obtain⟨f',cur,e,g1,_⟩:=h4.tokb t g e1;rw[(jm g A0).1] at g1;rcases g1 with ⟨g1,_⟩|g1<;>cases g1
 have ub:∀t,G.lt t->(G.back G1).tk t=G.tk t:=fun t hl=>by simp only[Gh.back];rw[af hl]
 constructor
 case box =>
  intro k rows b sz hk jz;obtain⟨g1,cs,e,g2,g3,g4,g5⟩:=hm.box k rows b sz hk jz;have u6:G.lb b:=.inl ⟨k,sz,jz⟩
  exact⟨by simp only[Gh.back];rw[af u6];exact g1,cs,e,(jm b u6).2.trans g2,g3,g4.mono g9,g5⟩
 case nobox=>exact hm.nobox
 case inj=>exact hm.inj
 case nb=>exact hm.nb
 case nt=>exact h4.nt
 case toks =>
  intro t ht;obtain⟨h1,x,h2⟩:=hm.toks t ht;refine⟨h1,?_⟩;by_cases hl:G.lt t
  .exact⟨x,(ub t hl).trans h2⟩
  .obtain⟨_,y,h3⟩:=h4.toks t (by simp only[bd,au];exact⟨ht,hl⟩);exact⟨y,by simp only[Gh.back];rw[ac hl];exact h3⟩
 case tokb =>
  intro t g ht;by_cases hl:G.lt t
  .rw[ub t hl] at ht;obtain⟨g',h1,h2,h3⟩:=we t hl;rw[ht] at h1;cases h1;obtain⟨f',cur,e,g1,g2⟩:=hm.tokb t g ht;exact⟨f',cur,e,by simp only[Gh.back];rw[af h3];exact g1,(jm g h3).2.trans g2⟩
  .obtain⟨h1,hn⟩:=AG t g hl ht;obtain⟨f',cur,e,g1,g2⟩:=h4.tokb t g h1;exact⟨f',cur,e,by simp only[Gh.back];rw[ac hn];exact g1,g2⟩
 case tinj =>
  intro t t' g ht k9;by_cases hl:G.lt t<;>by_cases kj:G.lt t'
  .rw[ub t hl] at ht;rw[ub t' kj] at k9;exact hm.tinj t t' g ht k9
  .rw[ub t hl] at ht;obtain⟨g',h1,_,h3⟩:=we t hl;rw[ht] at h1;cases h1;exact absurd h3 (AG t' g kj k9).2
  .rw[ub t' kj] at k9;obtain⟨g',h1,_,h3⟩:=we t' kj;rw[k9] at h1;cases h1;exact absurd h3 (AG t g hl ht).2
  .exact h4.tinj t t' g (AG t g hl ht).1 (AG t' g kj k9).1
 case tnt =>
  intro t x ht;by_cases hl:G.lt t
  .rw[ub t hl] at ht;have:=hm.tnt t x ht
   have e1:=hm.nt;have e2:=h4.nt;simp only[Gh.back];simp only at e1 e2;omega
  .simp only[Gh.back] at ht;rw[ac hl] at ht;exact h4.tnt t x ht
 case glob=>exact hm.glob.mono g9.cells
 case fresh =>
  intro b jz;have:=h6.size
  have hn:¬G.lb b:=fun yi=>by have:=(wd yi).1;omega
  simp only[Gh.back];rw[ac hn];exact h4.fresh b jz
variable {P:Program}
theorem Le.reKind{G:Gh}{w:World}{g:Nat}(k:BK)(hk:G.kind g=.ex)(ht:∀t,G.tk t≠some (some g)):Le G w (G.setKind g k) w where
 os:=rfl
 tape:=rfl
 output:=rfl
 size:=nr0 _
 whole b _ h:=⟨by simp only[Gh.setKind];rw[uO _ _ (fun e=>by subst e;rw[hk] at h;cases h)];exact h,rfl⟩
 part b f c h:=⟨⟨f,nr0 _,by simp only[Gh.setKind];rw[uO _ _ (fun e=>by subst e;rw[hk] at h;cases h)];exact h⟩,fun _ _ _=>rfl⟩
 bx _ _ h:=h
 nt:=nr0 _
 tk t _:=.inr ⟨rfl,fun j hj=>⟨by simp only[Gh.setKind];exact uO _ _ (fun e=>by subst e;exact ht t hj),fun _=>rfl⟩⟩
 ty _ cs T f h:=⟨cs,f,h⟩
theorem aR.reKind{G:Gh}{m:bF}{w:World}(h:aR G m w){g:Nat}(k:BK)(hk:G.kind g=.ex)(ht:∀t,G.tk t≠some (some g))(hg:g<w.heap.size):aR (G.setKind g k) m w:=by
 have g9:=Le.reKind (w:=w) k hk ht;constructor
 case box =>
  intro q rows b sz hq hb;obtain⟨h1,cs,e,h2,h3,h4,h5⟩:=h.box q rows b sz hq hb;refine⟨?_,cs,e,h2,h3,h4.mono g9,h5⟩;simp only[Gh.setKind];rw[uO _ _ (fun e=>by subst e;rw[hk] at h1;cases h1)];exact h1
 case nobox=>exact h.nobox
 case inj=>exact h.inj
 case nb=>exact h.nb
 case nt=>exact h.nt
 case toks=>exact h.toks
 case tokb =>
  intro t j hj;obtain⟨f0,cur0,e0,h1,h2⟩:=h.tokb t j hj;refine⟨f0,cur0,e0,?_,h2⟩;simp only[Gh.setKind];rw[uO _ _ (fun e=>by subst e;exact ht t hj)];exact h1
 case tinj=>exact h.tinj
 case tnt=>exact h.tnt
 case glob=>exact h.glob.mono g9.cells
 case fresh =>
  intro b hb;simp only[Gh.setKind];rw[uO _ _ (by omega)];exact h.fresh b hb
theorem vM{G:Gh}{m:bF}{w:World}(hm:aR G m w){t g:Nat}(hx:G.tk t=some (some g)):∀q,(G.kill (.tok t)).tk q≠some (some g):=by
 intro q hq;simp only[Gh.kill] at hq;by_cases e:q=t
 .subst e;simp[uS] at hq
 .rw[uO _ _ e] at hq;exact e (hm.tinj q t g hq hx)
inductive aDR (t:Nat):AV->AV->Prop
 | bot {x}:aDR t x .bot
 | same {x}:aDR t x x
 | stk {sz es}:aDR t (.stk t sz es) (.d (.sl sz es))
theorem iW.stkD{cx:Cx}{nt0 nt:Nat}{l l':List (Nat × AV)}{out:Bxs}{loc loc':List (Nat × List (List AV))}{tok:Nat->Bool}(t:Nat)(ht:tok t=true)(hl:CvL (aDR t) l l')(hb:CvB (aDR t) loc loc'):
  iW cx nt0 ⟨tl l,lb cx.base out loc,tok,nt⟩ ⟨tl l',lb cx.base out loc',upd tok t false,nt⟩:=by
 intro G0 w0 G a w he u7 hS hL;have hm:=hS.mem;obtain⟨hlt,x,hx⟩:=hm.toks t ht;have pa:=hm.kill (.tok t);have ku:=Le.kill (G:=G) (w:=w) (.tok t);have wg:∀{sz:Nat} {es:List (List D)} {v:Value},RV G w (.stk t sz es) v->yH G w t sz es v:=fun h=>by cases h with|stk h=>exact h
 have fin:∀G',Le G w G' w->G'.bx=G.bx->aR G' ⟨lb cx.base out loc,cx.nb,upd tok t false,nt⟩ w->(∀sz es v,yH G w t sz es v->RVd w.cell? G'.ps (.sl sz es) v) ->
   ∃G',cS cx.n cx.nb G' ⟨tl l',lb cx.base out loc',upd tok t false,nt⟩ a w/\LeC cx G0 w0 G' w ⟨tl l',lb cx.base out loc',upd tok t false,nt⟩:=by
  intro G' g9 mu ll hd;have hto:∀x y v,aDR t x y->RV G w x v->RV G' w y v:=fun x y v h hr=>by
   cases h with
   | bot=>exact .bot
   | same=>exact hr.mono g9
   | stk=>exact .d (hd _ _ v (wg hr))
  refine⟨G',⟨hS.defers,hS.size,fun i=>hto _ _ _ (hl.at .bot i) (hS.tmps i),?_⟩,?_⟩
  .constructor
   case box =>
    intro k rows b z hk n5;simp only at hk;by_cases iv:k<cx.base
    .rw[lO iv] at hk;exact ll.box k rows b z (by simp only;rw[lO iv];exact hk) n5
    .have i4:k=cx.base+(k-cx.base):=by omega
     rw[i4,aN] at hk;rcases hb.at (k-cx.base) with ⟨_,h2⟩|⟨r0,r',h1,h2,h3⟩
     .rw[h2] at hk;cases hk
     .rw[h2] at hk;cases hk;obtain⟨_,cs,e,g2,g3,g4,g5⟩:=hm.box k r0 b z (by simp only;rw[i4,aN];exact h1) (by rw[<-mu];exact n5);obtain⟨g1,_⟩:=ll.box k r0 b z (by simp only;rw[i4,aN];exact h1) n5;refine⟨g1,cs,e,g2,fun q hq=>?_,⟨h3.flat.1.symm.trans g4.1,fun i h1 h2=>hto _ _ _ (h3.flat.2 i (by rw[h3.flat.1];exact h1) h1) (g4.2 i _ h2)⟩,g5⟩;obtain⟨i,hi,rfl⟩:=bi hq;have q9:i<r0.length:=by rw[h3.1];exact hi
      rw[<-(h3.2 i q9 hi).1];exact g3 _ (aa _)
   case nobox =>
    intro k hk;refine ll.nobox k ?_;simp only at hk ⊢;by_cases iv:k<cx.base
    .rw[lO iv] at hk ⊢;exact hk
    .have i4:k=cx.base+(k-cx.base):=by omega
     rw[i4,aN] at hk ⊢;rcases hb.at (k-cx.base) with ⟨h1,_⟩|⟨r0,r',_,h2,_⟩
     .exact h1
     .rw[h2] at hk;cases hk
   case inj=>exact ll.inj
   case nb =>
    intro k hk;have h0:=ll.nb k hk;simp only at h0 ⊢;by_cases iv:k<cx.base
    .rw[lO iv] at h0 ⊢;exact h0
    .have i4:k=cx.base+(k-cx.base):=by omega
     rw[i4,aN] at h0 ⊢;rcases hb.at (k-cx.base) with ⟨_,h2⟩|⟨r0,r',h1,_,_⟩
     .exact h2
     .rw[h1] at h0;cases h0
   case nt=>exact ll.nt
   case toks=>exact ll.toks
   case tokb=>exact ll.tokb
   case tinj=>exact ll.tinj
   case tnt=>exact ll.tnt
   case glob=>exact ll.glob
   case fresh=>exact ll.fresh
  .refine hL.step ⟨g9,fun k iv hg=>⟨by rw[mu];exact hg,?_⟩⟩;simp only;rw[lO iv,lO iv]
 cases x with
 | none =>
  refine fin (G.kill (.tok t)) ku rfl pa fun sz es v hv=>?_
  obtain⟨_,A,cap,rfl,iq,iu,jo⟩:=hv;have z6:cap=0:=jo _ hx
  have mc:es=[]:=bf (by omega)
  subst mc;exact .sl (es:=[]) (fun _ _=>default) (ai _) iu (by simp) (by simp) (fun a _ i j hi _=>by simp at hi) (fun i j hi _=>by simp at hi)
 | some g =>
  obtain⟨f,cur,e,ow,hg⟩:=hm.tokb t g hx;by_cases uv:G.kind g=.ex
  .have kf:=vM hm hx;have CP:=Le.reKind (G:=G.kill (.tok t)) (w:=w) .whole uv kf;refine fin ((G.kill (.tok t)).setKind g .whole) (ku.trans CP) rfl (pa.reKind .whole uv kf (bW hg)) fun sz es v hv=>?_
   obtain⟨_,A,cap,rfl,iq,iu,jo⟩:=hv;obtain⟨hA,vs,sp,e,h1,h2,h3,h4,h5⟩:=jo _ hx;refine RVd.of_flat iq iu ⟨h4.len,fun a ha q u hq=>?_,h4.one,fun _=>⟨_,hA⟩,h4.each,fun i j hi hj=>?_⟩
   .rw[hA] at ha;cases ha;rw[bK];refine⟨by simp[Gh.ps,Gh.setKind,uS],?_⟩;rw[ee w g _ _ e (0,0) h2,b6];simp only[dy];rw[bg (a8.1 hq).1];exact hq
   .obtain⟨u,hu,hr⟩:=h4.read i j hi hj;exact⟨u,hu,hr.mono (ku.trans CP).cells⟩
  .refine fin (G.kill (.tok t)) ku rfl pa fun sz es v hv=>?_
   obtain⟨_,A,cap,rfl,iq,iu,jo⟩:=hv;obtain⟨_,vs,sp,e,h1,_⟩:=jo _ hx;exact absurd h1 uv
def AV.sdT(t:Nat):AV->AV
 | .stk t' sz es=>if t'=t then .d (.sl sz es) else .stk t' sz es
 | x=>x
theorem aIs(t:Nat)(x:AV):aDR t x (x.sdT t):=by
 cases x with
 | stk t' sz es =>
  simp only[AV.sdT];split
  .rename_i h;subst h;exact .stk
  .exact .same
 | _=>exact .same
theorem aAL{R:AV->AV->Prop}{f:AV->AV}(h:∀x,R x (f x)):∀l:List (Nat × AV),CvL R l (l.map fun q=>(q.1,f q.2))
 | []=>trivial
 | (i,x)::l=>⟨rfl,h x,aAL h l⟩
theorem aBf{R:AV->AV->Prop}{f:AV->AV}(h:∀x,R x (f x)):∀l:List (Nat × List (List AV)),CvB R l (l.map fun q=>(q.1,q.2.map fun r=>r.map f))
 | []=>trivial
 | (i,x)::l=>⟨rfl,⟨by simp,fun i h1 h2=>⟨by simp,fun j g1 g2=>by simp only[bj];exact h _⟩⟩,aBf h l⟩
theorem AL.stkD{cx:Cx}{nt0 nt:Nat}{K:Exit->AS->Prop}{q:List CI}{x:Code}{l:List (Nat × AV)}{out:Bxs}{loc:List (Nat × List (List AV))}{tok:Nat->Bool}(t:Nat)(ht:tok t=true)(h:AL P cx nt0 K (.c x::q) ⟨tl (l.map fun q=>(q.1,q.2.sdT t)),lb cx.base out (loc.map fun q=>(q.1,q.2.map fun r=>r.map (AV.sdT t))),upd tok t false,nt⟩):AL P cx nt0 K (.c x::q) ⟨tl l,lb cx.base out loc,tok,nt⟩ :=
 AL.trans (iW.stkD t ht (aAL (aIs t) l) (aBf (aIs t) loc)) h
variable {P:Program}
theorem cL.rvs{G:Gh}{w:World}{sz:Nat}:∀{es:List (List D)} {vs:List Value},cL w.cell? G.ps sz es vs->RVs G w (es.flatten.map AV.d) vs
 | [],vs,h=>by
  have hv:vs=[]:=bf (by simpa using h.len)
  subst hv;exact⟨rfl,fun i h=>by simp at h⟩
 | e::es,vs,h=>by
  have he:e.length=sz:=h.each e (by simp)
  have hl:=h.len;rw[ce,cb] at hl;have h1:cL w.cell? G.ps sz es (vs.drop sz):=by
   refine⟨by rw[d6];omega,fun u hu=>h.one u (co hu),fun q hq=>h.each q (by simp[hq]),fun i j hi hj=>?_⟩;obtain⟨u,hu,hr⟩:=h.read (i+1) j (by simpa using hi) (by simpa using hj);refine⟨u,?_,by simpa using hr⟩;rw[gc,<-hu];congr 1
   rw[cb];omega
  have ih:=cL.rvs h1;have h2:RVs G w (e.map AV.d) (vs.take sz):=by
   refine⟨by rw[br,cf];omega,fun j g1 g2=>?_⟩;have hj:j<e.length:=by simpa using g1
   obtain⟨u,hu,hr⟩:=h.read 0 j (by simp) (by simpa using hj);simp only[bj,ez];obtain⟨hlt,rfl⟩:=a8.1 hu;simp only[Nat.zero_mul,b6] at hr ⊢;exact .d (by simpa using hr)
  have:=h2.append ih
  rw[cc] at this;simpa using this
inductive tU (t k sz:Nat) (es:List (List D)):AV->AV->Prop
 | bot {x}:tU t k sz es x .bot
 | same {x}:tU t k sz es x x
 | stk:tU t k sz es (.stk t sz es) (.msl k 0 es.length sz)
theorem AT.thawS{cx:Cx}{nt0 nt:Nat}{c:Code}{K:Exit->AS->Prop}{l l':List (Nat × AV)}{out:Bxs}{loc loc':List (Nat × List (List AV))}{tok:Nat->Bool}(t s sz:Nat)(es:List (List D))(r:Nat)(hn:cx.nb=cx.base+cx.n)(hs:s<cx.n)(hk:lk loc s=none)(ht:tok t=true)(hne:es≠[])(hr:tl l r=.stk t sz es)(hl:CvL (tU t (cx.base+s) sz es) l l')(hb:CvB (tU t (cx.base+s) sz es) loc loc')(h:∀m,AT P cx nt0 c ⟨tl l',lb cx.base out ((s,cG es++List.replicate m (List.replicate sz .bot))::loc'),upd tok t false,nt⟩ K):AT P cx nt0 c ⟨tl l,lb cx.base out loc,tok,nt⟩ K:=by
 intro G0 w0 qg ox G a w hS hL;have hm:=hS.mem;obtain⟨hlt,x,hx⟩:=hm.toks t ht;have wg:∀{v:Value},RV G w (.stk t sz es) v->yH G w t sz es v:=fun h=>by cases h with|stk h=>exact h
 have pr:=hS.tmps r;simp only at pr;rw[hr] at pr;obtain⟨_,A,cap,hv,iq,iu,jo⟩:=wg pr;have jo:=jo x hx;cases x with
 | none =>
  have z6:cap=0:=jo
  exact absurd (bf (by omega)) hne
 | some g =>
  obtain⟨hA,vs,sp,e,ow,j9,hlen,hf,px⟩:=jo;have uo:lb cx.base out loc (cx.base+s)=none:=by rw[aN];exact hk
  have ti:G.bx (cx.base+s)=none:=hm.nobox _ uo
  have j5:∀{k b z},G.bx k=some (b,z)->b≠g:=fun h e=>by
   have:=(hm.blt h).2
   rw[e,ow] at this;cases this
  have pa:=hm.kill (.tok t);have kf:=vM hm hx;have sj:=pa.reKind .box ow kf (bW j9)
  let G1:Gh:=(G.kill (.tok t)).setKind g .box
  let G':Gh:={ G1 with bx:=upd G.bx (cx.base+s) (some (g,sz)) }
  have pu:Le G w G1 w:=(Le.kill (.tok t)).trans (Le.reKind .box ow kf)
  have zv:Le G1 w G' w:=⟨rfl,rfl,rfl,nr0 _,fun _ _ h=>⟨h,rfl⟩,fun _ f _ h=>⟨⟨f,nr0 _,h⟩,fun _ _ _=>rfl⟩,fun k x hk=>by
   simp only[G'];rw[uO _ _ (fun e=>by
    have hk:G.bx k=some x:=hk
    rw[e,ti] at hk;cases hk)]
   exact hk,nr0 _,fun t _=>.inr ⟨rfl,fun _ _=>⟨rfl,fun _=>rfl⟩⟩,fun _ cs T f h=>⟨cs,f,h⟩⟩
  have g9:=pu.trans zv;have hto:∀x y v,tU t (cx.base+s) sz es x y->RV G w x v->RV G' w y v:=fun x y v h hr=>by
   cases h with
   | bot=>exact .bot
   | same=>exact hr.mono g9
   | stk =>
    obtain⟨_,A',cap',rfl,hc1,w7,h2⟩:=wg hr;obtain⟨si,_⟩:=h2 _ hx;subst si;have:=RV.msl (G:=G') (w:=w) (k:=cx.base+s) (off:=0) (n:=es.length) (b:=g) (sz:=sz) (cap:=cap') (by simp[G',uS]) hc1 w7
    simpa using this
  have mf:=hf.mono g9.cells
  have py:=hf.len;obtain⟨m,qa⟩:∃m,cap=es.length+m:=⟨cap-es.length,by omega⟩
  have Ce:sp.length=m*sz:=by
   rw[am,py,qa,cb] at hlen;omega
  refine h m G0 w0 qg ox G' a w ⟨hS.defers,hS.size,fun i=>hto _ _ _ (hl.at .bot i) (hS.tmps i),?_⟩ ?_
  .constructor
   case box =>
    intro k rows b z jl hb';by_cases e1:k=cx.base+s
    .subst e1;simp only[aN,cB,↓reduceIte,ad] at jl;simp only[G',uS,ad,aq] at hb';obtain⟨rfl,rfl⟩:=hb';subst jl;refine⟨by simp[G',G1,Gh.setKind,uS],_,e,j9,fun q hq=>?_,?_,fun v hv=>?_⟩
     .rcases ap.1 hq with hq|hq
      .obtain⟨p,hp,rfl⟩:=bc.1 hq;simpa using hf.each p hp
      .rw[ci hq];simp
     .rw[fx,vR];have h2:RVs G' w (List.replicate m (List.replicate sz AV.bot)).flatten sp:=by
       refine⟨by rw[Ce];simp[List.length_flatten],fun i g1 g2=>?_⟩;have i5:(List.replicate m (List.replicate sz AV.bot)).flatten[i]∈(List.replicate m (List.replicate sz AV.bot)).flatten:=aa _
       obtain⟨q,hq,CQ⟩:=f8.1 i5;rw[ci hq] at CQ;rw[ci CQ];exact .bot
      simpa using mf.rvs.append h2
     .have hv:v∈vs++sp:=by simpa using hv
      rcases ap.1 hv with hv|hv
      .exact hf.one v hv
      .exact px v hv
    .simp only[G'] at hb';rw[uO _ _ e1] at hb';have Cf:∃rows0,lb cx.base out loc k=some rows0/\(rows0=rows∨aDE (tU t (cx.base+s) sz es) rows0 rows):=by
      by_cases iv:k<cx.base
      .refine⟨rows,?_,.inl rfl⟩;simp only at jl;rw[lO iv] at jl ⊢;exact jl
      .have i4:k=cx.base+(k-cx.base):=by omega
       simp only at jl;rw[i4,aN] at jl ⊢;rw[cB,ac (by omega)] at jl;rcases hb.at (k-cx.base) with ⟨_,h2⟩|⟨r0,r',h1,h2,h3⟩
       .rw[h2] at jl;cases jl
       .rw[h2] at jl;cases jl
        exact⟨r0,h1,.inr h3⟩
     obtain⟨rows0,h1,h2⟩:=Cf;obtain⟨g1,cs',e',g2,g3,g4,g5⟩:=hm.box k rows0 b z h1 hb';refine⟨by simp only[G',G1,Gh.setKind];rw[uO _ _ (j5 hb')];exact g1,cs',e',g2,?_,?_,g5⟩
     .rcases h2 with rfl|h2
      .exact g3
      .intro q hq;obtain⟨i,hi,rfl⟩:=bi hq;have q9:i<rows0.length:=by rw[h2.1];exact hi
       rw[<-(h2.2 i q9 hi).1];exact g3 _ (aa _)
     .rcases h2 with rfl|h2
      .exact g4.mono g9
      .exact⟨h2.flat.1.symm.trans g4.1,fun i k1 k2=>hto _ _ _ (h2.flat.2 i (by rw[h2.flat.1];exact k1) k1) (g4.2 i _ k2)⟩
   case nobox =>
    intro k jl;have hne:k≠cx.base+s:=fun e=>by subst e;simp[aN,cB] at jl
    simp only[G'];rw[uO _ _ hne];refine hm.nobox k ?_;simp only at jl ⊢;by_cases iv:k<cx.base
    .rw[lO iv] at jl ⊢;exact jl
    .have i4:k=cx.base+(k-cx.base):=by omega
     rw[i4,aN] at jl ⊢;rw[cB,ac (by omega)] at jl;rcases hb.at (k-cx.base) with ⟨h1,_⟩|⟨r0,r',_,h2,_⟩
     .exact h1
     .rw[h2] at jl;cases jl
   case inj =>
    intro j j' b z z' hj mh;simp only[G'] at hj mh;by_cases e1:j=cx.base+s<;>by_cases e2:j'=cx.base+s
    .exact e1.trans e2.symm
    .subst e1;rw[uS] at hj;rw[uO _ _ e2] at mh;cases hj;exact absurd rfl (j5 mh)
    .subst e2;rw[uS] at mh;rw[uO _ _ e1] at hj;cases mh
     exact absurd rfl (j5 hj)
    .rw[uO _ _ e1] at hj;rw[uO _ _ e2] at mh;exact hm.inj j j' b z z' hj mh
   case nb =>
    intro k jl;have h0:=hm.nb k jl;simp only at h0 ⊢;have iv:¬k<cx.base:=by simp only at jl;omega
    have i4:k=cx.base+(k-cx.base):=by omega
    rw[i4,aN] at h0 ⊢;rw[cB,ac (by simp only at jl;omega)];rcases hb.at (k-cx.base) with ⟨_,h2⟩|⟨r0,r',h1,_,_⟩
    .exact h2
    .rw[h1] at h0;cases h0
   case nt=>exact sj.nt
   case toks=>exact sj.toks
   case tokb=>exact sj.tokb
   case tinj=>exact sj.tinj
   case tnt=>exact sj.tnt
   case glob=>exact hm.glob.mono g9.cells
   case fresh=>exact sj.fresh
  .refine hL.step ⟨g9,fun k iv hg=>⟨?_,?_⟩⟩
   .simp only[G'];rw[uO _ _ (by omega)];exact hg
   .simp only;rw[lO iv,lO iv]
theorem AL.thawS{cx:Cx}{nt0 nt:Nat}{K:Exit->AS->Prop}{q:List CI}{x:Code}{l l':List (Nat × AV)}{out:Bxs}{loc loc':List (Nat × List (List AV))}{tok:Nat->Bool}(t s sz:Nat)(es:List (List D))(r:Nat)(hn:cx.nb=cx.base+cx.n)(hs:s<cx.n)(hk:lk loc s=none)(ht:tok t=true)(hne:es≠[])(hr:tl l r=.stk t sz es)(hl:CvL (tU t (cx.base+s) sz es) l l')(hb:CvB (tU t (cx.base+s) sz es) loc loc')(h:∀m,AL P cx nt0 K (.c x::q) ⟨tl l',lb cx.base out ((s,cG es++List.replicate m (List.replicate sz .bot))::loc'),upd tok t false,nt⟩):AL P cx nt0 K (.c x::q) ⟨tl l,lb cx.base out loc,tok,nt⟩:=by
 simp only[AL] at h ⊢;exact AT.thawS t s sz es r hn hs hk ht hne hr hl hb h
section
variable {t k sz:Nat} {es:List (List D)}
@[simp] theorem aPr(x:AV):tU t k sz es x .bot:=.bot
@[simp] theorem aNi(x:AV):tU t k sz es x x:=.same
@[simp] theorem aNT{n:Nat}:tU t k sz es (.stk t sz es) (.msl k 0 n sz)↔n=es.length:=⟨fun h=>by cases h;rfl,fun h=>by subst h;exact .stk⟩
end
variable {P:Program}
theorem cL.of_rvs{G:Gh}{w:World}{sz:Nat}:∀{es:List (List D)} {vs:List Value},(∀e∈es,e.length=sz)->RVs G w (es.flatten.map AV.d) vs->(∀v∈vs,v.oneCell'=true)->cL w.cell? G.ps sz es vs
 | [],vs,_,h,_=>by
  have hv:vs=[]:=bf (by have:=h.1;simpa using this.symm)
  subst hv;exact cL.none_ _ _ _
 | e::es,vs,hs,h,h1=>by
  have he:=hs e (by simp);rw[ck,cw] at h;have hl:=h.1;rw[am,br,br] at hl;have ha:=h.take e.length;have hb:=h.drop e.length;rw[c6 (by simp),ak (by simp)] at ha;rw[List.drop_append,List.drop_of_length_le (by simp),gg,br,Nat.sub_self,List.drop_zero] at hb;have f1:cL w.cell? G.ps sz [e] (vs.take e.length):=by
   refine⟨by rw[cf];simp;omega,fun u hu=>h1 u (bq hu),fun q hq=>by simp at hq;rw[hq];exact he,fun i j hi hj=>?_⟩;have q9:i=0:=by simp at hi;omega
   subst q9;simp only[cg] at hj ⊢;have ya:j<(vs.take e.length).length:=by rw[cf];omega
   have h3:=ha.2 j (by simpa using hj) ya;simp only[bj] at h3;refine⟨(vs.take e.length)[j],by rw[Nat.zero_mul,b6];exact ab ya,?_⟩;cases h3 with
   | d h4=>exact h4
  have f2:=cL.of_rvs (fun q hq=>hs q (by simp[hq])) hb (fun v hv=>h1 v (co hv));have:=f1.append f2
  rw[cc] at this;exact this
inductive tX (k sz:Nat) (es:List (List D)):AV->AV->Prop
 | bot {x}:tX k sz es x .bot
 | same {x} (h:bD (· ≠ k) (fun _=>True) x):tX k sz es x x
 | msl:tX k sz es (.msl k 0 es.length sz) (.d (.sl sz es))
theorem iW.sealD{cx:Cx}{nt0 nt:Nat}{l l':List (Nat × AV)}{out:Bxs}{loc loc':List (Nat × List (List AV))}{tok:Nat->Bool}(s sz:Nat)(es:List (List D))(rest:List (List AV))(r:Nat)(ho:out=cx.B0)(hsz:∀e∈es,e.length=sz)(hr:tl l r=.msl (cx.base+s) 0 es.length sz)(jl:lk loc' s=none)(hl:CvL (tX (cx.base+s) sz es) l l')(hb:CvB (tX (cx.base+s) sz es) loc loc'):
  iW cx nt0 ⟨tl l,lb cx.base out ((s,cG es++rest)::loc),tok,nt⟩ ⟨tl l',lb cx.base out loc',tok,nt⟩:=by
 intro G0 w0 G a w he u7 hS hL;have hm:=hS.mem;have qr:G.nt=nt:=hm.nt
 have pr:=hS.tmps r;simp only at pr;rw[hr] at pr;obtain⟨b,n5⟩:∃b,G.bx (cx.base+s)=some (b,sz):=by
  generalize hq:(AV.msl (cx.base+s) 0 es.length sz)=q at pr;generalize a.tmps.getD r undef=v0 at pr;cases pr with
  | msl h1 h2 h3=>cases hq;exact⟨_,h1⟩
  | _=>cases hq
 have uo:lb cx.base out ((s,cG es++rest)::loc) (cx.base+s)=some (cG es++rest):=by rw[aN,cB,af rfl]
 obtain⟨sf,cs,e,j9,ud,hR,jc⟩:=hm.box _ _ b sz uo n5
 let G1:Gh:={ bx:=G.bx,kind:=upd G.kind b .whole,tk:=G.tk,nt:=G.nt }
 let G':Gh:={ bx:=upd G.bx (cx.base+s) none,kind:=upd G.kind b .whole,tk:=G.tk,nt:=G.nt }
 have hne:∀{q j},G.tk q=some (some j)->j≠b:=fun h e=>by
  obtain⟨f,cur,e',h1,_⟩:=hm.tokb _ _ h;rw[e,sf] at h1;rcases h1 with ⟨h1,_⟩|h1<;>cases h1
 have g9:Le G w G1 w:=by
  refine⟨rfl,rfl,rfl,nr0 _,fun b' _ hb'=>⟨?_,rfl⟩,fun b' f c hb'=>⟨⟨f,nr0 _,?_⟩,fun _ _ _=>rfl⟩,fun k x hk=>hk,nr0 _,fun q hq=>?_,fun _ _ _ _ h=>⟨_,_,h⟩⟩
  .simp only[G1];rw[uO _ _ (fun e=>by rw[e,sf] at hb';cases hb')];exact hb'
  .simp only[G1];rw[uO _ _ (fun e=>by rw[e,sf] at hb';cases hb')];exact hb'
  .refine .inr ⟨rfl,fun j hj=>⟨?_,fun _=>rfl⟩⟩;simp only[G1];exact uO _ _ (hne hj)
 have pm:∀(q:Addr) (u:Value),G.ps q->w.cell? q=some u->G'.ps q/\w.cell? q=some u:=fun q u h1 h2=>g9.cells q u h1 h2
 -- what does not speak of the box
 have gt:∀{x:AV} {v:Value},bD (· ≠ cx.base+s) (fun _=>True) x->RV G w x v->RV G' w x v:=by
  intro x v hx h;have h1:=h.mono g9;clear h;induction h1 with
  | bot=>exact .bot
  | d h2=>exact .d h2
  | osl h2 h3=>exact .osl h2 h3
  | ptr h2=>cases hx with|ptr hp=>exact .ptr (by simp only[G'];rw[uO _ _ hp];exact h2)
  | buf h2 h3 h4 h5=>exact .buf h2 h3 h4 h5
  | here h2 h3=>cases hx with|here hp=>exact .here (by simp only[G'];rw[uO _ _ hp];exact h2) h3
  | cptr q u hc hr=>exact .cptr q u hc hr
  | msl h2 h3 h4=>cases hx with|msl hp=>exact .msl (by simp only[G'];rw[uO _ _ hp];exact h2) h3 h4
  | fn hl _ ih=>cases hx with|fn hp=>exact .fn hl fun i h1 h2=>ih i h1 h2 (hp _ (aa h1))
  | agg hl _ jc ih=>cases hx with|agg hp=>exact .agg hl (fun i h1 h2=>ih i h1 h2 (hp _ (aa h1))) jc
  | tup hl _ ih=>cases hx with|tup hp=>exact .tup hl fun i h1 h2=>ih i h1 h2 (hp _ (aa h1))
  | ex h2=>exact .ex h2
  | stk h2=>exact .stk h2
  | que h2 h3=>exact .que h2 h3
  | mp h2=>exact .mp h2
  | mpd h2=>exact .mpd h2
 have hto:∀x y v,tX (cx.base+s) sz es x y->RV G w x v->RV G' w y v:=by
  intro x y v AH h;cases AH with
  | bot=>exact .bot
  | same h1=>exact gt h1 h
  | msl =>
   generalize hq:(AV.msl (cx.base+s) 0 es.length sz)=q at h;cases h with
   | msl h1 h2 h3 =>
    cases hq;rw[n5] at h1;cases h1;rw[fx,vR] at hR;have CR:=hR.take (es.flatten.map AV.d).length;rw[c6 (nr0 _),bh] at CR;have qw:=cL.of_rvs hsz CR (fun v hv=>jc v (bq hv));refine .d (RVd.of_flat h2 h3 ⟨qw.len,fun a ha q u hq=>?_,qw.one,fun _=>⟨_,rfl⟩,qw.each,fun i j hi hj=>?_⟩)
    .cases ha;rw[bK];refine⟨by simp[Gh.ps,G',uS],?_⟩;rw[ee w b _ _ e (0,0) j9];obtain⟨hlt,rfl⟩:=a8.1 hq;rw[ez];have hl2:q<cs.size:=by rw[cf] at hlt;simp at hlt;omega
     have e0:0*sz+q=q:=by omega
     rw[e0];simp[hl2]
    .obtain⟨u,hu,hr⟩:=qw.read i j hi hj;exact⟨u,hu,hr.mono pm⟩
   | _=>cases hq
 have Cg:∀{xs ys:List AV} {vs:List Value},CvR (tX (cx.base+s) sz es) xs ys->RVs G w xs vs->RVs G' w ys vs:=fun h hr=>⟨h.1.symm.trans hr.1,fun i h1 h2=>hto _ _ _ (h.2 i (by rw[h.1];exact h1) h1) (hr.2 i _ h2)⟩
 refine⟨G',⟨hS.defers,hS.size,fun i=>hto _ _ _ (hl.at .bot i) (hS.tmps i),?_⟩,?_,?_⟩
 .constructor
  case box =>
   intro k rows b' z hk hb';have e1:k≠cx.base+s:=fun e=>by
    subst e;simp only at hk;rw[aN,jl] at hk;cases hk
   simp only[G'] at hb';rw[uO _ _ e1] at hb';have AI:b'≠b:=fun e=>by subst e;exact e1 (hm.inj _ _ _ _ _ hb' n5)
   by_cases iv:k<cx.base
   .simp only at hk;rw[lO iv] at hk;obtain⟨g1,cs',e',g2,g3,g4,g5⟩:=hm.box k rows b' z (by simp only;rw[lO iv];exact hk) hb';refine⟨by simp only[G'];rw[uO _ _ AI];exact g1,cs',e',g2,g3,⟨g4.1,fun i h1 h2=>?_⟩,g5⟩;have i5:rows.flatten[i]∈rows.flatten:=aa _
    obtain⟨q,hq,DG⟩:=f8.1 i5;have ub:G0.bx k≠none:=by rw[<-hL.1.bx k iv,hb'];simp
    have:=he k rows iv (by rw[<-ho];exact hk) ub q hq _ DG
    exact gt (this.imp (fun j hj=>by omega) fun _ _=>trivial) (g4.2 i h1 h2)
   .have i4:k=cx.base+(k-cx.base):=by omega
    simp only at hk;rw[i4,aN] at hk;rcases hb.at (k-cx.base) with ⟨_,h2⟩|⟨r0,r',h1,h2,h3⟩
    .rw[h2] at hk;cases hk
    .rw[h2] at hk;cases hk;obtain⟨g1,cs',e',g2,g3,g4,g5⟩:=hm.box k r0 b' z (by simp only;rw[i4,aN,cB,ac (by omega)];exact h1) hb';refine⟨by simp only[G'];rw[uO _ _ AI];exact g1,cs',e',g2,fun q hq=>?_,Cg h3.flat g4,g5⟩;obtain⟨i,hi,rfl⟩:=bi hq;have q9:i<r0.length:=by rw[h3.1];exact hi
     rw[<-(h3.2 i q9 hi).1];exact g3 _ (aa _)
  case nobox =>
   intro k hk;simp only[G'];by_cases e1:k=cx.base+s
   .subst e1;simp[uS]
   .rw[uO _ _ e1];refine hm.nobox k ?_;simp only at hk ⊢;by_cases iv:k<cx.base
    .rw[lO iv] at hk ⊢;exact hk
    .have i4:k=cx.base+(k-cx.base):=by omega
     rw[i4,aN] at hk ⊢;rw[cB,ac (by omega)];rcases hb.at (k-cx.base) with ⟨h1,_⟩|⟨r0,r',_,h2,_⟩
     .exact h1
     .rw[h2] at hk;cases hk
  case inj =>
   intro j j' b' z z' hj mh;simp only[G'] at hj mh;by_cases e1:j=cx.base+s
   .subst e1;simp[uS] at hj
   .by_cases e2:j'=cx.base+s
    .subst e2;simp[uS] at mh
    .rw[uO _ _ e1] at hj;rw[uO _ _ e2] at mh;exact hm.inj j j' b' z z' hj mh
  case nb =>
   intro k hk;have h0:=hm.nb k hk;simp only at h0 ⊢;by_cases iv:k<cx.base
   .rw[lO iv] at h0 ⊢;exact h0
   .have i4:k=cx.base+(k-cx.base):=by omega
    rw[i4,aN] at h0 ⊢;by_cases e1:k-cx.base=s
    .rw[e1];exact jl
    .rw[cB,ac e1] at h0;rcases hb.at (k-cx.base) with ⟨_,h2⟩|⟨r0,r',h1,_,_⟩
     .exact h2
     .rw[h1] at h0;cases h0
  case nt=>exact hm.nt
  case toks=>exact hm.toks
  case tokb =>
   intro q j hq;obtain⟨f,cur,e',g1,g2⟩:=hm.tokb q j hq;refine⟨f,cur,e',?_,g2⟩;simp only[G'];rw[uO _ _ (hne hq)];exact g1
  case tinj=>exact hm.tinj
  case tnt=>exact hm.tnt
  case glob=>exact hm.glob.mono pm
  case fresh =>
   intro b' hb';have:=bW j9
   simp only[G'];rw[uO _ _ (by omega)];exact hm.fresh b' hb'
 .refine hL.1.trans ⟨rfl,rfl,rfl,nr0 _,g9.whole,g9.part,fun k hk=>?_,g9.nt,g9.tk,g9.ty⟩;simp only[G'];exact uO _ _ (by omega)
 .intro k iv hg;have:=hL.2 k iv hg
  simp only at this ⊢;rw[lO iv] at this ⊢;exact this
section
variable {k sz:Nat} {es:List (List D)}
@[simp] theorem aPK(x:AV):tX k sz es x .bot:=.bot
@[simp] theorem aRP(x:D):tX k sz es (.d x) (.d x):=.same .d
@[simp] theorem aOa(n:Nat)(xs:List (List D))(o:Own):tX k sz es (.osl n xs o) (.osl n xs o):=.same (.osl fun _ _=>trivial)
@[simp] theorem aOc:tX k sz es (.msl k 0 es.length sz) (.d (.sl sz es)):=.msl
end
def kA(ok:List Int->Nat->Bool)(m:Nat):Nat->List Int->List (List Int)
 | 0,L=>[L]
 | r+1,L=>(List.range m).flatMap fun k=>if ok L k=true then kA ok m r (L++[(k:Int)]) else []
theorem aI1{α:Type}(n:Nat)(a b:List α):((a.take n)++b).take n=(a++b).take n:=by
 by_cases h:a.length<=n
 .rw[ak h]
 .rw[c6 (by simp;omega),c6 (by omega),List.take_take,Nat.min_self]
theorem rY{α β:Type}(most:Nat)(g:List β->α->List β)(f:α->List β):∀(l:List α) (out:List β),(∀x∈l,∀out,out.length<=most->g out x=(out++f x).take most)->out.length<=most ->
  l.foldl g out=(out++l.flatMap f).take most
 | [],out,_,h=>by simp[ak h]
 | x::l,out,hg,h=>by
  rw[List.foldl_cons,hg x (by simp) out h,rY most g f l _ (fun y hy=>hg y (by simp[hy])) (by simp;omega),aI1,gj,cy]
theorem rZ{β:Type}{most:Nat}{out:List β}(h:out.length=most)(l:List β):(out++l).take most=out:=by
 rw[c6 (by omega),ak (by omega)]
def nZ(most:Nat)(ok:List Int->Nat->Bool)(m:Nat)(N:List Int):Nat->List Int->List Mo->List Mo
 | 0,E,out=>if out.length=most then out else out++[⟨N,E⟩]
 | r+1,E,out=>if out.length=most then out else (List.range m).foldl (fun out k=>if ok E k=true then nZ most ok m N r (E++[(k:Int)]) out else out) out
theorem aBd(most:Nat)(ok:List Int->Nat->Bool)(m:Nat)(N:List Int):∀(r:Nat) (E:List Int) (out:List Mo),out.length<=most->nZ most ok m N r E out=(out++(kA ok m r E).map (Mo.mk N)).take most
 | 0,E,out,h=>by
  unfold nZ;split
  .rename_i e;rw[rZ e]
  .rw[kA,de,dw,ak (by simp;omega)]
 | r+1,E,out,h=>by
  unfold nZ;split
  .rename_i e;rw[rZ e]
  .rw[rY most _ (fun k=>if ok E k=true then (kA ok m r (E++[(k:Int)])).map (Mo.mk N) else []) _ _ (fun k _ out ho=>by
    split
    .exact aBd most ok m N r _ out ho
    .rw[c9,ak ho]) h,kA,List.map_flatMap]
   refine fp (fun f=>(out++List.flatMap f (List.range m)).take most) (funext fun k=>?_);split<;>simp
def yK(most:Nat)(okN pos:List Int->Nat->Bool)(mn:Nat)(okE:List Int->List Int->Nat->Bool)(me re:Nat):Nat->List Int->List Mo->List Mo
 | 0,N,out=>nZ most (okE N) me N re [] out
 | r+1,N,out=>if out.length=most then out else (List.range mn).foldl (fun out k=>if okN N k=true then (if pos N k=true then yK most okN pos mn okE me re r (N++[(k:Int)]) out else out) else out) out
def sK(okN:List Int->Nat->Bool)(mn:Nat)(okE:List Int->List Int->Nat->Bool)(me re:Nat)(r:Nat)(N:List Int):List Mo:=(kA okN mn r N).flatMap fun N=>(kA (okE N) me re []).map (Mo.mk N)
theorem aGD(okN:List Int->Nat->Bool)(mn:Nat)(okE:List Int->List Int->Nat->Bool)(me re:Nat)(N:List Int):sK okN mn okE me re 0 N=(kA (okE N) me re []).map (Mo.mk N):=by simp[sK,kA]
theorem aGg(okN:List Int->Nat->Bool)(mn:Nat)(okE:List Int->List Int->Nat->Bool)(me re:Nat)(r:Nat)(N:List Int):
  sK okN mn okE me re (r+1) N=(List.range mn).flatMap fun k=>if okN N k=true then sK okN mn okE me re r (N++[(k:Int)]) else []:=by
 unfold sK;rw[kA,List.flatMap_assoc];congr 1
 funext k
 split<;>simp
theorem aBG(most:Nat)(okN pos:List Int->Nat->Bool)(mn:Nat)(okE:List Int->List Int->Nat->Bool)(me re:Nat)(P:List Int->Prop)(hP:∀N k,P N->k<mn->okN N k=true->P (N++[(k:Int)]))(kk:∀r N k,P N->okN N k=true->pos N k=false->sK okN mn okE me re r (N++[(k:Int)])=[]):∀(r:Nat) (N:List Int) (out:List Mo),P N->out.length<=most ->
  yK most okN pos mn okE me re r N out=(out++sK okN mn okE me re r N).take most
 | 0,N,out,hN,h=>by rw[yK,aBd _ _ _ _ _ _ _ h,aGD]
 | r+1,N,out,hN,h=>by
  rw[yK,aGg];split
  .rename_i e;rw[rZ e]
  .refine rY most _ _ _ _ (fun k hk out ho=>?_) h;have hk:=ba.1 hk;cases e:okN N k
   .simp[ak ho]
   .simp only[if_true];cases e2:pos N k
    .simp only[bt,if_false];rw[kk r N k hN e e2,c9,ak ho]
    .simp only[if_true];exact aBG most okN pos mn okE me re P hP kk r _ out (hP N k hN hk e) ho
theorem aC2{most:Nat}{ok:List Int->Nat->Bool}{m:Nat}{N:List Int}{r:Nat}{E:List Int}{out:List Mo}(h:out.length<=most):(nZ most ok m N r E out).length<=most:=by
 rw[aBd _ _ _ _ _ _ _ h];simp;omega
theorem iC{ok:List Int->Nat->Bool}{m:Nat}:∀{r:Nat} {L x:List Int},x∈kA ok m r L↔∃T:List Nat,T.length=r/\(∀k∈T,k<m)/\x=L++T.map (fun (k:Nat)=>(k:Int))/\∀i (h:i<T.length),ok (L++(T.take i).map (fun (k:Nat)=>(k:Int))) T[i]=true
 | 0,L,x=>by
  rw[kA,a7];constructor
  .rintro rfl;exact⟨[],rfl,by simp,by simp,fun i h=>by simp at h⟩
  .rintro⟨T,h1,_,h2,_⟩;have:T=[]:=bf h1
   subst this;simpa using h2
 | r+1,L,x=>by
  rw[kA,List.mem_flatMap];constructor
  .rintro⟨k,hk,hx⟩;split at hx
   .rename_i gt;obtain⟨T,h1,h2,rfl,h4⟩:=iC.1 hx;refine⟨k::T,by simp[h1],fun q hq=>?_,by simp,fun i hi=>?_⟩
    .rcases cj.1 hq with rfl|hq
     .exact ba.1 hk
     .exact h2 q hq
    .cases i with
     | zero=>simpa using gt
     | succ i =>
      have:=h4 i (by simpa using hi)
      simpa using this
   .simp at hx
  .rintro⟨T,h1,h2,rfl,h4⟩;cases T with
   | nil=>simp at h1
   | cons k T =>
    refine⟨k,ba.2 (h2 k (by simp)),?_⟩;have h0:=h4 0 (by simp);simp only[List.take_zero,dw,c9,cg] at h0;rw[af h0];refine iC.2 ⟨T,by simpa using h1,fun q hq=>h2 q (by simp[hq]),by simp,fun i hi=>?_⟩;have:=h4 (i+1) (by simpa using hi)
    simpa using this
structure Sr where
 t:Ty
 p:Gr
 g:Gr
 pt:Mo
 inj:Bool
 most:Nat
abbrev Sr.row(s:Sr)(out:List Mo)(own:Own):List AV:=[.d (nts s.t.nodes),.d (ets s.t.edges),.d (ints s.p.nodes),.d (AM.edges s.p.edges),.d (ints s.g.nodes),.d (AM.edges s.g.edges),.d (ints s.pt.nodes),.d (ints s.pt.edges),B s.inj,I s.most,.osl 2 (out.map fun m=>[ints m.nodes,ints m.edges]) own]
structure Sr.Ok (s:Sr):Prop where
 t:s.t.Fit
 tp:∀j,j<s.t.nodes.length->(s.t.nd j).par<j
 p:s.p.Fit
 g:s.g.Fit
 m:s.most<=1000000
 vp:∀e∈s.p.edges,0<=e.fr/\e.fr<s.p.nodes.length/\0<=e.to/\e.to<s.p.nodes.length
 pn:s.pt.nodes.length=s.p.nodes.length
 pe:s.pt.edges.length=s.p.edges.length
 np:∀n∈s.p.nodes,0<=n/\n<s.t.nodes.length
 ng:∀n∈s.g.nodes,0<=n/\n<s.t.nodes.length
def gvB(l:List Int)(i k:Nat):Bool:=if 0<=l.getD i 0 then decide (l.getD i 0=(k:Int)) else true
def usB(inj:Bool)(L:List Int)(k:Nat):Bool:=if inj=true then decide ((k:Int)∈L) else false
def Sr.okE(s:Sr)(N E:List Int)(k:Nat):Bool :=
 if gvB s.pt.edges E.length k=true then (if usB s.inj E k=true then false else decide (s.g.edges.getD k default=qM s.p N E.length)) else false
def Sr.okN(s:Sr)(N:List Int)(k:Nat):Bool :=
 if gvB s.pt.nodes N.length k=true then (if usB s.inj N k=true then false else isB s.t (s.g.nodes.getD k 0) (s.p.nodes.getD N.length 0)) else false
def Sr.eqE(s:Sr)(N:List Int)(i k:Nat):Bool:=decide (s.g.edges.getD k default=qM s.p N i)
def Sr.anE(s:Sr)(N:List Int)(i k:Nat):Bool:=(List.range k).any (s.eqE N i)
def Sr.fitE(s:Sr)(N:List Int)(i:Nat):Bool :=
 if (N.length:Int)<=(s.p.edges.getD i default).fr then true else if (N.length:Int)<=(s.p.edges.getD i default).to then true else s.anE N i s.g.edges.length
def Sr.fit(s:Sr)(N:List Int):Bool:=(List.range s.p.edges.length).all (s.fitE N)
theorem Sr.fit_true{s:Sr}{N:List Int}(h:∀i,i<s.p.edges.length->s.fitE N i=true):s.fit N=true:=by
 unfold Sr.fit;rw[ax];exact fun i hi=>h i (ba.1 hi)
def Sr.fnR(s:Sr):Nat->List Int->List Mo->List Mo
 | 0,N,out=>if out.length=s.most+1 then out else if s.fit N=true then nZ (s.most+1) (s.okE N) s.g.edges.length N s.p.edges.length [] out else out
 | r+1,N,out=>if out.length=s.most+1 then out else if s.fit N=true then (List.range s.g.nodes.length).foldl (fun out k=>if s.okN N k=true then s.fnR r (N++[(k:Int)]) out else out) out else out
abbrev Sr.fnN(s:Sr):Nat->List Int->List Mo->List Mo:=yK (s.most+1) s.okN (fun N k=>s.fit (N++[(k:Int)])) s.g.nodes.length s.okE s.g.edges.length s.p.edges.length
theorem Sr.fnR_eq(s:Sr):∀(r:Nat) (N:List Int) (out:List Mo),s.fnR r N out=if s.fit N=true then s.fnN r N out else out
 | 0,N,out=>by
  unfold Sr.fnR Sr.fnN yK;by_cases h:out.length=s.most+1
  .rw[af h];cases s.p.edges.length<;>simp[nZ,h]
  .rw[ac h]
 | r+1,N,out=>by
  unfold Sr.fnR Sr.fnN yK;by_cases h:out.length=s.most+1
  .rw[af h,af h];simp
  .rw[ac h,ac h];have e:(fun (out:List Mo) (k:Nat)=>if s.okN N k=true then s.fnR r (N++[(k:Int)]) out else out)=fun out k=>if s.okN N k=true then (if s.fit (N++[(k:Int)])=true then s.fnN r (N++[(k:Int)]) out else out) else out:=by
    funext out k
    rw[Sr.fnR_eq s r]
   rw[e]
variable {P:Program} {wr:Bool}
def aCE(t:Ty)(n:Int):Bool:=decide (0<=n/\n<t.nodes.length)
def aEs(t:Ty)(e:E):Bool:=decide (0<=e.ty/\e.ty<t.edges.length)
theorem wL{t:Ty}{l:List Int}{i:Nat}(h:i<l.length)(e:l[i]<0∨(t.nodes.length:Int)<=l[i]):l.all (aCE t)=false:=by
 rw[d8];exact⟨_,aa h,by simp[aCE];omega⟩
theorem vL{t:Ty}{l:List E}{i:Nat}(h:i<l.length)(e:l[i].ty<0∨(t.edges.length:Int)<=l[i].ty):l.all (aEs t)=false:=by
 rw[d8];exact⟨_,aa h,by simp[aEs];omega⟩
theorem aCa{α:Type}{p:α->Bool}{l:List α}{i:Nat}(h:i<l.length)(a:(l.take i).all p=true)(b:p l[i]=true):(l.take (i+1)).all p=true:=by
 rw[ah h,eo,a];simp[b]
def aPV(t:Ty)(g:Gr)(nb:Nat)(box:Bxs)(tok:Tks)(nt:Nat)(i:Nat):AS :=
 ⟨tl [(2,.ptr (nb+2) 0 0),(3,.ptr (nb+3) 0 0),(6,I i)],lb nb box [(2,[[.d (nts t.nodes),.d (ets t.edges)]]),(3,[[.d (ints g.nodes),.d (AM.edges g.edges)]])],tok,nt⟩
def oA(t:Ty)(g:Gr):Bool:=g.nodes.all (aCE t)&&g.edges.all (aEs t)
def aN8(t:Ty)(g:Gr)(nb:Nat)(box:Bxs)(tok:Tks)(nt:Nat)(i:Nat):AS :=
 ⟨tl [(2,.ptr (nb+2) 0 0),(3,.ptr (nb+3) 0 0),(5,I i)],lb nb box [(2,[[.d (nts t.nodes),.d (ets t.edges)]]),(3,[[.d (ints g.nodes),.d (AM.edges g.edges)]])],tok,nt⟩
theorem zP(t:Ty)(ht:t.Fit)(g:Gr)(hg:g.Fit):DC 109 [t.av,g.av] (B (oA t g)):=by
 intro tok nt box nb;obtain⟨R,hR⟩:∃R,oA t g=R:=⟨_,rfl⟩
 rw[hR];unfold oA at hR;have qb:=ht.n;have vv:=ht.e;have sc:=hg.n;have hge:=hg.e;refine sI func109 ntmps109 fun Hb Ht=>?_
 repeat first|simp|refine sR ?_
 apply sN;refine sL (aN8 t g nb box tok nt) (fun i=>i<=g.nodes.length/\(g.nodes.take i).all (aCE t)=true) (fun i=>g.nodes.length-i) 0 ⟨ai _,by simp⟩ wkA ?_;rintro i S' ⟨hi,gz⟩ hS;simp only[aN8] at hS;subst hS;have hw:=sW (i:=i) (by omega);by_cases hlt:i<g.nodes.length
 .by_cases z0:g.nodes[i]<0
  .rw[wL hlt (.inl z0),dc] at hR;try (simp[hlt,z0])
   repeat ((first|refine sR ?_|apply sC|apply sX);simp[hlt,z0])
   refine sT (sH ?_);simp[<-hR]
  .by_cases z1:(t.nodes.length:Int)<=g.nodes[i]
   .rw[wL hlt (.inr z1),dc] at hR;try (simp[hlt,z0,z1])
    repeat ((first|refine sR ?_|apply sC|apply sX);simp[hlt,z0,z1])
    refine sT (sH ?_);simp[<-hR]
   .try (simp[hlt,z0,z1,hw])
    repeat ((first|refine sR ?_|apply sC|apply sX);simp[hlt,z0,z1,hw])
    apply sE;exact⟨i+1,⟨hlt,ax.1 (aCa hlt gz (by simp[aCE];omega))⟩,by omega,wkA⟩
 .have:i=g.nodes.length:=by omega
  subst this;rw[bh] at gz;rw[gz,cq] at hR;try (simp)
  repeat ((first|refine sR ?_|apply sC|apply sX);simp)
  apply sN;refine sL (aPV t g nb box tok nt) (fun i=>i<=g.edges.length/\(g.edges.take i).all (aEs t)=true) (fun i=>g.edges.length-i) 0 ⟨ai _,by simp⟩ wkA ?_;rintro i S' ⟨hi,up⟩ hS;simp only[aPV] at hS;subst hS;have hw:=sW (i:=i) (by omega);by_cases hlt:i<g.edges.length
  .by_cases z0:g.edges[i].ty<0
   .rw[vL hlt (.inl z0)] at hR;try (simp[hlt,z0])
    repeat ((first|refine sR ?_|apply sC|apply sX);simp[hlt,z0])
    refine sT (sH ?_);simp[<-hR]
   .by_cases z1:(t.edges.length:Int)<=g.edges[i].ty
    .rw[vL hlt (.inr z1)] at hR;try (simp[hlt,z0,z1])
     repeat ((first|refine sR ?_|apply sC|apply sX);simp[hlt,z0,z1])
     refine sT (sH ?_);simp[<-hR]
    .try (simp[hlt,z0,z1,hw])
     repeat ((first|refine sR ?_|apply sC|apply sX);simp[hlt,z0,z1,hw])
     apply sE;exact⟨i+1,⟨hlt,ax.1 (aCa hlt up (by simp[aEs];omega))⟩,by omega,wkA⟩
  .have:i=g.edges.length:=by omega
   subst this;rw[bh] at up;rw[up] at hR;try (simp)
   repeat ((first|refine sR ?_|apply sC|apply sX);simp)
   refine sT (sH ?_);simp[<-hR]
def opM(p:Gr):Mo:=⟨List.replicate p.nodes.length (-1),List.replicate p.edges.length (-1)⟩
abbrev aJy(l:List Mo):List (List D):=l.map fun m=>[ints m.nodes,ints m.edges]
def kO(t:Ty)(p g:Gr):Int:=if tyE t≠0 then tyE t else if vG p≠0 then vG p else if vG g≠0 then vG g else if oA t p=false then 13 else if oA t g=false then 13 else 0
theorem aFW(t:Ty)(ht:t.Fit)(p g:Gr)(hp:p.Fit)(hg:g.Fit):DC 65 [t.av,p.av,g.av] (I (kO t p g)):=by
 intro tok nt box nb;have h1:=jV t ht ht.hM;have h2:=dS p hp;have h3:=dS g hg;have h4:=zP t ht p hp;have h5:=zP t ht g hg;obtain⟨R,hR⟩:∃R,kO t p g=R:=⟨_,rfl⟩
 rw[hR];unfold kO at hR;generalize tyE t=e1 at *;generalize tyN t=z1 at *;generalize vG p=e2 at *;generalize vG g=e3 at *;generalize oA t p=b1 at *;generalize oA t g=b2 at *;refine sI func65 ntmps65 fun Hb Ht=>?_
 repeat first|simp|refine sR ?_
 refine sD (h1 _ _) ?_;simp;by_cases c1:e1=0
 .try (simp[c1])
  repeat ((first|refine sR ?_|apply sC|apply sX);simp[c1])
  refine sD (h2 _ _) ?_;simp;by_cases c2:e2=0
  .try (simp[c2])
   repeat ((first|refine sR ?_|apply sC|apply sX);simp[c2])
   refine sD (h3 _ _) ?_;simp;by_cases c3:e3=0
   .try (simp[c3])
    repeat ((first|refine sR ?_|apply sC|apply sX);simp[c3])
    refine sD (h4 _ _) ?_;simp;rw[ac (by simp[c1]),ac (by simp[c2]),ac (by simp[c3])] at hR;cases b1
    .try (simp)
     repeat ((first|refine sR ?_|apply sC|apply sX);simp)
     refine sT (sH ?_);simp[<-hR]
    .try (simp)
     repeat ((first|refine sR ?_|apply sC|apply sX);simp)
     refine sD (h5 _ _) ?_;simp;cases b2
     .try (simp)
      repeat ((first|refine sR ?_|apply sC|apply sX);simp)
      refine sT (sH ?_);simp[<-hR]
     .try (simp)
      repeat ((first|refine sR ?_|apply sC|apply sX);simp)
      refine sT (sH ?_);simp[<-hR]
   .rw[ac (by simp[c1]),ac (by simp[c2]),af c3] at hR;try (simp[c3])
    repeat ((first|refine sR ?_|apply sC|apply sX);simp[c3])
    refine sT (sH ?_);simp[<-hR]
  .rw[ac (by simp[c1]),af c2] at hR;try (simp[c2])
   repeat ((first|refine sR ?_|apply sC|apply sX);simp[c2])
   refine sT (sH ?_);simp[<-hR]
 .rw[af c1] at hR;try (simp[c1])
  repeat ((first|refine sR ?_|apply sC|apply sX);simp[c1])
  refine sT (sH ?_);simp[<-hR]
def aE2(t:Ty)(p g:Gr)(inj:Bool):Sr:=⟨t,p,g,opM p,inj,5000⟩
theorem gB{t:Ty}{g:Gr}(h:oA t g=true):∀n∈g.nodes,0<=n/\n<t.nodes.length:=by
 unfold oA at h;rw[bd] at h;intro n hn;have:=ax.1 h.1 n hn
 simpa[aCE] using this
theorem nF{t:Ty}{p g:Gr}(h:kO t p g=0):tyE t=0/\vG p=0/\vG g=0/\oA t p=true/\oA t g=true:=by
 unfold kO at h;split at h
 .contradiction
 .split at h
  .contradiction
  .split at h
   .contradiction
   .split at h
    .simp at h
    .split at h
     .simp at h
     .rename_i a b c d e;exact⟨by simpa using a,by simpa using b,by simpa using c,by simpa using d,by simpa using e⟩
theorem aGZ{t:Ty}{p g:Gr}{inj:Bool}(ht:t.Fit)(hp:p.Fit)(hg:g.Fit)(h:kO t p g=0):(aE2 t p g inj).Ok:=by
 obtain⟨h1,h2,h3,h4,h5⟩:=nF h;exact⟨ht,jH h1,hp,hg,by simp[aE2],aD h2,by simp[aE2,opM],by simp[aE2,opM],gB h4,gB h5⟩
theorem yV{p:Gr}{N M:List Int}{i:Nat}(h1:(p.edges.getD i default).fr.toNat<N.length)(h2:(p.edges.getD i default).to.toNat<N.length):qM p (N++M) i=qM p N i:=by
 unfold qM;generalize p.edges.getD i default=e at *;rw[ao,ao,ao,ao,bg h1,bg h2]
theorem Sr.fit_dead{s:Sr}(h:s.Ok){N:List Int}(hf:s.fit N=false)(r:Nat):sK s.okN s.g.nodes.length s.okE s.g.edges.length s.p.edges.length r N=[]:=by
 rw[List.eq_nil_iff_forall_not_mem];intro m hm;unfold sK at hm;obtain⟨N',Ci,hm⟩:=List.mem_flatMap.1 hm;obtain⟨es,mc,rfl⟩:=bc.1 hm;obtain⟨T,t1,t2,rfl,t4⟩:=iC.1 Ci;obtain⟨U,u1,u2,rfl,u4⟩:=iC.1 mc;unfold Sr.fit at hf;obtain⟨i,hi,pk⟩:=d8.1 hf;have hi:=ba.1 hi;have pk:s.fitE N i=false:=by simpa using pk
 unfold Sr.fitE at pk;have pw:s.p.edges.getD i default=s.p.edges[i]:=by simp[hi]
 obtain⟨x1,x2,x3,x4⟩:=h.vp _ (aa hi);split at pk
 .cases pk
 .split at pk
  .cases pk
  .rename_i a b;rw[pw] at a b;have AJ:i<U.length:=by omega
   have hu:=u4 i AJ;have hk:=u2 _ (aa AJ);unfold Sr.anE at pk;have jq:=dz.1 pk U[i] (ba.2 hk);unfold Sr.eqE at jq;unfold Sr.okE at hu;split at hu
   .split at hu
    .cases hu
    .have hl:(([]:List Int)++(U.take i).map (fun (k:Nat)=>(k:Int))).length=i:=by simp;omega
     rw[hl,yV (by rw[pw];omega) (by rw[pw];omega)] at hu;exact jq hu
   .cases hu
theorem Sr.fit_nil{s:Sr}(h:s.Ok):s.fit []=true:=by
 refine Sr.fit_true fun i hi=>?_
 have pw:s.p.edges.getD i default=s.p.edges[i]:=by simp[hi]
 obtain⟨x1,x2,x3,x4⟩:=h.vp _ (aa hi);unfold Sr.fitE;rw[af (by rw[pw];simpa using x1)]
theorem Sr.fnR_all{s:Sr}(h:s.Ok):s.fnR s.p.nodes.length [] []=(sK s.okN s.g.nodes.length s.okE s.g.edges.length s.p.edges.length s.p.nodes.length []).take (s.most+1):=by
 rw[Sr.fnR_eq,af (Sr.fit_nil h)];have:=aBG (s.most+1) s.okN (fun N k=>s.fit (N++[(k:Int)])) s.g.nodes.length s.okE s.g.edges.length s.p.edges.length (fun _=>True) (fun _ _ _ _ _=>trivial) (fun r N k _ _ hp=>Sr.fit_dead h hp r) s.p.nodes.length [] [] trivial (by simp)
 simpa using this
def Sr.fitK(s:Sr)(N:List Int)(i k:Nat):Bool:=if gvB s.pt.edges i k=true then decide (s.g.edges.getD k default=qM s.p N i) else false
def Sr.posE(s:Sr)(N:List Int)(i:Nat):Bool :=
 if max (s.p.edges.getD i default).fr (s.p.edges.getD i default).to=(N.length:Int)-1 then (List.range s.g.edges.length).any (s.fitK N i) else true
def Sr.pos(s:Sr)(N:List Int):Bool:=(List.range s.p.edges.length).all (s.posE N)
theorem Sr.pos_false{s:Sr}{N:List Int}{i:Nat}(hi:i<s.p.edges.length)(h:s.posE N i=false):s.pos N=false:=by
 unfold Sr.pos;rw[d8];exact⟨i,ba.2 hi,by simp[h]⟩
theorem Sr.pos_true{s:Sr}{N:List Int}(h:∀i,i<s.p.edges.length->s.posE N i=true):s.pos N=true:=by
 unfold Sr.pos;rw[ax];exact fun i hi=>h i (ba.1 hi)
theorem Sr.okE_eq(s:Sr)(N E:List Int)(k:Nat):s.okE N E k=(s.fitK N E.length k&&!usB s.inj E k):=by
 unfold Sr.okE Sr.fitK;cases gvB s.pt.edges E.length k<;>cases usB s.inj E k<;>simp
theorem Sr.pos_dead{s:Sr}(h:s.Ok){N:List Int}(hf:s.pos N=false)(r:Nat):sK s.okN s.g.nodes.length s.okE s.g.edges.length s.p.edges.length r N=[]:=by
 rw[List.eq_nil_iff_forall_not_mem];intro m hm;unfold sK at hm;obtain⟨N',Ci,hm⟩:=List.mem_flatMap.1 hm;obtain⟨es,mc,rfl⟩:=bc.1 hm;obtain⟨T,t1,t2,rfl,t4⟩:=iC.1 Ci;obtain⟨U,u1,u2,rfl,u4⟩:=iC.1 mc;unfold Sr.pos at hf;obtain⟨i,hi,pk⟩:=d8.1 hf;have hi:=ba.1 hi;have pk:s.posE N i=false:=by simpa using pk
 unfold Sr.posE at pk;have pw:s.p.edges.getD i default=s.p.edges[i]:=by simp[hi]
 obtain⟨x1,x2,x3,x4⟩:=h.vp _ (aa hi);split at pk
 .rename_i rf;rw[pw] at rf;have AJ:i<U.length:=by omega
  have hu:=u4 i AJ;have hk:=u2 _ (aa AJ);have jq:=dz.1 pk U[i] (ba.2 hk);have hl:(([]:List Int)++(U.take i).map (fun (k:Nat)=>(k:Int))).length=i:=by simp;omega
  rw[Sr.okE_eq,hl] at hu;have hu:=(Bool.and_eq_true_iff.1 hu).1;unfold Sr.fitK at hu jq;rw[yV (by rw[pw];omega) (by rw[pw];omega)] at hu;exact jq hu
 .cases pk
abbrev Sr.fnP(s:Sr)(fm:Nat):Nat->List Int->List Mo->List Mo:=yK fm s.okN (fun N k=>s.pos (N++[(k:Int)])) s.g.nodes.length s.okE s.g.edges.length s.p.edges.length
theorem Sr.fnP_eq{s:Sr}(h:s.Ok)(fm r:Nat)(N:List Int)(out:List Mo)(ho:out.length<=fm):s.fnP fm r N out=(out++sK s.okN s.g.nodes.length s.okE s.g.edges.length s.p.edges.length r N).take fm :=
 aBG fm s.okN (fun N k=>s.pos (N++[(k:Int)])) s.g.nodes.length s.okE s.g.edges.length s.p.edges.length (fun _=>True) (fun _ _ _ _ _=>trivial) (fun r N k _ _ hp=>Sr.pos_dead h hp r) r N out trivial ho
theorem Sr.fnP_len{s:Sr}(h:s.Ok){fm r:Nat}{N:List Int}{out:List Mo}(ho:out.length<=fm):(s.fnP fm r N out).length<=fm:=by
 rw[Sr.fnP_eq h _ _ _ _ ho];simp;omega
theorem Sr.fnP_fnR{s:Sr}(h:s.Ok):s.fnP (s.most+1) s.p.nodes.length [] []=s.fnR s.p.nodes.length [] []:=by
 rw[Sr.fnR_all h,Sr.fnP_eq h _ _ _ _ (by simp)];simp
def gP(t:Ty)(a:Int)(i:Nat):List Int:=((List.range i).filter fun (b:Nat)=>isB t (b:Int) a).map fun (b:Nat)=>(b:Int)
theorem aGe(t:Ty)(a:Int):gP t a 0=[]:=rfl
theorem aGi(t:Ty)(a:Int)(i:Nat):gP t a (i+1)=if isB t i a=true then gP t a i++[(i:Int)] else gP t a i:=by
 unfold gP;rw[cu,dj,cw];by_cases h:isB t i a=true<;>simp[h]
theorem aCY(t:Ty)(a:Int)(i:Nat):(gP t a i).length<=i:=by
 unfold gP;rw[br];exact bz (di _ _) (by simp)
theorem xK{t:Ty}{a x:Int}{i:Nat}:x∈gP t a i↔∃b:Nat,b<i/\isB t b a=true/\x=b:=by
 simp only[gP,bc,b8,ba];constructor
 .rintro⟨b,⟨h1,h2⟩,rfl⟩;exact⟨b,h1,h2,rfl⟩
 .rintro⟨b,h1,h2,rfl⟩;exact⟨b,⟨h1,h2⟩,rfl⟩
theorem aDT(t:Ty)(a:Int)(i:Nat):(gP t a i).Nodup:=by
 refine List.Pairwise.map _ (fun x y h=>?_) (List.nodup_range.filter _);omega
theorem zN{ps:List Int}{n:Nat}(hp:∀j,j<n->ps.getD j 0<j):∀(m:Nat) (b:Int),b<m->b<n->∀x∈upI ps b,x=b∨∃j:Nat,j<n/\ps.getD j 0=x
 | 0,b,hm,_,x,hx=>by
  rw[qA (by omega)] at hx;simp at hx
 | m+1,b,hm,hb,x,hx=>by
  by_cases h0:0<=b
  .have h1:=hp b.toNat (by omega);have tx:ps.getD b.toNat 0<b:=by omega
   rw[wB h0 tx] at hx;rcases cj.1 hx with hx|hx
   .exact .inl hx
   .rcases zN hp m _ (by omega) (by omega) x hx with h|h
    .exact .inr ⟨b.toNat,by omega,h.symm⟩
    .exact .inr h
  .rw[qA (by omega)] at hx;simp at hx
theorem aH0{t:Ty}{a:Int}(h0:0<=a)(ha:a<t.nodes.length)(hp:∀j,j<t.nodes.length->(t.nd j).par<j):isB t a a=true:=by
 have h1:=hp a.toNat (by omega);rw[<-fB t (by omega)] at h1;unfold isB;rw[wB h0 (by omega)];simp
theorem aEc{t:Ty}{a:Int}(h0:0<=a)(ha:a<t.nodes.length)(hp:∀j,j<t.nodes.length->(t.nd j).par<j):(gP t a t.nodes.length).length<=1↔eF t a=true:=by
 have CS:∀j,j<t.nodes.length->t.pars.getD j 0<j:=fun j hj=>by rw[fB t hj];exact hp j hj
 have iw:=aH0 h0 ha hp;have sj:a∈gP t a t.nodes.length:=xK.2 ⟨a.toNat,by omega,by rw[fh h0];exact iw,by omega⟩
 constructor
 .intro hl;cases hb:eF t a with
  | true=>rfl
  | false =>
   exfalso
   unfold eF bA at hb;rw[Bool.not_eq_false'] at hb;obtain⟨n,hn,uk⟩:=dv.1 hb;obtain⟨j,hj,rfl⟩:=bi hn;have An:t.pars.getD j 0=a:=by
    rw[fB t hj,iJ hj];simpa using uk
   have hlt:=CS j hj;have DH:(j:Int)∈gP t a t.nodes.length:=xK.2 ⟨j,hj,by
    unfold isB;rw[wB (by omega) (by rw[bv];omega),bv,An];have:a∈upI t.pars a:=by simpa[isB] using iw
    simp[this],rfl⟩
   have:=qU [a,(j:Int)] _ (by simp;omega) (fun x hx=>by
    simp only[cj,List.not_mem_nil,or_false] at hx;rcases hx with rfl|rfl
    .exact sj
    .exact DH)
   simp only[ce,c8] at this;omega
 .intro hb;have:=qU (gP t a t.nodes.length) [a] (aDT _ _ _) (fun x hx=>by
   obtain⟨b,sb,Af,rfl⟩:=xK.1 hx;have Af:a∈upI t.pars (b:Int):=by simpa[isB] using Af
   rcases zN CS (b+1) b (by omega) (by omega) a Af with h|⟨j,hj,h⟩
   .simp[h]
   .exfalso
    unfold eF bA at hb;rw[db,<-Bool.not_eq_true,dv] at hb;refine hb ⟨_,aa hj,?_⟩;rw[fB t hj,iJ hj] at h;simpa using h)
  simpa using this
theorem aIG(x:NT)(y:Int)(box:Bxs)(nb k:Nat)(tok:Tks)(nt:Nat)(h1:box k=some [[I y]]):
  aC prog 245 [x.av,.ptr k 0 0] ⟨box,nb,tok,nt⟩ fun v m=>v=B (x.par==y)/\m=⟨box,nb,tok,nt⟩:=by
 refine sI func245 ntmps245 fun Hb Ht=>?_
 have k1n:=bH Hb h1;repeat first|simp[lO k1n,h1]|refine sR ?_
 refine sT (sH ?_);simp
theorem aKd(t:Ty)(ht:t.nodes.length<=1000000)(k:Int):DC 187 [t.av,I k] (B (eF t k)):=by
 intro tok nt box nb;obtain⟨p,oy⟩:∃p:NT->Bool,(fun n=>n.par==k)=p:=⟨_,rfl⟩
 have h2:=fun y box nb q n5=>aIG y k box nb q tok nt n5
 have so:∀y:NT,(y.par==k)=p y:=fun y=>by rw[<-oy]
 simp only[so] at h2;unfold eF;rw[oy];refine sI func187 ntmps187 fun Hb Ht=>?_
 repeat first|simp|refine sR ?_
 refine aT.of_b (lI t.nodes 245 [.ptr (nb+3) 0 0] p ht _ _ _ _ (fun c hc=>by rw[a7.1 hc];simp[aN]) (fun y hy box' nb' he=>h2 y box' nb' _ (he _ _ (by simp[aN])))) ?_;repeat first|simp|refine sR ?_
 refine sT (sH ?_);simp
theorem aEm(t:Ty)(ht:t.Fit)(g:Gr)(e:E)(h0:0<=e.fr/\e.fr<g.nodes.length)(h2:0<=e.to/\e.to<g.nodes.length)(box:Bxs)(nb k1 k2:Nat)(tok:Tks)(nt:Nat)(h1:box k1=some [[.d (nts t.nodes),.d (ets t.edges)]])(h3:box k2=some [[.d (ints g.nodes),.d (AM.edges g.edges)]]):
  aC prog 189 [.agg [I e.ty,I e.fr,I e.to],.ptr k1 0 0,.ptr k2 0 0] ⟨box,nb,tok,nt⟩ fun v m=>v=B (!lvE t g e)/\m=⟨box,nb,tok,nt⟩:=by
 obtain⟨ty,fr,to'⟩:=e;simp only at h0 h2;obtain⟨a,rfl⟩:=ch h0.1;obtain⟨b,rfl⟩:=ch h2.1;have ha:a<g.nodes.length:=by omega
 have hb:b<g.nodes.length:=by omega
 have hc:=aFA t ht ty g.nodes[a] g.nodes[b];have hL:lvE t g ⟨ty,a,b⟩=nY t ty g.nodes[a] g.nodes[b]:=by simp[lvE,ha,hb]
 rw[hL];generalize nY t ty g.nodes[a] g.nodes[b]=R at *;refine sI func189 ntmps189 fun Hb Ht=>?_
 have k1n:=bH Hb h1;have k2n:=bH Hb h3;repeat first|simp[lO k1n,lO k2n,h1,h3,ha,hb]|refine sR ?_
 refine sD (hc _ _) ?_;repeat first|simp|refine sR ?_
 refine sT (sH ?_);simp
def aNA(t:Ty)(g:Gr)(nb:Nat)(box:Bxs)(tok:Tks)(nt:Nat)(i:Nat):AS :=
 ⟨tl [(10,I i),(9,I g.nodes.length),(8,.d (ints g.nodes)),(3,.ptr (nb+3) 0 0),(2,.ptr (nb+2) 0 0)],lb nb box [(3,[[.d (ints g.nodes),.d (AM.edges g.edges)]]),(2,[[.d (nts t.nodes),.d (ets t.edges)]])],tok,nt⟩
theorem aAs(t:Ty)(ht:t.Fit)(g:Gr)(hg:g.Fit)(hv:∀e∈g.edges,0<=e.fr/\e.fr<g.nodes.length/\0<=e.to/\e.to<g.nodes.length):DC 121 [t.av,g.av] (B (dA t g)):=by
 intro tok nt box nb;have sc:=hg.n;have hge:=hg.e;have qb:=ht.n;obtain⟨N,hN⟩:∃N,dA t g=N:=⟨_,rfl⟩
 rw[hN];unfold dA at hN;refine sI func121 ntmps121 fun Hb Ht=>?_
 repeat first|simp|refine sR ?_
 apply sN;refine sL (aNA t g nb box tok nt) (fun i=>i<=g.nodes.length/\cJ (lvN t) (g.nodes.take i)=true) (fun i=>g.nodes.length-i) 0 ⟨ai _,by simp[cJ]⟩ wkA ?_;rintro i S' ⟨hi,gt⟩ hS;simp only[aNA] at hS;subst hS;have hw:=sW (i:=i) (by omega);repeat first|simp|refine sR ?_|apply sC
 refine⟨fun hlt=>?_,fun hge=>?_⟩
 .have jq:=fun h=>fL (p:=lvN t) hlt h
  have jg:=fun h=>cW (p:=lvN t) hlt gt h
  have hl:lvN t g.nodes[i]=if (t.nodes.length:Int)<=g.nodes[i] then false else eF t g.nodes[i]:=rfl
  have hc:=aKd t (by omega) g.nodes[i];by_cases e1:(t.nodes.length:Int)<=g.nodes[i]
  .rw[af e1] at hl;rw[jq hl,ac (by simp)] at hN;repeat first|simp[hlt,e1]|refine sR ?_
   apply sC;simp[e1];repeat first|simp|refine sR ?_
   refine sT (sH ?_);simp[<-hN]
  .rw[ac e1] at hl;repeat first|simp[hlt,e1]|refine sR ?_
   refine sD (hc _ _) ?_;simp;cases e2:eF t g.nodes[i]
   .rw[e2] at hl;rw[jq hl,ac (by simp)] at hN;repeat first|simp|refine sR ?_
    apply sC;repeat first|simp|refine sR ?_
    refine sT (sH ?_);simp[<-hN]
   .rw[e2] at hl;repeat first|simp[hw]|refine sR ?_|apply sC
    apply sE;exact⟨i+1,⟨hlt,jg hl⟩,by omega,wkA⟩
 .apply sX;simp only[AU,↓reduceIte];have:i=g.nodes.length:=by omega
  subst this;rw[bh] at gt;rw[af gt] at hN;obtain⟨p,oy⟩:∃p:E->Bool,(fun e=>!lvE t g e)=p:=⟨_,rfl⟩
  have h2:=fun y (hy:y∈g.edges) box nb k1 k2 p9 hk2=>aEm t ht g y ⟨(hv y hy).1,(hv y hy).2.1⟩ ⟨(hv y hy).2.2.1,(hv y hy).2.2.2⟩ box nb k1 k2 tok nt p9 hk2
  have so:∀y:E,(!lvE t g y)=p y:=fun y=>by rw[<-oy]
  simp only[so] at h2;have qp:(!bA p g.edges)=N:=by
   rw[<-hN,<-oy,cJ,bA,fu,Bool.not_not];simp
  repeat first|simp|refine sR ?_
  have iq:∀c∈[AV.ptr (nb+2) 0 0,AV.ptr (nb+3) 0 0],bD (fun k=>(lb nb box [(3,[[.d (ints g.nodes),.d (AM.edges g.edges)]]),(2,[[.d (nts t.nodes),.d (ets t.edges)]])]) k≠none) (fun _=>True) c:=by
   intro c hc;simp only[cj,List.not_mem_nil,or_false] at hc;rcases hc with h|h
   .rw[h];simp[aN]
   .rw[h];simp[aN]
  refine aT.of_b (eQ g.edges 189 [.ptr (nb+2) 0 0,.ptr (nb+3) 0 0] p hg.e _ _ _ _ iq (fun y hy box' nb' he=>h2 y hy box' nb' _ _ (he _ _ (by simp[aN])) (he _ _ (by simp[aN])))) ?_;repeat first|simp|refine sR ?_
  refine sT (sH ?_);simp[<-qp]
def aN2(t:Ty)(k:Int)(nb:Nat)(box:Bxs)(tok:Tks)(nt:Nat)(i:Nat):AS :=
 ⟨tl [(5,I i),(1,I k),(2,.ptr (nb+2) 0 0)],lb nb box [(2,[[.d (nts t.nodes),.d (ets t.edges)]])],tok,nt⟩
theorem aKU(t:Ty)(ht:t.nodes.length<=1000000)(k:Int):DC 100 [t.av,I k] (B (eF t k)):=by
 intro tok nt box nb;obtain⟨N,hN⟩:∃N,eF t k=N:=⟨_,rfl⟩
 rw[hN];have qp:cJ (fun n=>!(n.par==k)) t.nodes=N:=by rw[<-hN,cJ,eF,bA,fu,Bool.not_not]
 clear hN;refine sI func100 ntmps100 fun Hb Ht=>?_
 repeat first|simp|refine sR ?_
 apply sN;refine sL (aN2 t k nb box tok nt) (fun i=>i<=t.nodes.length/\cJ (fun n=>!(n.par==k)) (t.nodes.take i)=true) (fun i=>t.nodes.length-i) 0 ⟨ai _,by simp[cJ]⟩ wkA ?_;rintro i S' ⟨hi,gt⟩ hS;simp only[aN2] at hS;subst hS;have hw:=sW (i:=i) (by omega);repeat first|simp|refine sR ?_|apply sC
 refine⟨fun hlt=>?_,fun hge=>?_⟩
 .have jq:=fun h=>fL (p:=fun n:NT=>!(n.par==k)) hlt h
  have jg:=fun h=>cW (p:=fun n:NT=>!(n.par==k)) hlt gt h
  cases e1:t.nodes[i].par==k
  .repeat first|simp[hlt,e1]|refine sR ?_
   apply sC;simp[e1];repeat first|simp[hw]|refine sR ?_
   apply sE;exact⟨i+1,⟨hlt,jg (by simp only[e1];rfl)⟩,by omega,wkA⟩
  .rw[jq (by simp only[e1];rfl)] at qp;repeat first|simp[hlt,e1]|refine sR ?_
   apply sC;simp[e1];repeat first|simp|refine sR ?_
   refine sT (sH ?_);simp[<-qp]
 .apply sX;simp only[AU,↓reduceIte];have:i=t.nodes.length:=by omega
  subst this;rw[bh] at gt;rw[gt] at qp;repeat first|simp|refine sR ?_
  refine sT (sH ?_);simp[<-qp]
def aO5(t:Ty)(g:Gr)(nb:Nat)(box:Bxs)(tok:Tks)(nt:Nat)(i:Nat):AS :=
 ⟨tl [(5,I i),(3,.ptr (nb+3) 0 0),(2,.ptr (nb+2) 0 0)],lb nb box [(3,[[.d (ints g.nodes),.d (AM.edges g.edges)]]),(2,[[.d (nts t.nodes),.d (ets t.edges)]])],tok,nt⟩
def aPN(t:Ty)(g:Gr)(nb:Nat)(box:Bxs)(tok:Tks)(nt:Nat)(i:Nat):AS :=
 ⟨tl [(6,I i),(3,.ptr (nb+3) 0 0),(2,.ptr (nb+2) 0 0)],lb nb box [(3,[[.d (ints g.nodes),.d (AM.edges g.edges)]]),(2,[[.d (nts t.nodes),.d (ets t.edges)]])],tok,nt⟩
theorem nS(t:Ty)(ht:t.Fit)(g:Gr)(hg:g.Fit)(hv:∀e∈g.edges,0<=e.fr/\e.fr<g.nodes.length/\0<=e.to/\e.to<g.nodes.length):DC 131 [t.av,g.av] (B (dA t g)):=by
 intro tok nt box nb;have sc:=hg.n;have hge:=hg.e;have qb:=ht.n;obtain⟨N,hN⟩:∃N,dA t g=N:=⟨_,rfl⟩
 rw[hN];unfold dA at hN;refine sI func131 ntmps131 fun Hb Ht=>?_
 repeat first|simp|refine sR ?_
 apply sN;refine sL (aO5 t g nb box tok nt) (fun i=>i<=g.nodes.length/\cJ (lvN t) (g.nodes.take i)=true) (fun i=>g.nodes.length-i) 0 ⟨ai _,by simp[cJ]⟩ wkA ?_;rintro i S' ⟨hi,gt⟩ hS;simp only[aO5] at hS;subst hS;have hw:=sW (i:=i) (by omega);repeat first|simp|refine sR ?_|apply sC
 refine⟨fun hlt=>?_,fun hge=>?_⟩
 .have jq:=fun h=>fL (p:=lvN t) hlt h
  have jg:=fun h=>cW (p:=lvN t) hlt gt h
  have hl:lvN t g.nodes[i]=if (t.nodes.length:Int)<=g.nodes[i] then false else eF t g.nodes[i]:=rfl
  have hc:=aKU t (by omega) g.nodes[i];by_cases e1:(t.nodes.length:Int)<=g.nodes[i]
  .rw[af e1] at hl;rw[jq hl,ac (by simp)] at hN;repeat first|simp[hlt,e1]|refine sR ?_
   apply sC;simp[e1];repeat first|simp|refine sR ?_
   refine sT (sH ?_);simp[<-hN]
  .rw[ac e1] at hl;repeat first|simp[hlt,e1]|refine sR ?_
   refine sD (hc _ _) ?_;simp;cases e2:eF t g.nodes[i]
   .rw[e2] at hl;rw[jq hl,ac (by simp)] at hN;repeat first|simp|refine sR ?_
    apply sC;repeat first|simp|refine sR ?_
    refine sT (sH ?_);simp[<-hN]
   .rw[e2] at hl;repeat first|simp[hw]|refine sR ?_|apply sC
    apply sE;exact⟨i+1,⟨hlt,jg hl⟩,by omega,wkA⟩
 .apply sX;simp only[AU,↓reduceIte];have:i=g.nodes.length:=by omega
  subst this;rw[bh] at gt;rw[af gt] at hN;repeat first|simp|refine sR ?_
  apply sN;refine sL (aPN t g nb box tok nt) (fun i=>i<=g.edges.length/\cJ (lvE t g) (g.edges.take i)=true) (fun i=>g.edges.length-i) 0 ⟨ai _,by simp[cJ]⟩ wkA ?_;rintro i S' ⟨hi,gt⟩ hS;simp only[aPN] at hS;subst hS;have hw:=sW (i:=i) (by omega);repeat first|simp|refine sR ?_|apply sC
  refine⟨fun hlt=>?_,fun hge=>?_⟩
  .have jq:=fun h=>fL (p:=lvE t g) hlt h
   have jg:=fun h=>cW (p:=lvE t g) hlt gt h
   have A7:=hv _ (aa hlt);obtain⟨a,A8⟩:=ch A7.1;obtain⟨b,A9⟩:=ch A7.2.2.1;have ha:a<g.nodes.length:=by omega
   have hb:b<g.nodes.length:=by omega
   have hc:=aBQ t ht g.edges[i].ty g.nodes[a] g.nodes[b];have hL:lvE t g g.edges[i]=nY t g.edges[i].ty g.nodes[a] g.nodes[b]:=by simp[lvE,A8,A9,ha,hb]
   rw[hL] at jq jg;repeat first|simp[hlt,A8,A9,ha,hb]|refine sR ?_
   refine sD (hc _ _) ?_;simp;cases e1:nY t g.edges[i].ty g.nodes[a] g.nodes[b]
   .rw[jq e1] at hN;repeat first|simp|refine sR ?_
    apply sC;repeat first|simp|refine sR ?_
    refine sT (sH ?_);simp[<-hN]
   .repeat first|simp[hw]|refine sR ?_|apply sC
    apply sE;exact⟨i+1,⟨hlt,jg e1⟩,by omega,wkA⟩
  .apply sX;simp only[AU,↓reduceIte];have:i=g.edges.length:=by omega
   subst this;rw[bh] at gt;rw[gt] at hN;repeat first|simp|refine sR ?_
   refine sT (sH ?_);simp[<-hN]
def aPy(xs:List Xt)(f:FuncId)(caps:List AV)(nb:Nat)(box:Bxs)(tok:Tks)(nt:Nat)(i:Nat):AS:=⟨tl [(0,.d (xts xs)),(1,.fn (.func f) caps),(7,I xs.length),(8,I i)],lb nb box [],tok,nt⟩
theorem aBu(xs:List Xt)(f:FuncId)(caps:List AV)(p:Xt->Bool)(hx:xs.length<=1000000)(box:Bxs)(nb:Nat)(tok:Tks)(nt:Nat)(hc:∀c∈caps,bD (fun k=>box k≠none) (fun _=>True) c)(hf:∀x∈xs,∀box' nb',Ext box box'->aC prog f (x.av::caps) ⟨box',nb',tok,nt⟩ fun v m=>v=B (p x)/\m=⟨box',nb',tok,nt⟩):
  aC prog 191 [.d (xts xs),.fn (.func f) caps] ⟨box,nb,tok,nt⟩ fun v m=>v=I (if bA p xs=true then (xs.findIdx p:Nat) else -1)/\m=⟨box,nb,tok,nt⟩:=by
 refine sI func191 ntmps191 fun Hb Ht=>?_
 repeat first|simp|refine sR ?_
 apply sN;refine sL (aPy xs f caps nb box tok nt) (fun i=>i<=xs.length/\∀x∈xs.take i,p x=false) (fun i=>xs.length-i) 0 ⟨ai _,by simp⟩ (wM (nr0 _) rfl (by simp[ToL];exact .same (kV hc Hb [] (by simp) rfl _)) trivial) ?_;rintro i S' ⟨hi,htk⟩ hS;simp only[aPy] at hS;subst hS;have hw:=sW (i:=i) (by omega);repeat first|simp|refine sR ?_|apply sC
 refine⟨fun hlt=>?_,fun hge=>?_⟩
 .have qu:=hf xs[i] (aa _);have v7:p xs[i]=true->bA p xs=true/\(xs.findIdx p=i):=fun he=>jU hlt htk he
  have lm:p xs[i]=false->∀x∈xs.take (i+1),p x=false:=fun he x hx=>by
   rw[ah hlt] at hx;rcases ap.1 hx with hx|hx
   .exact htk x hx
   .simp at hx;rw[hx];exact he
  repeat first|simp[hlt]|refine sR ?_
  generalize xs[i]=x at *;refine aT.of_b (qu _ _ ((Ext.refl box).lb Hb [])) ?_;simp;cases he:p x
  .apply sC;simp;repeat first|simp[hw]|refine sR ?_
   apply sE;refine⟨i+1,⟨hlt,?_⟩,by omega,wM (nr0 _) rfl (by simp[ToL];exact .same (kV hc Hb [] (by simp) rfl _)) trivial⟩;exact lm he
  .obtain⟨h1,h2⟩:=v7 he;apply sC;repeat first|simp|refine sR ?_
   refine sT (sH ?_);simp[h1,h2]
 .have hn:bA p xs=false:=by
   rw[ak hge] at htk;simpa[bA] using htk
  apply sX;simp only[AU,↓reduceIte];repeat first|simp|refine sR ?_
  refine sT (sH ?_);simp[hn]
theorem tZ(xs:List Xt)(f:FuncId)(caps:List AV)(p:Xt->Bool)(hx:xs.length<=1000000)(box:Bxs)(nb:Nat)(tok:Tks)(nt:Nat)(hc:∀c∈caps,bD (fun k=>box k≠none) (fun _=>True) c)(hf:∀x∈xs,∀box' nb',Ext box box'->aC prog f (x.av::caps) ⟨box',nb',tok,nt⟩ fun v m=>v=B (p x)/\m=⟨box',nb',tok,nt⟩):
  aC prog 122 [.d (xts xs),.fn (.func f) caps] ⟨box,nb,tok,nt⟩ fun v m=>v=B (bA p xs)/\m=⟨box,nb,tok,nt⟩:=by
 obtain⟨A,jr⟩:∃A,bA p xs=A:=⟨_,rfl⟩
 have hi:=fun b nb' h1 h2=>aBu xs f caps p hx b nb' tok nt h1 h2
 rw[jr];simp only[jr] at hi;refine sI func122 ntmps122 fun Hb Ht=>?_
 repeat first|simp|refine sR ?_
 refine aT.of_b (hi (lb nb box []) _ (fun c h=>(hc c h).mono (fun k hk=>by rw[Hb];exact hk) fun _ h=>h) (fun x qf box' nb' he=>hf x qf box' nb' (by rw[Hb] at he;exact he))) ?_;simp;cases A
 .repeat first|simp|refine sR ?_
  refine sT (sH ?_);simp
 .have h0:(0:Int)<=(xs.findIdx p:Nat):=by omega
  repeat first|simp|refine sR ?_
  refine sT (sH ?_);simp[h0]
end Go.AM
