/-
 Parts of the proof, as merged from many texts: a machine over data, what the functions compute, plain laws.
-/
import Derived.Test.YtebmobphgaiaiaaGreatPNA13
import Derived.WalkKit
import Derived.Deep.LoopGhost
import Derived.Deep.AppendLies
import Derived.Laws.AppendOwnNone
import Derived.Deep.RegionHeld3
set_option linter.unusedSimpArgs false
set_option linter.unusedVariables false
namespace Go.AM
open Go Go.Proofs Go.ChangeShapes
open Go.Proofs.Tryz
theorem list9d{α:Type}{l:List α}(h:l.length=9):l=[l[0]'(by omega),l[1]'(by omega),l[2]'(by omega),l[3]'(by omega),l[4]'(by omega),l[5]'(by omega),l[6]'(by omega),l[7]'(by omega),l[8]'(by omega)]:=by
 match l,h with
 | [p0,p1,p2,p3,p4,p5,p6,p7,p8],_=>rfl
theorem RdF.struct9{P:Program}{T A0 A1 A2 A3 A4 A5 A6 A7 A8:TypeId}{α0 α1 α2 α3 α4 α5 α6 α7 α8:Type}{e0:α0->List D}{e1:α1->List D}{e2:α2->List D}{e3:α3->List D}{e4:α4->List D}{e5:α5->List D}{e6:α6->List D}{e7:α7->List D}{e8:α8->List D}{o0:α0->Prop}{o1:α1->Prop}{o2:α2->Prop}{o3:α3->Prop}{o4:α4->Prop}{o5:α5->Prop}{o6:α6->Prop}{o7:α7->Prop}{o8:α8->Prop}{n:Nat}(r0:RdF P A0 e0 o0 n)(r1:RdF P A1 e1 o1 n)(r2:RdF P A2 e2 o2 n)(r3:RdF P A3 e3 o3 n)(r4:RdF P A4 e4 o4 n)(r5:RdF P A5 e5 o5 n)(r6:RdF P A6 e6 o6 n)(r7:RdF P A7 e7 o7 n)(r8:RdF P A8 e8 o8 n){f0 f1 f2 f3 f4 f5 f6 f7 f8:Field}(h:P.underlying T=some (.struct #[f0,f1,f2,f3,f4,f5,f6,f7,f8]))(hT0:f0.type=A0)(hT1:f1.type=A1)(hT2:f2.type=A2)(hT3:f3.type=A3)(hT4:f4.type=A4)(hT5:f5.type=A5)(hT6:f6.type=A6)(hT7:f7.type=A7)(hT8:f8.type=A8)(h0:f0.offset=0)(h1:f1.offset=P.cellsOf A0)(h2:f2.offset=P.cellsOf A0+P.cellsOf A1)(h3:f3.offset=P.cellsOf A0+P.cellsOf A1+P.cellsOf A2)(h4:f4.offset=P.cellsOf A0+P.cellsOf A1+P.cellsOf A2+P.cellsOf A3)(h5:f5.offset=P.cellsOf A0+P.cellsOf A1+P.cellsOf A2+P.cellsOf A3+P.cellsOf A4)(h6:f6.offset=P.cellsOf A0+P.cellsOf A1+P.cellsOf A2+P.cellsOf A3+P.cellsOf A4+P.cellsOf A5)(h7:f7.offset=P.cellsOf A0+P.cellsOf A1+P.cellsOf A2+P.cellsOf A3+P.cellsOf A4+P.cellsOf A5+P.cellsOf A6)(h8:f8.offset=P.cellsOf A0+P.cellsOf A1+P.cellsOf A2+P.cellsOf A3+P.cellsOf A4+P.cellsOf A5+P.cellsOf A6+P.cellsOf A7)(hc:P.cellsOf T=P.cellsOf A0+P.cellsOf A1+P.cellsOf A2+P.cellsOf A3+P.cellsOf A4+P.cellsOf A5+P.cellsOf A6+P.cellsOf A7+P.cellsOf A8):
  RdF P T (fun x:α0 × α1 × α2 × α3 × α4 × α5 × α6 × α7 × α8=>e0 x.1++(e1 x.2.1++(e2 x.2.2.1++(e3 x.2.2.2.1++(e4 x.2.2.2.2.1++(e5 x.2.2.2.2.2.1++(e6 x.2.2.2.2.2.2.1++(e7 x.2.2.2.2.2.2.2.1++(e8 x.2.2.2.2.2.2.2.2))))))))) (fun x=>o0 x.1/\o1 x.2.1/\o2 x.2.2.1/\o3 x.2.2.2.1/\o4 x.2.2.2.2.1/\o5 x.2.2.2.2.2.1/\o6 x.2.2.2.2.2.2.1/\o7 x.2.2.2.2.2.2.2.1/\o8 x.2.2.2.2.2.2.2.2) (n+1):=by
 constructor
 intro H e w base spare held cs x hx;obtain⟨xs,n',hn',rfl,hl,hxs,hat⟩:=DataW.trod_struct h hx;obtain rfl:n'=n:=by omega
 have hxs':xs.length=9:=hxs
 have g0:=hat 0 f0 rfl;have g1:=hat 1 f1 rfl;have g2:=hat 2 f2 rfl;have g3:=hat 3 f3 rfl;have g4:=hat 4 f4 rfl;have g5:=hat 5 f5 rfl;have g6:=hat 6 f6 rfl;have g7:=hat 7 f7 rfl;have g8:=hat 8 f8 rfl;have x0:xs[0]?=some (xs[0]'(by omega)):=List.getElem?_eq_getElem (by omega)
 have x1:xs[1]?=some (xs[1]'(by omega)):=List.getElem?_eq_getElem (by omega)
 have x2:xs[2]?=some (xs[2]'(by omega)):=List.getElem?_eq_getElem (by omega)
 have x3:xs[3]?=some (xs[3]'(by omega)):=List.getElem?_eq_getElem (by omega)
 have x4:xs[4]?=some (xs[4]'(by omega)):=List.getElem?_eq_getElem (by omega)
 have x5:xs[5]?=some (xs[5]'(by omega)):=List.getElem?_eq_getElem (by omega)
 have x6:xs[6]?=some (xs[6]'(by omega)):=List.getElem?_eq_getElem (by omega)
 have x7:xs[7]?=some (xs[7]'(by omega)):=List.getElem?_eq_getElem (by omega)
 have x8:xs[8]?=some (xs[8]'(by omega)):=List.getElem?_eq_getElem (by omega)
 rw[x0,h0,hT0] at g0;rw[x1,h1,hT1] at g1;rw[x2,h2,hT2] at g2;rw[x3,h3,hT3] at g3;rw[x4,h4,hT4] at g4;rw[x5,h5,hT5] at g5;rw[x6,h6,hT6] at g6;rw[x7,h7,hT7] at g7;rw[x8,h8,hT8] at g8;obtain⟨y0,k0,m0⟩:=r0.sound e w base spare held _ _ g0;obtain⟨y1,k1,m1⟩:=r1.sound e w base spare held _ _ g1;obtain⟨y2,k2,m2⟩:=r2.sound e w base spare held _ _ g2;obtain⟨y3,k3,m3⟩:=r3.sound e w base spare held _ _ g3;obtain⟨y4,k4,m4⟩:=r4.sound e w base spare held _ _ g4;obtain⟨y5,k5,m5⟩:=r5.sound e w base spare held _ _ g5;obtain⟨y6,k6,m6⟩:=r6.sound e w base spare held _ _ g6;obtain⟨y7,k7,m7⟩:=r7.sound e w base spare held _ _ g7;obtain⟨y8,k8,m8⟩:=r8.sound e w base spare held _ _ g8;refine⟨(y0,y1,y2,y3,y4,y5,y6,y7,y8),?_,fun hli=>?_⟩
 rotate_left
 .unfold Light at hli m0 m1 m2 m3 m4 m5 m6 m7 m8;have e2:xs=[xs[0]'(by omega),xs[1]'(by omega),xs[2]'(by omega),xs[3]'(by omega),xs[4]'(by omega),xs[5]'(by omega),xs[6]'(by omega),xs[7]'(by omega),xs[8]'(by omega)]:=list9d hxs'
  rw[e2] at hli;simp only[List.map_cons,List.map_nil,DataW.weights,h,DataW.weightsEach,hT0,hT1,hT2,hT3,hT4,hT5,hT6,hT7,hT8,List.all_append,Bool.and_eq_true] at hli;exact⟨m0 hli.1,m1 hli.2.1,m2 hli.2.2.1,m3 hli.2.2.2.1,m4 hli.2.2.2.2.1,m5 hli.2.2.2.2.2.1,m6 hli.2.2.2.2.2.2.1,m7 hli.2.2.2.2.2.2.2.1,m8 hli.2.2.2.2.2.2.2.2.1⟩
 have hcs:cs=(cs.drop (0)).take (P.cellsOf A0)++((cs.drop (P.cellsOf A0)).take (P.cellsOf A1)++((cs.drop (P.cellsOf A0+P.cellsOf A1)).take (P.cellsOf A2)++((cs.drop (P.cellsOf A0+P.cellsOf A1+P.cellsOf A2)).take (P.cellsOf A3)++((cs.drop (P.cellsOf A0+P.cellsOf A1+P.cellsOf A2+P.cellsOf A3)).take (P.cellsOf A4)++((cs.drop (P.cellsOf A0+P.cellsOf A1+P.cellsOf A2+P.cellsOf A3+P.cellsOf A4)).take (P.cellsOf A5)++((cs.drop (P.cellsOf A0+P.cellsOf A1+P.cellsOf A2+P.cellsOf A3+P.cellsOf A4+P.cellsOf A5)).take (P.cellsOf A6)++((cs.drop (P.cellsOf A0+P.cellsOf A1+P.cellsOf A2+P.cellsOf A3+P.cellsOf A4+P.cellsOf A5+P.cellsOf A6)).take (P.cellsOf A7)++((cs.drop (P.cellsOf A0+P.cellsOf A1+P.cellsOf A2+P.cellsOf A3+P.cellsOf A4+P.cellsOf A5+P.cellsOf A6+P.cellsOf A7)).take (P.cellsOf A8))))))))):=by
  have:(cs.drop (P.cellsOf A0+P.cellsOf A1+P.cellsOf A2+P.cellsOf A3+P.cellsOf A4+P.cellsOf A5+P.cellsOf A6+P.cellsOf A7)).take (P.cellsOf A8)=cs.drop (P.cellsOf A0+P.cellsOf A1+P.cellsOf A2+P.cellsOf A3+P.cellsOf A4+P.cellsOf A5+P.cellsOf A6+P.cellsOf A7):=List.take_of_length_le (by simp;omega)
  rw[this];have d7:=List.take_append_drop (P.cellsOf A7) (cs.drop (P.cellsOf A0+P.cellsOf A1+P.cellsOf A2+P.cellsOf A3+P.cellsOf A4+P.cellsOf A5+P.cellsOf A6));have d6:=List.take_append_drop (P.cellsOf A6) (cs.drop (P.cellsOf A0+P.cellsOf A1+P.cellsOf A2+P.cellsOf A3+P.cellsOf A4+P.cellsOf A5));have d5:=List.take_append_drop (P.cellsOf A5) (cs.drop (P.cellsOf A0+P.cellsOf A1+P.cellsOf A2+P.cellsOf A3+P.cellsOf A4));have d4:=List.take_append_drop (P.cellsOf A4) (cs.drop (P.cellsOf A0+P.cellsOf A1+P.cellsOf A2+P.cellsOf A3));have d3:=List.take_append_drop (P.cellsOf A3) (cs.drop (P.cellsOf A0+P.cellsOf A1+P.cellsOf A2));have d2:=List.take_append_drop (P.cellsOf A2) (cs.drop (P.cellsOf A0+P.cellsOf A1));have d1:=List.take_append_drop (P.cellsOf A1) (cs.drop (P.cellsOf A0));rw[List.drop_drop] at d7 d6 d5 d4 d3 d2 d1;rw[d7,d6,d5,d4,d3,d2,d1,List.drop_zero,List.take_append_drop]
 rw[hcs];exact k0.append (k1.append (k2.append (k3.append (k4.append (k5.append (k6.append (k7.append k8)))))))
theorem list2e{α:Type}{l:List α}(h:l.length=2):l=[l[0]'(by omega),l[1]'(by omega)]:=by
 match l,h with
 | [p,q],_=>rfl
def Rdr.arr2e{P:Program}{T A:TypeId}{α:Type}(r:Rdr P A α)(h:P.underlying T=some (.array 2 A))(hc:P.cellsOf T=P.cellsOf A+P.cellsOf A):Rdr P T (α × α) where
 enc x:=r.enc x.1++r.enc x.2
 ok x:=r.ok x.1/\r.ok x.2
 len x:=by simp[r.len,hc]
 sound e w base spare held fuel cs x hx:=by
  obtain⟨xs,n,rfl,rfl,hl,hxs,hat⟩:=DataW.trod_array h hx;have g0:=hat 0 (by decide);have g1:=hat 1 (by decide);have e0:xs[0]?=some (xs[0]'(by omega)):=List.getElem?_eq_getElem (by omega)
  have e1:xs[1]?=some (xs[1]'(by omega)):=List.getElem?_eq_getElem (by omega)
  rw[e0,Nat.zero_mul] at g0;rw[e1,Nat.one_mul] at g1;obtain⟨y,k1,k2⟩:=r.sound e w base spare held n _ _ g0;obtain⟨z,m1,m2⟩:=r.sound e w base spare held n _ _ g1;refine⟨(y,z),?_,fun hli=>?_⟩
  rotate_left
  .unfold Light at hli k2 m2;have e2:xs=[xs[0]'(by omega),xs[1]'(by omega)]:=list2e hxs
   rw[e2] at hli;simp only[List.map_cons,List.map_nil,DataW.weights,h,DataW.weightsAll,List.all_append,Bool.and_eq_true] at hli;exact⟨k2 hli.1,m2 hli.2.1⟩
  have hcs:cs=(cs.drop 0).take (P.cellsOf A)++(cs.drop (P.cellsOf A)).take (P.cellsOf A):=by
   have:(cs.drop (P.cellsOf A)).take (P.cellsOf A)=cs.drop (P.cellsOf A):=List.take_of_length_le (by simp;omega)
   rw[this,List.drop_zero,List.take_append_drop]
  rw[hcs];exact k1.append m1
def rdB2e:Rdr prog 168 (Int × Int):=rdB.arr2e underlying168 (by kernel_rfl)
def rdB2se:Rdr prog 55 (List (Int × Int)):=rdB2e.sliceN 2 underlying55 (by kernel_rfl) (by kernel_rfl)
def rdBsse:Rdr prog 59 (List (List Int)):=rdBs.sliceN 1 underlying59 (by kernel_rfl) (by kernel_rfl)
def rdDr42e:Rdr prog 61 (List Int × List (Int × Int × Int) × List (List Int)):=Rdr.struct3 rdBs rdB3s rdBsse underlying61 rfl rfl rfl rfl (by kernel_rfl) (by kernel_rfl) (by kernel_rfl)
abbrev Dr43T:=List (Int × Int) × List (Int × Int) × List Int × List (Int × Int × Int) × Int × List Int × (List Int × List (Int × Int × Int) × List (List Int)) × List Int × List (Int × Int × Int)
theorem rdDr43_n(n:Nat):RdF prog 63 (fun x:Dr43T=>rdB2se.enc x.1++(rdB2se.enc x.2.1++(rdBs.enc x.2.2.1++(rdB3s.enc x.2.2.2.1++(rdU64.enc x.2.2.2.2.1++(rdBs.enc x.2.2.2.2.2.1++(rdDr42e.enc x.2.2.2.2.2.2.1++(rdBs.enc x.2.2.2.2.2.2.2.1++rdB3s.enc x.2.2.2.2.2.2.2.2))))))))
  (fun x=>rdB2se.ok x.1/\rdB2se.ok x.2.1/\rdBs.ok x.2.2.1/\rdB3s.ok x.2.2.2.1/\rdU64.ok x.2.2.2.2.1/\rdBs.ok x.2.2.2.2.2.1/\rdDr42e.ok x.2.2.2.2.2.2.1/\rdBs.ok x.2.2.2.2.2.2.2.1/\rdB3s.ok x.2.2.2.2.2.2.2.2) n:=by
 cases n with
 | zero=>exact .zero
 | succ n=>exact RdF.struct9 (rdB2se.f n) (rdB2se.f n) (rdBs.f n) (rdB3s.f n) (rdU64.f n) (rdBs.f n) (rdDr42e.f n) (rdBs.f n) (rdB3s.f n) underlying63 rfl rfl rfl rfl rfl rfl rfl rfl rfl rfl (by kernel_rfl) (by kernel_rfl) (by kernel_rfl) (by kernel_rfl) (by kernel_rfl) (by kernel_rfl) (by kernel_rfl) (by kernel_rfl) (by kernel_rfl)
def rdDr43:Rdr prog 63 Dr43T:=Rdr.ofF _ _ (fun x=>by simp[rdB2se.len,rdBs.len,rdB3s.len,rdU64.len,rdDr42e.len];kernel_rfl) rdDr43_n
structure Dr43 where
 ty:List (Int × Int)
 en:List (Int × Int)
 ln:List Int
 le:List (Int × Int × Int)
 kp:Int
 mo:List Int
 cn:List Int
 ce:List (Int × Int × Int)
 cx:List (List Int)
 hn:List Int
 hl:List (Int × Int × Int)
structure Dr43.Big (d:Dr43):Prop where
 ty:U82 d.ty
 en:U82 d.en
 ln:U8s d.ln
 le:U83 d.le
 mo:U8s d.mo
 cn:U8s d.cn
 ce:U83 d.ce
 cx:∀l∈d.cx,U8s l
 hn:U8s d.hn
 hl:U83 d.hl
 nt:d.ty.length<=200000000000000/\d.en.length<=200000000000000
 nl:d.ln.length<=200000000000000/\d.le.length<=200000000000000
 nm:d.mo.length<=200000000000000
 nc:d.cn.length<=200000000000000/\d.ce.length<=200000000000000/\d.cx.length<=200000000000000
 nx:∀l∈d.cx,l.length<=200000000000000
 nh:d.hn.length<=200000000000000/\d.hl.length<=200000000000000
abbrev Dr43.row(d:Dr43):List AV:=[.d (b2s d.ty),.d (b2s d.en),.d (bytes d.ln),.d (b3s d.le),.d (u64 d.kp),.d (bytes d.mo),.d (bytes d.cn),.d (b3s d.ce),.d (.sl 1 (d.cx.map fun l=>[bytes l])),.d (bytes d.hn),.d (b3s d.hl)]
abbrev Dr43.av(d:Dr43):AV:=.agg d.row
theorem rdB2se_ok{l:List (Int × Int)}(h:rdB2se.ok l):U82 l/\l.length<=200000000000000:=by
 have h2:l.length*prog.bytesOf 168<=reachBytes:=h.2
 rw[show prog.bytesOf 168=2 by kernel_rfl] at h2;have:reachBytes=140737488351232:=rfl
 exact⟨fun a ha=>⟨rdB_ok (h.1 a ha).1,rdB_ok (h.1 a ha).2⟩,by omega⟩
theorem rdB3s_ok{l:List (Int × Int × Int)}(h:rdB3s.ok l):U83 l:=fun a ha=>⟨rdB_ok (h.1 a ha).1,rdB_ok (h.1 a ha).2.1,rdB_ok (h.1 a ha).2.2⟩
theorem rdBsse_len{l:List (List Int)}(h:rdBsse.ok l):l.length<=200000000000000:=by
 have h2:l.length*prog.bytesOf 56<=reachBytes:=h.2
 rw[show prog.bytesOf 56=24 by kernel_rfl] at h2;have:reachBytes=140737488351232:=rfl
 omega
set_option maxRecDepth 100000 in
theorem arg_draft43{ps:Array TypeId}{args:Array Value}{W:World}{base base':Nat}{sp:Nat->Bool}{held:Bool}{H:Type}{enc:TypeId × Value->H}(hval:∀(j:Nat) t v,ps[j]?=some t->args[j]?=some v->Value.okWide prog W .any base t v)(j:Nat)(v:Value)(hp:ps[j]?=some 63)(ha:args[j]?=some v){d:DataW H}{p:List MemPlace}(h:DataW.Trod enc prog W base' sp held 63 v d p)(hli:Light prog 63 d):∃x:Dr43,x.Big/\RV G0 W x.av v:=by
 refine Exists.elim (arg_agg hval j 63 v hp ha rdDr43 aggT_63 h hli) fun x hx=>⟨⟨x.1,x.2.1,x.2.2.1,x.2.2.2.1,x.2.2.2.2.1,x.2.2.2.2.2.1,x.2.2.2.2.2.2.1.1,x.2.2.2.2.2.2.1.2.1,x.2.2.2.2.2.2.1.2.2,x.2.2.2.2.2.2.2.1,x.2.2.2.2.2.2.2.2⟩,?_,?_⟩
 .obtain⟨a1,a2,a3,a4,_,a6,⟨c1,c2,c3⟩,a8,a9⟩:=hx.1;exact⟨(rdB2se_ok a1).1,(rdB2se_ok a2).1,rdBs_ok a3,rdB3s_ok a4,rdBs_ok a6,rdBs_ok c1,rdB3s_ok c2,fun l hl=>rdBs_ok (c3.1 l hl),rdBs_ok a8,rdB3s_ok a9,⟨(rdB2se_ok a1).2,(rdB2se_ok a2).2⟩,⟨rdBs_len a3,rdB3s_len a4⟩,rdBs_len a6,⟨rdBs_len c1,rdB3s_len c2,rdBsse_len c3⟩,fun l hl=>rdBs_len (c3.1 l hl),⟨rdBs_len a8,rdB3s_len a9⟩⟩
 .have h2:=hx.2;exact h2
theorem fewM_fit2{m:Mo}(h:fewM m 140=true):m.Fit:=by
 simp[fewM] at h;exact⟨by omega,by omega⟩
theorem fewR_fit{r:Ru}(hb:r.Big)(h:fewR r=true):r.Fit:=by
 simp only[fewR,Bool.and_eq_true] at h;exact⟨fewG_fit h.1.1.1,fewG_fit h.1.1.2,fewM_fit2 h.1.2,fewM_fit2 h.2,hb.ls,hb.lt,hb.rs,hb.rt⟩
def fewNm(s:ByteArray):Bool:=decide (s.size<=40)
def fewAt(a:At):Bool:=if 40<a.name.size then false else if 25<a.names.length then false else allP fewNm a.names
def sumOwn(t:Ty):Nat->Nat
 | 0=>0
 | i+1=>sumOwn t i+(t.nd i).own.length
def fewNd(t:Ty)(i:Nat):Int:=if 30<sumOwn t (i+1) then 1 else if 40<(t.nd i).name.size then 1 else if allP fewAt (t.nd i).own=true then 0 else 1
def fewEd(e:ET):Bool:=decide (e.name.size<=40)
def fewT(t:Ty):Bool:=if 20<t.nodes.length then false else if 30<t.edges.length then false else if firstE (fewNd t) t.nodes.length≠0 then false else allP fewEd t.edges
structure At.Big (a:At):Prop where
 n:a.name.size<=maxLen
 l:a.names.length<=bigN
 s:∀x∈a.names,x.size<=maxLen
structure NT.Big (x:NT):Prop where
 n:x.name.size<=maxLen
 l:x.own.length<=bigN
 a:∀y∈x.own,y.Big
structure Ty.Big (t:Ty):Prop where
 n:t.nodes.length<=bigN
 e:t.edges.length<=bigN
 nn:∀x∈t.nodes,x.Big
 en:∀x∈t.edges,x.name.size<=maxLen
theorem allP_iff{α:Type}{p:α->Bool}{l:List α}:allP p l=true↔∀x∈l,p x=true:=by simp[allP]
theorem fewAt_fit{a:At}(h:fewAt a=true):a.Fit:=by
 unfold fewAt at h;split at h
 .cases h
 .split at h
  .cases h
  .rw[allP_iff] at h;exact⟨by omega,⟨by omega,fun x hx=>by have:=h x hx;simp only[fewNm,decide_eq_true_eq] at this;omega⟩⟩
theorem fewNd_zero{t:Ty}{i:Nat}(h:fewNd t i=0):sumOwn t (i+1)<=30/\(t.nd i).name.size<=40/\∀x∈(t.nd i).own,x.Fit:=by
 unfold fewNd at h;split at h
 .cases h
 .split at h
  .cases h
  .split at h
   .rename_i h1 h2 h3;rw[allP_iff] at h3;exact⟨by omega,by omega,fun x hx=>fewAt_fit (h3 x hx)⟩
   .cases h
theorem fewT_fit{t:Ty}(h:fewT t=true):t.Fit:=by
 unfold fewT at h;split at h
 .cases h
 .split at h
  .cases h
  .split at h
   .cases h
   .rename_i h1 h2 h3;have hz:=firstE_allZ _ (Decidable.not_not.1 h3);rw[allP_iff] at h;have key:∀x∈t.nodes,∃i,i<t.nodes.length/\t.nd i=x:=fun x hx=>by
     obtain⟨i,hi,he⟩:=List.mem_iff_getElem.1 hx;exact⟨i,hi,by rw[nd_at hi,he]⟩
    refine⟨by omega,by omega,fun x hx=>?_,fun x hx=>?_,fun x hx=>?_⟩
    .obtain⟨i,hi,he⟩:=key x hx;have:=(fewNd_zero (hz i hi)).2.1
     rw[he] at this;omega
    .have:=h x hx
     simp only[fewEd,decide_eq_true_eq] at this;omega
    .obtain⟨i,hi,he⟩:=key x hx;have h4:=fewNd_zero (hz i hi);rw[he] at h4;refine⟨?_,h4.2.2⟩;have:=h4.1
     simp only[sumOwn,he] at this;omega
theorem fewNd_eq{t:Ty}{i:Nat}(h:i<t.nodes.length):fewNd t i=if 30<sumOwn t i+t.nodes[i].own.length then 1 else if 40<t.nodes[i].name.size then 1 else if allP fewAt t.nodes[i].own=true then 0 else 1:=by rw[fewNd,sumOwn,nd_at h]
abbrev fwB(t:Ty):Nat × List (List AV):=(1,[[.d (nts t.nodes),.d (ets t.edges)]])
def stFw1(t:Ty)(nb:Nat)(box:Bxs)(tok:Tks)(nt:Nat)(i:Nat):AS:=⟨tl [(4,I i),(3,I (sumOwn t i)),(1,.ptr (nb+1) 0 0)],lb nb box [fwB t],tok,nt⟩
def stFw2(t:Ty)(i n:Nat)(nb:Nat)(box:Bxs)(tok:Tks)(nt:Nat)(k:Nat):AS:=⟨tl [(5,I k),(4,I i),(3,I n),(1,.ptr (nb+1) 0 0)],lb nb box [fwB t],tok,nt⟩
def stFw3(t:Ty)(i n k:Nat)(a:At)(nb:Nat)(box:Bxs)(tok:Tks)(nt:Nat)(j:Nat):AS:=⟨tl [(7,I j),(6,.ptr (nb+6) 0 0),(5,I k),(4,I i),(3,I n),(1,.ptr (nb+1) 0 0)],lb nb box [(6,[a.row]),fwB t],tok,nt⟩
def stFw4(t:Ty)(nb:Nat)(box:Bxs)(tok:Tks)(nt:Nat)(i:Nat):AS:=⟨tl [(8,I i),(1,.ptr (nb+1) 0 0)],lb nb box [fwB t],tok,nt⟩
theorem tyFew_c(t:Ty)(hb:t.Big):DC 34 [t.av] (B (fewT t)):=by
 intro tok nt box nb;have hbn:=hb.n;have hbe:=hb.e;rw[bigN_eq] at hbn hbe;obtain⟨N,hN⟩:∃N,fewT t=N:=⟨_,rfl⟩
 rw[hN];unfold fewT at hN;by_cases e1:20<t.nodes.length
 .have e1':(20:Int)<t.nodes.length:=by omega
  rw[if_pos e1] at hN;refine sI func34 ntmps34 fun Hb Ht=>?_
  repeat first|simp[e1,e1']|refine sR ?_|refine sC ?_
  refine sT (sH Hb Ht ?_);simp[<-hN]
 .have e1':¬(20:Int)<t.nodes.length:=by omega
  rw[if_neg e1] at hN;by_cases e2:30<t.edges.length
  .have e2':(30:Int)<t.edges.length:=by omega
   rw[if_pos e2] at hN;refine sI func34 ntmps34 fun Hb Ht=>?_
   repeat first|simp[e1,e1',e2,e2']|refine sR ?_|refine sC ?_
   refine sT (sH Hb Ht ?_);simp[<-hN]
  .have e2':¬(30:Int)<t.edges.length:=by omega
   rw[if_neg e2] at hN;refine sI func34 ntmps34 fun Hb Ht=>?_
   repeat first|simp[e1,e1',e2,e2']|refine sR ?_|refine sC ?_
   refine sN ?_;refine sL (stFw1 t nb box tok nt) (fun i=>i<=t.nodes.length/\sumOwn t i<=30/\firstE (fewNd t) i=0) (fun i=>t.nodes.length-i) 0 ⟨Nat.zero_le _,Nat.zero_le _,rfl⟩ (wM (nr _) rfl (by simp[ToL,lk,lb_at,sumOwn]) (by simp[BoxL,lk])) ?_;rintro i S' ⟨hi,hsum,hok⟩ hS;simp only[stFw1] at hS;subst hS;have hw:=sW (i:=i) (by omega);repeat first|simp|refine sR ?_|refine sC ?_
   refine⟨fun hlt=>?_,fun hge=>?_⟩
   .have hR:fewNd t i≠0->firstE (fewNd t) t.nodes.length=fewNd t i:=fun h0=>firstE_stop hok h0 _ hlt
    have hnx:fewNd t i=0->firstE (fewNd t) (i+1)=0:=fun h0=>by simp only[firstE,hok,h0,↓reduceIte]
    have hd:=fewNd_eq hlt;have hsn:sumOwn t (i+1)=sumOwn t i+t.nodes[i].own.length:=by rw[sumOwn,nd_at hlt]
    have hnb:=hb.nn _ (List.getElem_mem hlt);have hol:=hnb.l;rw[bigN_eq] at hol;have hws:IntKind.i64.wrap ((sumOwn t i:Nat)+(t.nodes[i].own.length:Nat):Int)=((sumOwn t i+t.nodes[i].own.length:Nat):Int):=by rw[wrap_in (by omega) (by omega)];rfl
    by_cases c1:30<sumOwn t i+t.nodes[i].own.length
    .have c1':(30:Int)<(sumOwn t i:Int)+(t.nodes[i].own.length:Int):=by omega
     rw[if_pos c1] at hd;rw[if_pos (by rw[hR (by rw[hd];decide),hd];decide)] at hN;repeat first|simp[hlt,hws,c1,c1']|refine sR ?_
     refine sC ?_;simp[c1,c1'];repeat first|simp|refine sR ?_
     refine sT (sH Hb Ht ?_);simp[<-hN]
    .have c1':¬(30:Int)<((sumOwn t i+t.nodes[i].own.length:Nat):Int):=by omega
     rw[if_neg c1] at hd;by_cases c2:40<t.nodes[i].name.size
     .have c2':(40:Int)<t.nodes[i].name.size:=by omega
      rw[if_pos c2] at hd;rw[if_pos (by rw[hR (by rw[hd];decide),hd];decide)] at hN;have c1':¬(30:Int)<(sumOwn t i:Int)+(t.nodes[i].own.length:Int):=by omega
      repeat first|simp[hlt,hws,c1,c1',c2,c2']|refine sR ?_
      refine sC ?_;simp[c1,c1',c2,c2'];repeat first|simp|refine sR ?_
      refine sT (sH Hb Ht ?_);simp[<-hN]
     .have c2':¬(40:Int)<t.nodes[i].name.size:=by omega
      rw[if_neg c2] at hd;obtain⟨n,hn⟩:∃n:Nat,sumOwn t i+t.nodes[i].own.length=n:=⟨_,rfl⟩
      rw[hn] at hws c1' c1 hsn;repeat first|simp[hlt,hws,c1,c1',c2,c2']|refine sR ?_
      refine sC ?_;simp[c1,c1',c2,c2'];repeat first|simp|refine sR ?_
      refine sN ?_;refine sL (stFw2 t i n nb box tok nt) (fun k=>k<=t.nodes[i].own.length/\allP fewAt (t.nodes[i].own.take k)=true) (fun k=>t.nodes[i].own.length-k) 0 ⟨Nat.zero_le _,rfl⟩ wkA ?_;rintro k S' ⟨hk,hall⟩ hS;simp only[stFw2] at hS;subst hS;have hwk:=sW (i:=k) (by omega);repeat first|simp[hlt]|refine sR ?_|refine sC ?_
      refine⟨fun hlk=>?_,fun hgek=>?_⟩
      .have hno:=fun h=>all_no (p:=fewAt) hlk h
       have hyes:=fun h=>all_more (p:=fewAt) hlk hall h
       have hba:=hnb.a _ (List.getElem_mem hlk);have hbl:=hba.l;rw[bigN_eq] at hbl;have hda:fewAt t.nodes[i].own[k]=if 40<t.nodes[i].own[k].name.size then false else if 25<t.nodes[i].own[k].names.length then false else allP fewNm t.nodes[i].own[k].names:=rfl
       have hbad:fewAt t.nodes[i].own[k]=false->N=false:=fun h=>by
        rw[hno h,if_neg (by simp)] at hd;rw[if_pos (by rw[hR (by rw[hd];decide),hd];decide)] at hN;exact hN.symm
       by_cases c3:40<t.nodes[i].own[k].name.size
       .have c3':(40:Int)<t.nodes[i].own[k].name.size:=by omega
        rw[if_pos c3] at hda;repeat first|simp[hlt,hlk,c3,c3']|refine sR ?_
        refine sC ?_;simp[c3,c3'];repeat first|simp|refine sR ?_
        refine sT (sH Hb Ht ?_);simp[hbad hda]
       .have c3':¬(40:Int)<t.nodes[i].own[k].name.size:=by omega
        rw[if_neg c3] at hda;by_cases c4:25<t.nodes[i].own[k].names.length
        .have c4':(25:Int)<t.nodes[i].own[k].names.length:=by omega
         rw[if_pos c4] at hda;repeat first|simp[hlt,hlk,c3,c3',c4,c4']|refine sR ?_
         refine sC ?_;simp[c3,c3',c4,c4'];repeat first|simp|refine sR ?_
         refine sT (sH Hb Ht ?_);simp[hbad hda]
        .have c4':¬(25:Int)<t.nodes[i].own[k].names.length:=by omega
         rw[if_neg c4] at hda;repeat first|simp[hlt,hlk,c3,c3',c4,c4']|refine sR ?_
         refine sC ?_;simp[c3,c3',c4,c4'];repeat first|simp|refine sR ?_
         refine sN ?_;refine sL (stFw3 t i n k t.nodes[i].own[k] nb box tok nt) (fun j=>j<=t.nodes[i].own[k].names.length/\allP fewNm (t.nodes[i].own[k].names.take j)=true) (fun j=>t.nodes[i].own[k].names.length-j) 0 ⟨Nat.zero_le _,rfl⟩ wkA ?_;rintro j S' ⟨hj,hnall⟩ hS;simp only[stFw3] at hS;subst hS;have hwj:=sW (i:=j) (by omega);repeat first|simp|refine sR ?_|refine sC ?_
         refine⟨fun hlj=>?_,fun hgej=>?_⟩
         .have hnon:=fun h=>all_no (p:=fewNm) hlj h
          have hyesn:=fun h=>all_more (p:=fewNm) hlj hnall h
          by_cases c5:40<t.nodes[i].own[k].names[j].size
          .have c5':(40:Int)<t.nodes[i].own[k].names[j].size:=by omega
           rw[hnon (by simp only[fewNm,decide_eq_false_iff_not];omega)] at hda;repeat first|simp[hlj,c5,c5']|refine sR ?_
           refine sC ?_;simp[c5,c5'];repeat first|simp|refine sR ?_
           refine sT (sH Hb Ht ?_);simp[hbad hda]
          .have c5':¬(40:Int)<t.nodes[i].own[k].names[j].size:=by omega
           repeat first|simp[hlj,c5,c5']|refine sR ?_
           refine sC ?_;simp[c5,c5'];repeat first|simp[hwj]|refine sR ?_
           refine sE ?_;exact⟨j+1,⟨hlj,hyesn (by simp only[fewNm,decide_eq_true_eq];omega)⟩,by omega,wkA⟩
         .refine sX ?_;simp only[AU,↓reduceIte];have:j=t.nodes[i].own[k].names.length:=by omega
          subst this;rw[List.take_length] at hnall;rw[hnall] at hda;repeat first|simp[hwk]|refine sR ?_
          refine sE ?_;exact⟨k+1,⟨hlk,hyes hda⟩,by omega,wkA⟩
      .refine sX ?_;simp only[AU,↓reduceIte];have:k=t.nodes[i].own.length:=by omega
       subst this;rw[List.take_length] at hall;rw[if_pos hall] at hd;repeat first|simp[hw]|refine sR ?_
       refine sE ?_;exact⟨i+1,⟨hlt,by omega,hnx hd⟩,by omega,wM (nr _) rfl (by simp[ToL,lk,lb_at,hsn]) (by simp[BoxL,lk])⟩
   .refine sX ?_;simp only[AU,↓reduceIte];have:i=t.nodes.length:=by omega
    subst this;rw[if_neg (by simp[hok])] at hN;repeat first|simp|refine sR ?_
    refine sN ?_;refine sL (stFw4 t nb box tok nt) (fun i=>i<=t.edges.length/\allP fewEd (t.edges.take i)=true) (fun i=>t.edges.length-i) 0 ⟨Nat.zero_le _,rfl⟩ wkA ?_;rintro i S' ⟨hi,hall⟩ hS;simp only[stFw4] at hS;subst hS;have hw:=sW (i:=i) (by omega);repeat first|simp|refine sR ?_|refine sC ?_
    refine⟨fun hlt=>?_,fun hge=>?_⟩
    .have hno:=fun h=>all_no (p:=fewEd) hlt h
     have hyes:=fun h=>all_more (p:=fewEd) hlt hall h
     by_cases c5:40<t.edges[i].name.size
     .have c5':(40:Int)<t.edges[i].name.size:=by omega
      rw[hno (by simp only[fewEd,decide_eq_false_iff_not];omega)] at hN;repeat first|simp[hlt,c5,c5']|refine sR ?_
      refine sC ?_;simp[c5,c5'];repeat first|simp|refine sR ?_
      refine sT (sH Hb Ht ?_);simp[<-hN]
     .have c5':¬(40:Int)<t.edges[i].name.size:=by omega
      repeat first|simp[hlt,c5,c5']|refine sR ?_
      refine sC ?_;simp[c5,c5'];repeat first|simp[hw]|refine sR ?_
      refine sE ?_;exact⟨i+1,⟨hlt,hyes (by simp only[fewEd,decide_eq_true_eq];omega)⟩,by omega,wkA⟩
    .refine sX ?_;simp only[AU,↓reduceIte];have:i=t.edges.length:=by omega
     subst this;rw[List.take_length] at hall;rw[hall] at hN;repeat first|simp|refine sR ?_
     refine sT (sH Hb Ht ?_);simp[<-hN]
structure Xt.Big (x:Xt):Prop where
 mn:x.m.nodes.length<=bigN
 me:x.m.edges.length<=bigN
 g:x.g.Big
structure Co.Big (c:Co):Prop where
 name:c.name.size<=maxLen
 g:c.g.Big
 n:c.exts.length<=bigN
 exts:∀x∈c.exts,x.Big
def fewX(x:Xt):Bool:=if fewG x.g=true then fewM x.m 140 else false
def fewC(c:Co):Bool:=if 60<c.name.size then false else if 10<c.exts.length then false else if fewG c.g=true then allP fewX c.exts else false
theorem allP_mem{α:Type}{p:α->Bool}{l:List α}(h:allP p l=true):∀x∈l,p x=true:=List.all_eq_true.1 h
theorem fewC_fit{c:Co}(h:fewC c=true):c.Fit/\c.exts.length<=10:=by
 unfold fewC at h;split at h
 .cases h
 rename_i h1;split at h
 .cases h
 rename_i h2;split at h
 .rename_i h3;refine⟨⟨by omega,fewG_fit h3,by omega,fun x hx=>?_⟩,by omega⟩;have:=allP_mem h x hx
  unfold fewX at this;split at this
  .rename_i h4;exact⟨fewM_fit2 this,fewG_fit h4⟩
  .cases this
 .cases h
def stFc(c:Co)(nb:Nat)(box:Bxs)(tok:Tks)(nt:Nat)(i:Nat):AS :=
 ⟨tl [(3,I i),(1,.ptr (nb+1) 0 0)],lb nb box [(1,[c.row])],tok,nt⟩
theorem few42_c(c:Co)(hc:c.Big):DC 81 [c.av] (B (fewC c)):=by
 intro tok nt box nb;have hn:=hc.n;rw[bigN_eq] at hn;have hnm:=hc.name;have h1:=few05_c c.g;obtain⟨N,hN⟩:∃N,fewC c=N:=⟨_,rfl⟩
 rw[hN];unfold fewC at hN;by_cases e1:60<c.name.size
 .have e1':(60:Int)<c.name.size:=by omega
  rw[if_pos e1] at hN;refine sI func81 ntmps81 fun Hb Ht=>?_
  try (simp[e1,e1'])
  repeat (first|(refine sR ?_;simp[e1,e1'])|(refine sC ?_;simp[e1,e1'])|(refine sX ?_;simp only[AU,↓reduceIte]))
  refine sT (sH Hb Ht ?_);simp[<-hN]
 .have e1':¬(60:Int)<c.name.size:=by omega
  rw[if_neg e1] at hN;by_cases e2:10<c.exts.length
  .have e2':(10:Int)<c.exts.length:=by omega
   rw[if_pos e2] at hN;refine sI func81 ntmps81 fun Hb Ht=>?_
   try (simp[e1,e1',e2,e2'])
   repeat (first|(refine sR ?_;simp[e1,e1',e2,e2'])|(refine sC ?_;simp[e1,e1',e2,e2'])|(refine sX ?_;simp only[AU,↓reduceIte]))
   refine sT (sH Hb Ht ?_);simp[<-hN]
  .have e2':¬(10:Int)<c.exts.length:=by omega
   rw[if_neg e2] at hN;refine sI func81 ntmps81 fun Hb Ht=>?_
   try (simp[e1,e1',e2,e2'])
   repeat (first|(refine sR ?_;simp[e1,e1',e2,e2'])|(refine sC ?_;simp[e1,e1',e2,e2'])|(refine sX ?_;simp only[AU,↓reduceIte]))
   refine sD (h1 _ _) ?_;simp;cases e3:fewG c.g
   .rw[e3,if_neg (by simp)] at hN;try (simp)
    repeat (first|(refine sR ?_;simp)|(refine sC ?_;simp)|(refine sX ?_;simp only[AU,↓reduceIte]))
    refine sT (sH Hb Ht ?_);simp[<-hN]
   .rw[e3,if_pos rfl] at hN;try (simp)
    repeat (first|(refine sR ?_;simp)|(refine sC ?_;simp)|(refine sX ?_;simp only[AU,↓reduceIte]))
    refine sN ?_;refine sL (stFc c nb box tok nt) (fun i=>i<=c.exts.length/\allP fewX (c.exts.take i)=true) (fun i=>c.exts.length-i) 0 ⟨Nat.zero_le _,by simp[allP]⟩ wkA ?_;rintro i S' ⟨hi,hok⟩ hS;simp only[stFc] at hS;subst hS;have hw:=sW (i:=i) (by omega);repeat first|simp|refine sR ?_|refine sC ?_
    refine⟨fun hlt=>?_,fun hge=>?_⟩
    .have hno:=fun h=>all_no (p:=fewX) hlt h
     have hyes:=fun h=>all_more (p:=fewX) hlt hok h
     have hb:=hc.exts _ (List.getElem_mem hlt);have b1:=hb.mn;have b2:=hb.me;rw[bigN_eq] at b1 b2;have c1:=few05_c c.exts[i].g;have c2:=few06_c c.exts[i].m 140 (by omega) (by omega);have hd:fewX c.exts[i]=if fewG c.exts[i].g=true then fewM c.exts[i].m 140 else false:=rfl
     repeat first|simp[hlt]|refine sR ?_
     refine sD (c1 _ _) ?_;simp;cases e4:fewG c.exts[i].g
     .rw[e4,if_neg (by simp)] at hd;rw[hno hd] at hN;try (simp)
      repeat (first|(refine sR ?_;simp)|(refine sC ?_;simp)|(refine sX ?_;simp only[AU,↓reduceIte]))
      refine sT (sH Hb Ht ?_);simp[<-hN]
     .rw[e4,if_pos rfl] at hd;try (simp[hlt])
      repeat (first|(refine sR ?_;simp[hlt])|(refine sC ?_;simp[hlt])|(refine sX ?_;simp only[AU,↓reduceIte]))
      refine sD (c2 _ _) ?_;simp;cases e5:fewM c.exts[i].m 140
      .rw[e5] at hd;rw[hno hd] at hN;try (simp)
       repeat (first|(refine sR ?_;simp)|(refine sC ?_;simp)|(refine sX ?_;simp only[AU,↓reduceIte]))
       refine sT (sH Hb Ht ?_);simp[<-hN]
      .rw[e5] at hd;try (simp[hw])
       repeat (first|(refine sR ?_;simp[hw])|(refine sC ?_;simp[hw])|(refine sX ?_;simp only[AU,↓reduceIte]))
       refine sE ?_;exact⟨i+1,⟨hlt,hyes hd⟩,by omega,wkA⟩
    .refine sX ?_;simp only[AU,↓reduceIte];have:i=c.exts.length:=by omega
     subst this;rw[List.take_length] at hok;rw[hok] at hN;repeat first|simp|refine sR ?_
     refine sT (sH Hb Ht ?_);simp[<-hN]
def smlX(x:Xt):Bool:=if 3<x.g.nodes.length then false else if 3<x.g.edges.length then false else true
def smlC(c:Co):Bool:=if fewC c=true then (if shpE c≠0 then true else if 3<c.g.nodes.length then false else if 2<c.g.edges.length then false else if 2<c.exts.length then false else allP smlX c.exts) else false
theorem small43_c(c:Co)(hb:c.Big):DC 35 [c.av] (B (smlC c)):=by
 intro tok nt box nb;have h1:=few42_c c hb;obtain⟨N,hN⟩:∃N,smlC c=N:=⟨_,rfl⟩
 rw[hN];unfold smlC at hN;have hf:=@fewC_fit c;refine sI func35 ntmps35 fun Hb Ht=>?_
 repeat first|simp|refine sR ?_
 refine sD (h1 _ _) ?_;simp;cases e0:fewC c
 .rw[e0,if_neg (by simp)] at hN;try (simp)
  repeat (first|(refine sR ?_;simp)|(refine sC ?_;simp)|(refine sX ?_;simp only[AU,↓reduceIte]))
  refine sT (sH Hb Ht ?_);simp[<-hN]
 .rw[e0,if_pos rfl] at hN;obtain⟨hc,hx10⟩:=hf e0;have h2:=shpS_c c hc;have hgn:=hc.g.n;have hge:=hc.g.e;try (simp)
  repeat (first|(refine sR ?_;simp)|(refine sC ?_;simp)|(refine sX ?_;simp only[AU,↓reduceIte]))
  refine sD (h2 _ _) ?_;simp;by_cases e1:shpE c=0
  .rw[if_neg (by simp[e1])] at hN;by_cases s1:3<c.g.nodes.length
   .have s1':(3:Int)<c.g.nodes.length:=by omega
    rw[if_pos s1] at hN;try (simp[e1,s1,s1'])
    repeat (first|(refine sR ?_;simp[e1,s1,s1'])|(refine sC ?_;simp[e1,s1,s1'])|(refine sX ?_;simp only[AU,↓reduceIte]))
    refine sT (sH Hb Ht ?_);simp[<-hN]
   .have s1':¬(3:Int)<c.g.nodes.length:=by omega
    rw[if_neg s1] at hN;by_cases s2:2<c.g.edges.length
    .have s2':(2:Int)<c.g.edges.length:=by omega
     rw[if_pos s2] at hN;try (simp[e1,s1,s1',s2,s2'])
     repeat (first|(refine sR ?_;simp[e1,s1,s1',s2,s2'])|(refine sC ?_;simp[e1,s1,s1',s2,s2'])|(refine sX ?_;simp only[AU,↓reduceIte]))
     refine sT (sH Hb Ht ?_);simp[<-hN]
    .have s2':¬(2:Int)<c.g.edges.length:=by omega
     rw[if_neg s2] at hN;by_cases s3:2<c.exts.length
     .have s3':(2:Int)<c.exts.length:=by omega
      rw[if_pos s3] at hN;try (simp[e1,s1,s1',s2,s2',s3,s3'])
      repeat (first|(refine sR ?_;simp[e1,s1,s1',s2,s2',s3,s3'])|(refine sC ?_;simp[e1,s1,s1',s2,s2',s3,s3'])|(refine sX ?_;simp only[AU,↓reduceIte]))
      refine sT (sH Hb Ht ?_);simp[<-hN]
     .have s3':¬(2:Int)<c.exts.length:=by omega
      rw[if_neg s3] at hN;try (simp[e1,s1,s1',s2,s2',s3,s3'])
      repeat (first|(refine sR ?_;simp[e1,s1,s1',s2,s2',s3,s3'])|(refine sC ?_;simp[e1,s1,s1',s2,s2',s3,s3'])|(refine sX ?_;simp only[AU,↓reduceIte]))
      refine sN ?_;refine sL (stFc c nb box tok nt) (fun i=>i<=c.exts.length/\allP smlX (c.exts.take i)=true) (fun i=>c.exts.length-i) 0 ⟨Nat.zero_le _,by simp[allP]⟩ wkA ?_;rintro i S' ⟨hi,hok⟩ hS;simp only[stFc] at hS;subst hS;have hw:=sW (i:=i) (by omega);repeat first|simp|refine sR ?_|refine sC ?_
      refine⟨fun hlt=>?_,fun hge=>?_⟩
      .have hno:=fun h=>all_no (p:=smlX) hlt h
       have hyes:=fun h=>all_more (p:=smlX) hlt hok h
       have hd:smlX c.exts[i]=if 3<c.exts[i].g.nodes.length then false else if 3<c.exts[i].g.edges.length then false else true:=rfl
       by_cases t1:3<c.exts[i].g.nodes.length
       .have t1':(3:Int)<c.exts[i].g.nodes.length:=by omega
        rw[if_pos t1] at hd;rw[hno hd] at hN;try (simp[hlt,t1,t1'])
        repeat (first|(refine sR ?_;simp[hlt,t1,t1'])|(refine sC ?_;simp[hlt,t1,t1'])|(refine sX ?_;simp only[AU,↓reduceIte]))
        refine sT (sH Hb Ht ?_);simp[<-hN]
       .have t1':¬(3:Int)<c.exts[i].g.nodes.length:=by omega
        rw[if_neg t1] at hd;by_cases t2:3<c.exts[i].g.edges.length
        .have t2':(3:Int)<c.exts[i].g.edges.length:=by omega
         rw[if_pos t2] at hd;rw[hno hd] at hN;try (simp[hlt,t1,t1',t2,t2'])
         repeat (first|(refine sR ?_;simp[hlt,t1,t1',t2,t2'])|(refine sC ?_;simp[hlt,t1,t1',t2,t2'])|(refine sX ?_;simp only[AU,↓reduceIte]))
         refine sT (sH Hb Ht ?_);simp[<-hN]
        .have t2':¬(3:Int)<c.exts[i].g.edges.length:=by omega
         rw[if_neg t2] at hd;try (simp[hlt,t1,t1',t2,t2',hw])
         repeat (first|(refine sR ?_;simp[hlt,t1,t1',t2,t2',hw])|(refine sC ?_;simp[hlt,t1,t1',t2,t2',hw])|(refine sX ?_;simp only[AU,↓reduceIte]))
         refine sE ?_;exact⟨i+1,⟨hlt,hyes hd⟩,by omega,wkA⟩
      .refine sX ?_;simp only[AU,↓reduceIte];have:i=c.exts.length:=by omega
       subst this;rw[List.take_length] at hok;rw[hok] at hN;repeat first|simp|refine sR ?_
       refine sT (sH Hb Ht ?_);simp[<-hN]
  .have b1:(shpE c != 0)=true:=by simp[e1]
   rw[if_pos e1] at hN;try (simp[b1])
   repeat (first|(refine sR ?_;simp[b1])|(refine sC ?_;simp[b1])|(refine sX ?_;simp only[AU,↓reduceIte]))
   refine sT (sH Hb Ht ?_);simp[<-hN]
def lgtR(r:Ru):Bool:=if fewR r=true then (if strR r=0 then (if r.lg.nodes.length<=4 then (if r.lg.edges.length<=4 then (if r.rg.nodes.length<=4 then decide (r.rg.edges.length<=4) else false) else false) else false) else true) else false
theorem lgtR_fit{r:Ru}(hb:r.Big)(h:lgtR r=true):r.Fit:=by
 unfold lgtR at h;split at h
 .rename_i h1;exact fewR_fit hb h1
 .cases h
theorem light43_c(r:Ru)(hb:r.Big):DC 19 [r.av] (B (lgtR r)):=by
 intro tok nt box nb;have h1:=few34_c r hb;have hf:=@fewR_fit r hb;obtain⟨N,hN⟩:∃N,lgtR r=N:=⟨_,rfl⟩
 rw[hN];unfold lgtR at hN;refine sI func19 ntmps19 fun Hb Ht=>?_
 repeat first|simp|refine sR ?_
 refine sD (h1 _ _) ?_;simp;cases e0:fewR r
 .rw[e0,if_neg (by simp)] at hN;try (simp)
  repeat (first|(refine sR ?_;simp)|(refine sC ?_;simp)|(refine sX ?_;simp only[AU,↓reduceIte]))
  refine sT (sH Hb Ht ?_);simp[<-hN]
 .rw[e0,if_pos rfl] at hN;have h2:=structural34_c r (hf e0);try (simp)
  repeat (first|(refine sR ?_;simp)|(refine sC ?_;simp)|(refine sX ?_;simp only[AU,↓reduceIte]))
  refine sD (h2 _ _) ?_;simp;by_cases e1:strR r=0
  .rw[if_pos e1] at hN;have w:∀n:Nat,((n:Int)<=4)↔n<=4:=fun n=>by omega
   by_cases s1:r.lg.nodes.length<=4
   .have s1':=(w _).2 s1
    rw[if_pos s1] at hN;by_cases s2:r.lg.edges.length<=4
    .have s2':=(w _).2 s2
     rw[if_pos s2] at hN;by_cases s3:r.rg.nodes.length<=4
     .have s3':=(w _).2 s3
      rw[if_pos s3] at hN;by_cases s4:r.rg.edges.length<=4
      .have s4':=(w _).2 s4
       rw[decide_eq_true s4] at hN;try (simp[e1,s1,s1',s2,s2',s3,s3',s4,s4'])
       repeat (first|(refine sR ?_;simp[e1,s1,s1',s2,s2',s3,s3',s4,s4'])|(refine sC ?_;simp[e1,s1,s1',s2,s2',s3,s3',s4,s4'])|(refine sX ?_;simp only[AU,↓reduceIte]))
       refine sT (sH Hb Ht ?_);simp[<-hN,s4']
      .have s4':¬(r.rg.edges.length:Int)<=4:=fun h=>s4 ((w _).1 h)
       rw[decide_eq_false s4] at hN;try (simp[e1,s1,s1',s2,s2',s3,s3',s4,s4'])
       repeat (first|(refine sR ?_;simp[e1,s1,s1',s2,s2',s3,s3',s4,s4'])|(refine sC ?_;simp[e1,s1,s1',s2,s2',s3,s3',s4,s4'])|(refine sX ?_;simp only[AU,↓reduceIte]))
       refine sT (sH Hb Ht ?_);simp[<-hN,s4']
     .have s3':¬(r.rg.nodes.length:Int)<=4:=fun h=>s3 ((w _).1 h)
      rw[if_neg s3] at hN;try (simp[e1,s1,s1',s2,s2',s3,s3'])
      repeat (first|(refine sR ?_;simp[e1,s1,s1',s2,s2',s3,s3'])|(refine sC ?_;simp[e1,s1,s1',s2,s2',s3,s3'])|(refine sX ?_;simp only[AU,↓reduceIte]))
      refine sT (sH Hb Ht ?_);simp[<-hN]
    .have s2':¬(r.lg.edges.length:Int)<=4:=fun h=>s2 ((w _).1 h)
     rw[if_neg s2] at hN;try (simp[e1,s1,s1',s2,s2'])
     repeat (first|(refine sR ?_;simp[e1,s1,s1',s2,s2'])|(refine sC ?_;simp[e1,s1,s1',s2,s2'])|(refine sX ?_;simp only[AU,↓reduceIte]))
     refine sT (sH Hb Ht ?_);simp[<-hN]
   .have s1':¬(r.lg.nodes.length:Int)<=4:=fun h=>s1 ((w _).1 h)
    rw[if_neg s1] at hN;try (simp[e1,s1,s1'])
    repeat (first|(refine sR ?_;simp[e1,s1,s1'])|(refine sC ?_;simp[e1,s1,s1'])|(refine sX ?_;simp only[AU,↓reduceIte]))
    refine sT (sH Hb Ht ?_);simp[<-hN]
  .have b1:(strR r != 0)=true:=by simp[e1]
   rw[if_neg e1] at hN;try (simp[b1,e1])
   repeat (first|(refine sR ?_;simp[b1,e1])|(refine sC ?_;simp[b1,e1])|(refine sX ?_;simp only[AU,↓reduceIte]))
   refine sT (sH Hb Ht ?_);simp[<-hN]
def smlA(t:Ty)(r:Ru)(c:Co):Bool:=if fewT t=true then (if lgtR r=true then smlC c else false) else false
theorem smlC_fit{c:Co}(h:smlC c=true):c.Fit:=by
 unfold smlC at h;split at h
 .rename_i h1;exact(fewC_fit h1).1
 .cases h
theorem smlA_fit{t:Ty}{r:Ru}{c:Co}(hr:r.Big)(h:smlA t r c=true):t.Fit/\r.Fit/\c.Fit:=by
 unfold smlA at h;split at h
 .split at h
  .rename_i h1 h2;exact⟨fewT_fit h1,lgtR_fit hr h2,smlC_fit h⟩
  .cases h
 .cases h
theorem smallA_c(t:Ty)(r:Ru)(c:Co)(hb:t.Big)(hr:r.Big)(hc:c.Big):DC 11 [t.av,r.av,c.av] (B (smlA t r c)):=by
 intro tok nt box nb;have h1:=tyFew_c t hb;have h2:=light43_c r hr;have h3:=small43_c c hc;obtain⟨N,hN⟩:∃N,smlA t r c=N:=⟨_,rfl⟩
 rw[hN];unfold smlA at hN;refine sI func11 ntmps11 fun Hb Ht=>?_
 repeat first|simp|refine sR ?_
 refine sD (h1 _ _) ?_;simp;cases e1:fewT t
 .rw[e1,if_neg (by simp)] at hN;try (simp)
  repeat (first|(refine sR ?_;simp)|(refine sC ?_;simp)|(refine sX ?_;simp only[AU,↓reduceIte]))
  refine sT (sH Hb Ht ?_);simp[<-hN]
 .rw[e1,if_pos rfl] at hN;try (simp)
  repeat (first|(refine sR ?_;simp)|(refine sC ?_;simp)|(refine sX ?_;simp only[AU,↓reduceIte]))
  refine sD (h2 _ _) ?_;simp;cases e2:lgtR r
  .rw[e2,if_neg (by simp)] at hN;try (simp)
   repeat (first|(refine sR ?_;simp)|(refine sC ?_;simp)|(refine sX ?_;simp only[AU,↓reduceIte]))
   refine sT (sH Hb Ht ?_);simp[<-hN]
  .rw[e2,if_pos rfl] at hN;try (simp)
   repeat (first|(refine sR ?_;simp)|(refine sC ?_;simp)|(refine sX ?_;simp only[AU,↓reduceIte]))
   refine sD (h3 _ _) ?_;simp;try (simp)
   repeat (first|(refine sR ?_;simp)|(refine sC ?_;simp)|(refine sX ?_;simp only[AU,↓reduceIte]))
   refine sT (sH Hb Ht ?_);simp[<-hN]
end Go.AM
namespace Go.Proofs.YtebmobphgaiaiaaGreat.kt
open Go Go.Proofs Go.RowKit
open Go.Proofs.Tryz
theorem run_append_none{P:Program}{w:World}(base:Nat)(t ty e:TypeId)(i:TypeInfo)(size:Nat)(ht:P.underlying t=some (.slice e))(hi:P.info? e=some i)(v:Value)(n c:Nat)(xs:List Value)(hown:w.ownsRow base e size v n xs):(Builtin.append_ #[t,t] ty #[v,.slice none 0 c]).run P w=.ok v w:=by
 rcases hown.2 with ⟨rfl,rfl⟩|⟨g,cap,cur,rfl,_,_,hnc,_⟩
 .simp[Builtin.append_,run_underlying ht,sizeOf,typeInfo,hi,Builtin.lenOf,Builtin.firstCells]
 .simp[Builtin.append_,run_underlying ht,sizeOf,typeInfo,hi,Builtin.lenOf,Builtin.firstCells,hnc,storeCells]
theorem append_src{P:Program}{w:World}{ops:Array Oper}{rest:List Oper}{o:Oper}{a:Act}{Q:Exit->Act->World->Prop}(hgd:o.guard=none)(s x:Operand)(t:TypeId)(ho:o.op=.call { callee:=.builtin .append,args := #[s,x],argTypes := #[t,t] })(base:Nat)(e:TypeId)(i:TypeInfo)(z:Value)(size bytes:Nat)(ht:P.underlying t=some (.slice e))(hi:P.info? e=some i)(hz:i.zero=some z)(hsize:i.size=size)(hby:i.bytes=bytes)(hzs:z.cells.size=size)(hsz:0<size)(v:Value)(n:Nat)(xs:List Value)(hs:a.eval s=v)(hown:w.ownsRow base e size v n xs)(A:Option Addr)(m c:Nat)(news:List Value)(hx:a.eval x=.slice A m c)(hl:news.length=m*size)(hA:A=none->m=0)(hnews:∀ad,A=some ad->∀j u,news[j]?=some u->w.cell? (ad.add j)=some u)(h1:∀u∈news,u.oneCell'=true)(h63:n+m<=maxLen)(hbytes:(n+m)*bytes<=140737488355328)(hbase:base<=w.heap.size)(h:∀v' w',w'.ownsRow base e size v' (n+m) (xs++news)->w.grownBy w' v.ownBlock->wpList P ops Q rest (a.put o.dst v') w'):wpList P ops Q (o::rest) a w:=by
 cases A with
 | some ad=>exact wpList_append_own w hgd s x t ho base e i z size bytes ht hi hz hsize hby hzs hsz v n xs hs hown ad m c news hx hl (hnews ad rfl) h1 h63 hbytes hbase fun v' w' h2 h3 _=>h v' w' h2 h3
 | none =>
  obtain rfl:=hA rfl;have hn:news=[]:=List.length_eq_zero_iff.1 (by omega)
  subst hn;refine wpList_plain hgd fun K hK=>?_
  have hrun:=run_append_none (P:=P) (w:=w) base t o.type e i size ht hi v n c xs hown;unfold Oper.wp;simp[execOp,ho,resolve,invoke,builtin,hs,hx,hrun,Result.andThen];exact hK _ _ (h v w (by simpa using hown) ⟨rfl,rfl,rfl,Nat.le_refl _,fun _ _ _=>rfl⟩)
theorem infoI:(prog.info? 3).map (fun i=>(i.zero,i.size,i.bytes))=some (some (.int .i64 0),1,8):=by kernel_rfl
theorem infoB1:(prog.info? 4).map (fun i=>(i.zero,i.size,i.bytes))=some (some (.bool false),1,1):=by kernel_rfl
set_option maxHeartbeats 2000000 in
set_option maxRecDepth 100000 in
theorem marked_any(b off n c:Nat)(p:Nat->Bool)(w:World)(hn:n<=1000000)(hb:b<w.heap.size)(hc:∀j,j<n->w.cell? ⟨b,off+j,none⟩=some (.bool (p j))):
  Calls prog 185 #[.slice (some ⟨b,off,none⟩) n c] w fun e w'=>∃v,e=.returned v/\w'.ownsRow w.heap.size 3 1 v (AM.mkL p n).length ((AM.mkL p n).map (Value.int .i64))/\Below w.heap.size w w':=by
 obtain⟨i0,hi,hz0,hz1,hz2⟩:=info_parts infoI
 go_enter func185,ntmps185
 go_wp2
 go_loopw [3,4] (fun v i wr=>∃k:Nat,k<=n/\i=.int .i64 k/\wr.ownsRow w.heap.size 3 1 v (AM.mkL p k).length ((AM.mkL p k).map (Value.int .i64))/\Below w.heap.size w wr) (fun _ i _=>n-(intOf i).toNat)
 case atStart=>exact⟨0,Nat.zero_le _,rfl,World.ownsRow_nil _ _ _ _,Below.refl _ _⟩
 case round =>
  obtain⟨k,hk,rfl,hown,hnx⟩:=hrel;have hml:=AM.mkL_len p k;have hcx:k<n->wr.cell? ⟨b,off+k,none⟩=some (.bool (p k)):=fun h=>(hnx.cell (by exact hb)).trans (hc k (by omega))
  cases hbv:p k
  .rw[hbv] at hcx;have hst:AM.mkL p (k+1)=AM.mkL p k:=by rw[AM.mkL_succ,if_neg (by simp only[hbv];decide)]
   go_wp2
   .refine⟨⟨k+1,by omega,by simp,by rw[hst];exact hown,hnx⟩,by simp[intOf];omega⟩
   .go_ret
    obtain rfl:k=n:=by omega
    exact⟨_,rfl,hown,hnx⟩
  .rw[hbv] at hcx;have hst:AM.mkL p (k+1)=AM.mkL p k++[(k:Int)]:=by rw[AM.mkL_succ,if_pos hbv]
   go_wp2_with (first
    | (at_builtin;refine wpList_append_own _ rfl _ _ 26 rfl w.heap.size 3 i0 (.int .i64 0) 1 8 underlying26 hi hz0 hz1 hz2 rfl (by decide) _ _ _ rfl (hown.alloc _) ⟨wr.heap.size,0,none⟩ 1 1 [.int .i64 k] rfl rfl ?c1 ?c2 ?c3 ?c4 ?c5 ?_)
    | go_in)
   case c1 =>
    intro j u hj
    match j,hj with
    | 0,hj=>simp at hj;subst hj;simp[Addr.add]
   case c2=>intro u hu;simp at hu;subst hu;rfl
   case c3=>unfold maxLen;omega
   case c4=>omega
   case c5=>have:=hnx.size;simp;omega
   .intro v' w1 hown' hgrow;intro _;have hnx1:Below w.heap.size w w1:=(hnx.alloc (by have:=hnx.size;omega) _).grown hgrow (by have:=hnx.size;simp;omega) (fun q hq=>(hown.lt q hq).1)
    have hl2:(AM.mkL p k).length+1=(AM.mkL p (k+1)).length:=by rw[hst];simp
    have hxs:List.map (Value.int .i64) (AM.mkL p k)++[Value.int .i64 k]=(AM.mkL p (k+1)).map (Value.int .i64):=by rw[hst,List.map_append];rfl
    rw[hl2,hxs] at hown'
    go_wp2
    exact⟨⟨k+1,by omega,by simp,hown',hnx1⟩,by simp[intOf];omega⟩
   .go_ret
    obtain rfl:k=n:=by omega
    exact⟨_,rfl,hown,hnx⟩
set_option maxRecDepth 100000 in
theorem marked_zero(A:Option Addr)(c:Nat)(w:World):
  Calls prog 185 #[.slice A 0 c] w fun e w'=>e=.returned (.slice none 0 0)/\w'=w:=by
 go_enter func185,ntmps185
 go_wp2
 go_loopw [3,4] (fun v i wr=>v=.slice none 0 0/\i=.int .i64 0/\wr=w) (fun _ i _=>0)
 case atStart=>exact⟨rfl,rfl,rfl⟩
 case round =>
  obtain⟨rfl,rfl,rfl⟩:=hrel
  go_wp2
  go_ret
  exact⟨rfl,rfl⟩
end Go.Proofs.YtebmobphgaiaiaaGreat.kt
namespace Go.Proofs.YtebmobphgaiaiaaGreat.kt
open Go Go.Proofs Go.RowKit
open Go.Proofs.Tryz
theorem owns_below{w w':World}{base:Nat}{e:TypeId}{size:Nat}{v:Value}{n:Nat}{xs:List Value}(h:w.ownsRow base e size v n xs)(hb:Below w.heap.size w w'):w'.ownsRow base e size v n xs:=by
 refine⟨h.1,?_⟩;rcases h.2 with h0|⟨g,cap,cur,h1,h2,h3,h4⟩
 .exact .inl h0
 .exact .inr ⟨g,cap,cur,h1,h2,(hb.block g (Array.getElem?_eq_some_iff.1 h3).1).trans h3,h4⟩
theorem owns_setCell{w:World}{base:Nat}{e:TypeId}{size:Nat}{v:Value}{n:Nat}{xs:List Value}(h:w.ownsRow base e size v n xs){p:Addr}(hp:p.block<base)(u:Value):(w.setCell p u).ownsRow base e size v n xs:=by
 refine⟨h.1,?_⟩;rcases h.2 with h0|⟨g,cap,cur,h1,h2,h3,h4⟩
 .exact .inl h0
 .exact .inr ⟨g,cap,cur,h1,h2,(Below.heap_setCell _ _ _ _ (by omega)).trans h3,h4⟩
theorem owns_mono{w:World}{base base':Nat}{e:TypeId}{size:Nat}{v:Value}{n:Nat}{xs:List Value}(h:w.ownsRow base e size v n xs)(hb:base'<=base):w.ownsRow base' e size v n xs:=by
 refine⟨h.1,?_⟩;rcases h.2 with h0|⟨g,cap,cur,h1,h2,h3⟩
 .exact .inl h0
 .exact .inr ⟨g,cap,cur,h1,by omega,h3⟩
theorem owns_slice{w:World}{base:Nat}{e:TypeId}{size:Nat}{v:Value}{n:Nat}{xs:List Value}(h:w.ownsRow base e size v n xs):∃A c,v=.slice A n c:=by
 rcases h.2 with ⟨rfl,h0⟩|⟨g,cap,cur,h1,h2,h3⟩
 .exact⟨none,0,by rw[h0]⟩
 .exact⟨_,_,h1⟩
theorem alloc_at(w:World)(o:Obj):(w.alloc o).heap[w.heap.size]?=some o:=by unfold World.alloc;exact Array.getElem?_push_size
theorem getD_map_bool{l:List Bool}{j:Nat}(h:j<l.length):(l.map Value.bool)[j]?=some (.bool (l.getD j false)):=by
 simp[h]
set_option maxHeartbeats 4000000 in
set_option maxRecDepth 100000 in
theorem least_any(GN:Value)(be oe m ce bn on n cn bm om cm:Nat)(N E:List Bool)(fs ts:Nat->Nat)(w:World)(hn0:0<n)(hn:n<=1000000)(hm:m<=1000000)(hN:N.length=n)(hE:E.length=m)(he:be<w.heap.size)(hbn:bn<w.heap.size)(hbm:bm<w.heap.size)(hf:∀j,j<m->fs j<n)(ht:∀j,j<m->ts j<n)(hce:∀j,j<m->w.cell? ⟨be,oe+j*3+1,none⟩=some (.int .i64 (fs j))/\w.cell? ⟨be,oe+j*3+2,none⟩=some (.int .i64 (ts j)))(hcn:∀j,j<n->w.cell? ⟨bn,on+j,none⟩=some (.bool (N.getD j false)))(hcm:∀j,j<m->w.cell? ⟨bm,om+j,none⟩=some (.bool (E.getD j false))):
    Calls prog 103 #[.agg #[GN,.slice (some ⟨be,oe,none⟩) m ce],.slice (some ⟨bn,on,none⟩) n cn,.slice (some ⟨bm,om,none⟩) m cm] w fun e w'=>∃v u,e=.returned (.agg #[v,u]) /\
      w'.ownsRow w.heap.size 3 1 v (AM.mkL (fun k=>(AM.lsK N E fs ts m).getD k false) n).length ((AM.mkL (fun k=>(AM.lsK N E fs ts m).getD k false) n).map (Value.int .i64)) /\
      w'.ownsRow w.heap.size 3 1 u (AM.mkL (fun k=>E.getD k false) m).length ((AM.mkL (fun k=>E.getD k false) m).map (Value.int .i64))/\Below w.heap.size w w':=by
  obtain⟨i0,hi,hz0,hz1,hz2⟩:=info_parts infoB1
  go_enter func103,ntmps103
  go_wp2_with (first
    | (at_builtin;refine append_src rfl _ _ 172 rfl (w.heap.size+1+1) 4 i0 (.bool false) 1 1 underlying172 hi hz0 hz1 hz2 rfl (by decide) _ 0 [] rfl ?c0 (some ⟨bn,on,none⟩) n cn (N.map Value.bool) rfl ?c1 ?c2 ?c3 ?c4 ?c5 ?c6 ?c7 ?_)
    | go_in)
  case c0 =>
    refine⟨rfl,.inr ⟨w.heap.size+1+1,0, #[],rfl,Nat.le_refl _,?_,Nat.le_refl _,Nat.zero_le _,rfl,rfl⟩⟩;have h:=alloc_at ((w.alloc (.cells #[GN,.slice (some ⟨be,oe,none⟩) m ce] 29)).alloc (.cells #[.slice none 0 0,.slice none 0 0] 35)) (.cells #[] 4);rw[show ((w.alloc (.cells #[GN,.slice (some ⟨be,oe,none⟩) m ce] 29)).alloc (.cells #[.slice none 0 0,.slice none 0 0] 35)).heap.size=w.heap.size+1+1 by simp] at h;exact h
  case c1=>rw[List.length_map,hN,Nat.mul_one]
  case c2=>intro h;cases h
  case c3 =>
    intro ad had j u hj;cases had;by_cases hjn:j<n
    . rw[getD_map_bool (by omega)] at hj
      cases hj;have:(⟨bn,on,none⟩:Addr).add j=⟨bn,on+j,none⟩:=by
        unfold Addr.add;split
        . rename_i e;subst e;rfl
        . rfl
      rw[this,<-hcn j hjn];exact((((Below.refl w.heap.size w).alloc (Nat.le_refl _) _).alloc (by simp) _).alloc (by simp;omega) _).cell hbn
    . rw[List.getElem?_eq_none (by simp;omega)] at hj
      cases hj
  case c4 =>
    intro u hu;obtain⟨b,_,rfl⟩:=List.mem_map.1 hu;rfl
  case c5=>unfold maxLen;omega
  case c6=>omega
  case c7=>simp
  intro v' w1 hown hg;try simp only[Nat.zero_add,List.nil_append] at hown
  obtain⟨g,cap,rfl,hg1,hg2⟩:=hown.form hn0;have hA:Below w.heap.size w ((w.alloc (.cells #[GN,.slice (some ⟨be,oe,none⟩) m ce] 29)).alloc (.cells #[.slice none 0 0,.slice none 0 0] 35)):=((Below.refl w.heap.size w).alloc (Nat.le_refl _) _).alloc (by simp) _
  have hAc:((w.alloc (.cells #[GN,.slice (some ⟨be,oe,none⟩) m ce] 29)).alloc (.cells #[.slice none 0 0,.slice none 0 0] 35)).cell? ⟨w.heap.size,1,none⟩=some (.slice (some ⟨be,oe,none⟩) m ce):=by simp
  have hAs:((w.alloc (.cells #[GN,.slice (some ⟨be,oe,none⟩) m ce] 29)).alloc (.cells #[.slice none 0 0,.slice none 0 0] 35)).heap.size=w.heap.size+1+1:=by simp
  have hAx0:((w.alloc (.cells #[GN,.slice (some ⟨be,oe,none⟩) m ce] 29)).alloc (.cells #[.slice none 0 0,.slice none 0 0] 35)).cell? ⟨w.heap.size+1,0,none⟩=some (.slice none 0 0):=by simp
  have hAx1:((w.alloc (.cells #[GN,.slice (some ⟨be,oe,none⟩) m ce] 29)).alloc (.cells #[.slice none 0 0,.slice none 0 0] 35)).cell? ⟨w.heap.size+1,1,none⟩=some (.slice none 0 0):=by simp
  have hAz0:((w.alloc (.cells #[GN,.slice (some ⟨be,oe,none⟩) m ce] 29)).alloc (.cells #[.slice none 0 0,.slice none 0 0] 35)).frozen? ⟨w.heap.size+1,0,none⟩=false:=by simp
  have hAz1:((w.alloc (.cells #[GN,.slice (some ⟨be,oe,none⟩) m ce] 29)).alloc (.cells #[.slice none 0 0,.slice none 0 0] 35)).frozen? ⟨w.heap.size+1,1,none⟩=false:=by simp
  generalize hwA:((w.alloc (.cells #[GN,.slice (some ⟨be,oe,none⟩) m ce] 29)).alloc (.cells #[.slice none 0 0,.slice none 0 0] 35))=wA at *;have hb1:Below (w.heap.size+1+1) wA w1:=((Below.refl _ _).alloc (by omega) _).grown hg (by simp;omega) (by intro q hq;simp[Value.ownBlock] at hq;omega)
  clear hg hwA hcn
  go_wp2
  go_loopw [8] (fun i wr=>∃k:Nat,k<=m/\i=.int .i64 k/\wr.ownsRow (w.heap.size+1+1) 4 1 (.slice (some ⟨g,0,none⟩) n cap) n ((AM.lsK N E fs ts k).map Value.bool)/\Below (w.heap.size+1+1) wA wr) (fun i _=>m-(intOf i).toNat)
  case atStart=>exact⟨0,Nat.zero_le _,rfl,hown,hb1⟩
  case round =>
    clear hown hb1;obtain⟨k,hk,rfl,hown,hnx⟩:=hrel;have hll:=AM.lsK_len N E fs ts k;have hcg:wr.cell? ⟨w.heap.size,1,none⟩=some (.slice (some ⟨be,oe,none⟩) m ce):=(hnx.cell (by simp;omega)).trans hAc
    have hcx:k<m->wr.cell? ⟨bm,om+k,none⟩=some (.bool (E.getD k false)):=fun h=>((hnx.cell (by simp;omega)).trans (hA.cell hbm)).trans (hcm k h)
    have hcf:k<m->wr.cell? ⟨be,oe+k*3+1,none⟩=some (.int .i64 (fs k)):=fun h=>((hnx.cell (by simp;omega)).trans (hA.cell he)).trans (hce k h).1
    have hct:k<m->wr.cell? ⟨be,oe+k*3+2,none⟩=some (.int .i64 (ts k)):=fun h=>((hnx.cell (by simp;omega)).trans (hA.cell he)).trans (hce k h).2
    cases hbv:E.getD k false
    . rw[hbv] at hcx
      go_wp2_with fail
      . exact⟨⟨k+1,by omega,by simp,by rw[AM.lsK_no hbv];exact hown,hnx⟩,by simp[intOf];omega⟩
      . have hkm:¬k<m:=by assumption
        obtain rfl:k=m:=by omega
        have hA1:Below w.heap.size w wr:=hA.trans (hnx.mono (by omega))
        have hcw:∀j,j<k->wr.cell? ⟨bm,om+j,none⟩=some (.bool (E.getD j false)):=fun j hj=>(hA1.cell hbm).trans (hcm j hj)
        have hcw2:∀j,j<n->wr.cell? ⟨g,0+j,none⟩=some (.bool ((AM.lsK N E fs ts k).getD j false)):=fun j hj=>by
          rw[Nat.zero_add,hown.cellAt _ (by omega)];exact getD_map_bool (by omega)
        have hgs:=(hown.lt g rfl).2;have hsz:=hA1.size;have hc1:=marked_any g 0 n cap (fun j=>(AM.lsK N E fs ts k).getD j false) wr hn hgs hcw2;refine hc1.mono ?_;rintro e w2 ⟨v2,rfl,ho2,hb2⟩;have hcw3:∀j,j<k->w2.cell? ⟨bm,om+j,none⟩=some (.bool (E.getD j false)):=fun j hj=>(hb2.cell (by simp;omega)).trans (hcw j hj)
        have hc2:=marked_any bm om k cm (fun j=>E.getD j false) w2 hm (by have:=hb2.size;omega) hcw3;clear hc1 hcw hcw2 hcw3 hcx hcf hct hcg
        go_wp2_with fail
        refine hc2.mono ?_;rintro e w3 ⟨u3,rfl,ho3,hb3⟩;clear hc2;have hsr:=hnx.size;have hs2:=hb2.size;have hs3:=hb3.size;have hnx3:Below (w.heap.size+1+1) wA w3:=(hnx.trans (hb2.mono (by omega))).trans (hb3.mono (by omega))
        have hx0:=(hnx3.cell (p:=⟨w.heap.size+1,0,none⟩) (by simp)).trans hAx0;have hx1:=(hnx3.cell (p:=⟨w.heap.size+1,1,none⟩) (by simp)).trans hAx1;have hz0':=(hnx3.frozen (p:=⟨w.heap.size+1,0,none⟩) (by simp)).trans hAz0
        have hz1':=(hnx3.frozen (p:=⟨w.heap.size+1,1,none⟩) (by simp)).trans hAz1
        have ho2':=owns_below (owns_mono (base':=w.heap.size+1+1) ho2 (by omega)) hb3
        have ho3':=owns_mono (base':=w.heap.size+1+1) ho3 (by omega)
        have hB3:Below w.heap.size w w3:=hA.trans (hnx3.mono (by omega))
        clear hown hnx ho2 ho3 hb2 hb3 hnx3 hA1 hsz;obtain⟨A2,c2,rfl⟩:=owns_slice ho2';obtain⟨A3,c3,rfl⟩:=owns_slice ho3'
        go_wp2
        refine bodyPost_ret (by simp[results,Tryz.results103,go_sem,hx0,hx1,hz0',hz1'];try rfl) rfl ?_;exact⟨_,_,rfl,owns_mono (owns_setCell (owns_setCell ho2' (by simp) _) (by simp) _) (by omega),owns_mono (owns_setCell (owns_setCell ho3' (by simp) _) (by simp) _) (by omega),(hB3.setCell (by simp) _).setCell (by simp) _⟩
    . rw[hbv] at hcx
      have hne1:w.heap.size≠g:=by omega
      have hne2:be≠g:=by omega
      have hne3:g≠w.heap.size:=by omega
      have hne4:g≠be:=by omega
      have hf1:=hown.frozenAt (fs k);have hf2:=hown.frozenAt (ts k)
      go_wp2_with fail
      . have hkm:k<m:=by assumption
        have hcf':=hcf hkm
        have hct':=hct hkm
        have hfk:=hf k hkm;have htk:=ht k hkm;have hfk':((fs k:Nat):Int)<n:=by omega
        have htk':((ts k:Nat):Int)<n:=by omega
        have hfk0:(0:Int)<=((fs k:Nat):Int):=by omega
        have htk0:(0:Int)<=((ts k:Nat):Int):=by omega
        have hc1:wr.cell? ⟨g,fs k,none⟩=some (.bool ((AM.lsK N E fs ts k).getD (fs k) false)):=by
          rw[hown.cellAt _ (by omega)];exact getD_map_bool (by omega)
        have hc2:wr.cell? ⟨g,ts k,none⟩=some (.bool ((AM.lsK N E fs ts k).getD (ts k) false)):=by
          rw[hown.cellAt _ (by omega)];exact getD_map_bool (by omega)
        have hst1:=(hown.stored (fs k) (.bool true)).1;have hst2:=(hown.stored (ts k) (.bool true)).1;have hd1:=hst1.cellAt (ts k) (by omega);have hd2:=hst2.cellAt (fs k) (by omega);have hd3:=hst1.frozenAt (ts k);have hd4:=hst2.frozenAt (fs k);clear hcf hct hcx
        go_region_held3 (fun w'=>w'.cell? ⟨w.heap.size,1,none⟩=some (.slice (some ⟨be,oe,none⟩) m ce)/\w'.cell? ⟨be,oe+k*3+1,none⟩=some (.int .i64 (fs k))/\w'.cell? ⟨be,oe+k*3+2,none⟩=some (.int .i64 (ts k))) (go_keep) (fail)
        have hst3:=(hst1.stored (ts k) (.bool true)).1.drew;have hnx':Below (w.heap.size+1+1) wA ((wr.setCell ⟨g,fs k,none⟩ (.bool true)).setCell ⟨g,ts k,none⟩ (.bool true)).drew:=((hnx.setCell hg1 _).setCell hg1 _).drew
        rw[<-List.map_set,<-List.map_set,<-AM.lsK_yes hbv] at hst3;clear hst1 hst2 hd1 hd2 hd3 hd4 hc1 hc2 hf1 hf2 hown hnx hcf' hct';generalize ((wr.setCell ⟨g,fs k,none⟩ (.bool true)).setCell ⟨g,ts k,none⟩ (.bool true)).drew=wn at *
        go_wp2
        exact⟨⟨k+1,by omega,by simp,hst3,hnx'⟩,by simp[intOf];omega⟩
      . have hkm:¬k<m:=by assumption
        exfalso
        rw[List.getD_eq_getElem?_getD,List.getElem?_eq_none (by omega)] at hbv;cases hbv
set_option maxHeartbeats 4000000 in
set_option maxRecDepth 100000 in
theorem least_zero(GN:Value)(AE AN AB:Option Addr)(ce n cn cm:Nat)(N:List Bool)(w:World)(hn:n<=1000000)(hN:N.length=n)(hA:AN=none->n=0)(hcn:∀a,AN=some a->∀j,j<n->w.cell? (a.add j)=some (.bool (N.getD j false))):
  Calls prog 103 #[.agg #[GN,.slice AE 0 ce],.slice AN n cn,.slice AB 0 cm] w fun e w'=>∃v u,e=.returned (.agg #[v,u]) /\
   w'.ownsRow w.heap.size 3 1 v (AM.mkL (fun k=>N.getD k false) n).length ((AM.mkL (fun k=>N.getD k false) n).map (Value.int .i64)) /\
   w'.ownsRow w.heap.size 3 1 u (AM.mkL (fun k=>false) 0).length ((AM.mkL (fun k=>false) 0).map (Value.int .i64))/\Below w.heap.size w w':=by
 obtain⟨i0,hi,hz0,hz1,hz2⟩:=info_parts infoB1
 go_enter func103,ntmps103
 go_wp2_with (first
  | (at_builtin;refine append_src rfl _ _ 172 rfl (w.heap.size+1+1) 4 i0 (.bool false) 1 1 underlying172 hi hz0 hz1 hz2 rfl (by decide) _ 0 [] rfl ?c0 AN n cn (N.map Value.bool) rfl ?c1 ?c2 ?c3 ?c4 ?c5 ?c6 ?c7 ?_)
  | go_in)
 case c0 =>
  refine⟨rfl,.inr ⟨w.heap.size+1+1,0, #[],rfl,Nat.le_refl _,?_,Nat.le_refl _,Nat.zero_le _,rfl,rfl⟩⟩;have h:=alloc_at ((w.alloc (.cells #[GN,.slice AE 0 ce] 29)).alloc (.cells #[.slice none 0 0,.slice none 0 0] 35)) (.cells #[] 4);rw[show ((w.alloc (.cells #[GN,.slice AE 0 ce] 29)).alloc (.cells #[.slice none 0 0,.slice none 0 0] 35)).heap.size=w.heap.size+1+1 by simp] at h;exact h
 case c1=>rw[List.length_map,hN,Nat.mul_one]
 case c2=>exact hA
 case c3 =>
  intro ad had j u hj;by_cases hjn:j<n
  .rw[getD_map_bool (by omega)] at hj;cases hj;have hc:=hcn ad had j hjn;rw[<-hc];exact((((Below.refl w.heap.size w).alloc (Nat.le_refl _) _).alloc (by simp) _).alloc (by simp;omega) _).cell (World.block_lt_of_cell? w _ hc)
  .rw[List.getElem?_eq_none (by simp;omega)] at hj;cases hj
 case c4 =>
  intro u hu;obtain⟨b,_,rfl⟩:=List.mem_map.1 hu;rfl
 case c5=>unfold maxLen;omega
 case c6=>omega
 case c7=>simp
 intro v' w1 hown hg;try simp only[Nat.zero_add,List.nil_append] at hown
 obtain⟨A1,c1,rfl⟩:=owns_slice hown;have hA:Below w.heap.size w ((w.alloc (.cells #[GN,.slice AE 0 ce] 29)).alloc (.cells #[.slice none 0 0,.slice none 0 0] 35)):=((Below.refl w.heap.size w).alloc (Nat.le_refl _) _).alloc (by simp) _
 have hAs:((w.alloc (.cells #[GN,.slice AE 0 ce] 29)).alloc (.cells #[.slice none 0 0,.slice none 0 0] 35)).heap.size=w.heap.size+1+1:=by simp
 have hAx0:((w.alloc (.cells #[GN,.slice AE 0 ce] 29)).alloc (.cells #[.slice none 0 0,.slice none 0 0] 35)).cell? ⟨w.heap.size+1,0,none⟩=some (.slice none 0 0):=by simp
 have hAx1:((w.alloc (.cells #[GN,.slice AE 0 ce] 29)).alloc (.cells #[.slice none 0 0,.slice none 0 0] 35)).cell? ⟨w.heap.size+1,1,none⟩=some (.slice none 0 0):=by simp
 have hAz0:((w.alloc (.cells #[GN,.slice AE 0 ce] 29)).alloc (.cells #[.slice none 0 0,.slice none 0 0] 35)).frozen? ⟨w.heap.size+1,0,none⟩=false:=by simp
 have hAz1:((w.alloc (.cells #[GN,.slice AE 0 ce] 29)).alloc (.cells #[.slice none 0 0,.slice none 0 0] 35)).frozen? ⟨w.heap.size+1,1,none⟩=false:=by simp
 generalize hwA:((w.alloc (.cells #[GN,.slice AE 0 ce] 29)).alloc (.cells #[.slice none 0 0,.slice none 0 0] 35))=wA at *;have hb1:Below (w.heap.size+1+1) wA w1:=((Below.refl _ _).alloc (by omega) _).grown hg (by simp;omega) (by intro q hq;simp[Value.ownBlock] at hq;omega)
 clear hg hwA hcn;have hc1:Calls prog 185 #[.slice A1 n c1] w1 fun e w'=>∃v,e=.returned v/\w'.ownsRow w1.heap.size 3 1 v (AM.mkL (fun k=>N.getD k false) n).length ((AM.mkL (fun k=>N.getD k false) n).map (Value.int .i64))/\Below w1.heap.size w1 w':=by
  by_cases h0:n=0
  .subst h0;refine(marked_zero A1 c1 w1).mono ?_;rintro e w' ⟨rfl,rfl⟩;exact⟨_,rfl,⟨rfl,.inl ⟨rfl,rfl⟩⟩,Below.refl _ _⟩
  .obtain⟨g,cap,e,hg1,hg2⟩:=hown.form (by omega);cases e;exact marked_any g 0 n _ (fun j=>N.getD j false) w1 hn hg2 fun j hj=>by
    rw[Nat.zero_add,hown.cellAt _ (by omega)];exact getD_map_bool (by omega)
 go_wp2
 go_loopw [8] (fun i wr=>i=.int .i64 0/\wr=w1) (fun i _=>0)
 case atStart=>exact⟨rfl,rfl⟩
 case round =>
  obtain⟨rfl,rfl⟩:=hrel
  go_wp2_with fail
  refine hc1.mono ?_;rintro e w2 ⟨v2,rfl,ho2,hb2⟩;clear hc1;have hc2:=marked_zero AB cm w2
  go_wp2_with fail
  refine hc2.mono ?_;rintro e w3 ⟨rfl,rfl⟩;clear hc2;have hsr:=hb1.size;have hs2:=hb2.size;have hnx3:Below (w.heap.size+1+1) wA w3:=hb1.trans (hb2.mono (by omega))
  have hx0:=(hnx3.cell (p:=⟨w.heap.size+1,0,none⟩) (by simp)).trans hAx0;have hx1:=(hnx3.cell (p:=⟨w.heap.size+1,1,none⟩) (by simp)).trans hAx1;have hz0':=(hnx3.frozen (p:=⟨w.heap.size+1,0,none⟩) (by simp)).trans hAz0
  have hz1':=(hnx3.frozen (p:=⟨w.heap.size+1,1,none⟩) (by simp)).trans hAz1
  have ho2':=owns_mono (base':=w.heap.size+1+1) ho2 (by omega)
  have hB3:Below w.heap.size w w3:=hA.trans (hnx3.mono (by omega))
  clear hown hb1 ho2 hb2 hnx3;obtain⟨A2,c2,rfl⟩:=owns_slice ho2'
  go_wp2
  refine bodyPost_ret (by simp[results,Tryz.results103,go_sem,hx0,hx1,hz0',hz1'];try rfl) rfl ?_;exact⟨_,_,rfl,owns_mono (owns_setCell (owns_setCell ho2' (by simp) _) (by simp) _) (by omega),⟨rfl,.inl ⟨rfl,rfl⟩⟩,(hB3.setCell (by simp) _).setCell (by simp) _⟩
end Go.Proofs.YtebmobphgaiaiaaGreat.kt
namespace Go.AM
open Go Go.Proofs Go.RowKit
open Go.Proofs.Tryz
def rB(l:List Bool):List (List D):=l.map fun b=>[D.raw (.bool b)]
abbrev bls(l:List Bool):D:=.sl 1 (rB l)
theorem rvd_bls{c:Addr->Option Value}{ps:Addr->Prop}{l:List Bool}{v:Value}(h:RVd c ps (bls l) v):
  ∃A cap,v=.slice A l.length cap/\l.length<=cap/\cap<=maxLen/\(l≠[]->∃a,A=some a)/\∀a,A=some a->∀i,i<l.length->c (a.add i)=some (.bool (l.getD i false)):=by
 unfold bls rB at h;generalize hes:(l.map fun n=>[D.raw (.bool n)])=es at h;cases h with
 | @sl _ _ A cap u hcap hmax hsz hA hc hr =>
  have hl:es.length=l.length:=by rw[<-hes];simp
  refine⟨A,cap,by rw[hl],by omega,hmax,fun hne=>hA (by intro e;rw[e] at hl;exact hne (List.length_eq_zero_iff.1 hl.symm)),fun a ha i hi=>?_⟩;have g:=(hc a ha i 0 (by omega) (by decide)).2;have r:=hr i 0 (by omega) (by rw[hsz _ (List.getElem_mem _)];decide);have e1:es[i][0]'(by rw[hsz _ (List.getElem_mem _)];decide)=D.raw (.bool l[i]):=by
   subst hes;simp
  rw[e1] at r;have e2:u i 0=.bool l[i]:=by
   generalize hu:u i 0=x at r;cases r;rfl
  rw[Nat.mul_one,Nat.add_zero,e2] at g;rw[g];simp[hi]
theorem rvd_edges{c:Addr->Option Value}{ps:Addr->Prop}{l:List E}{v:Value}(h:RVd c ps (AM.edges l) v):
  ∃A cap,v=.slice A l.length cap/\l.length<=cap/\cap<=maxLen/\(l≠[]->∃a,A=some a)/\∀a,A=some a->∀i,i<l.length->c (a.add (i*3+0))=some (.int .i64 (l.getD i default).ty)/\c (a.add (i*3+1))=some (.int .i64 (l.getD i default).fr)/\c (a.add (i*3+2))=some (.int .i64 (l.getD i default).to):=by
 unfold AM.edges at h;generalize hes:l.map E.cells=es at h;cases h with
 | @sl _ _ A cap u hcap hmax hsz hA hc hr =>
  have hl:es.length=l.length:=by rw[<-hes];simp
  refine⟨A,cap,by rw[hl],by omega,hmax,fun hne=>hA (by intro e;rw[e] at hl;exact hne (List.length_eq_zero_iff.1 hl.symm)),fun a ha i hi=>?_⟩;have hge:l.getD i default=l[i]:=by simp[hi]
  have key:∀(j:Nat) (hj:j<3) (n:Int),(l[i].cells)[j]'(by simpa[E.cells] using hj)=D.raw (.int .i64 n)->c (a.add (i*3+j))=some (.int .i64 n):=fun j hj n hn=>by
   have g:=(hc a ha i j (by omega) hj).2;have r:=hr i j (by omega) (by rw[hsz _ (List.getElem_mem _)];exact hj);have e1:es[i][j]'(by rw[hsz _ (List.getElem_mem _)];exact hj)=D.raw (.int .i64 n):=by
    subst hes;rw[<-hn];simp
   rw[e1] at r;generalize hu:u i j=x at r g;cases r;exact g
  rw[hge];exact⟨key 0 (by decide) _ rfl,key 1 (by decide) _ rfl,key 2 (by decide) _ rfl⟩
theorem spot_none{w:World}{a:Addr}{u:Value}(h:w.cell? (a.add 0)=some u):a.spot=none:=by
 cases hsp:a.spot with
 | none=>rfl
 | some q =>
  exfalso
  simp only[World.cell?,Addr.add,hsp,Option.isSome_some,↓reduceIte] at h;split at h<;>simp at h
theorem addr_add(b off j:Nat):(⟨b,off,none⟩:Addr).add j=⟨b,off+j,none⟩:=by
 unfold Addr.add;split
 .rename_i e;subst e;rfl
 .rfl
theorem agg2{G:Gh}{w:World}{x y:AV}{v:Value}(h:RV G w (.agg [x,y]) v):∃v1 v2,v=.agg #[v1,v2]/\RV G w x v1/\RV G w y v2:=by
 cases h with
 | @agg _ vs hl h2 h3 =>
  match vs,hl with
  | [v1,v2],_=>exact⟨v1,v2,rfl,h2 0 (by simp) (by simp),h2 1 (by simp) (by simp)⟩
theorem agg2_of{G:Gh}{w:World}{x y:AV}{v1 v2:Value}(h1:RV G w x v1)(h2:RV G w y v2)(o1:v1.oneCell'=true)(o2:v2.oneCell'=true):RV G w (.agg [x,y]) (.agg #[v1,v2]):=by
 have:=RV.agg (G:=G) (w:=w) (cs:=[x,y]) (vs:=[v1,v2]) rfl (fun i g1 g2=>by
  match i,g1 with
  | 0,_=>exact h1
  | 1,_=>exact h2) (by simp[o1,o2])
 exact this
theorem rvd_d{G:Gh}{w:World}{x:D}{v:Value}(h:RV G w (.d x) v):RVd w.cell? G.ps x v:=by cases h with|d h=>exact h
theorem owns_one{w:World}{base:Nat}{e:TypeId}{size:Nat}{v:Value}{n:Nat}{xs:List Value}(h:w.ownsRow base e size v n xs):v.oneCell'=true:=by
 obtain⟨A,c,rfl⟩:=YtebmobphgaiaiaaGreat.kt.owns_slice h;rfl
theorem lsK_get(g:Gr)(hv:vG g=0)(N E:List Bool)(hN:N.length=g.nodes.length):∀i,i<=g.edges.length->∀k,k<g.nodes.length ->
  (lsK N E (fun j=>(g.edges.getD j default).fr.toNat) (fun j=>(g.edges.getD j default).to.toNat) i).getD k false=lsN g (fun k=>N.getD k false) (fun k=>E.getD k false) i k
 | 0,_,k,hk=>by simp[lsK,lsN]
 | i+1,hi,k,hk=>by
  have ih:=lsK_get g hv N E hN i (by omega) k hk;obtain⟨b1,b2,b3,b4⟩:=validG_edges hv (g.edges.getD i default) (getD_mem (by omega));rw[lsN_succ,<-ih];have hl:=lsK_len N E (fun j=>(g.edges.getD j default).fr.toNat) (fun j=>(g.edges.getD j default).to.toNat) i;cases he:E.getD i false
  .rw[lsK_no he];simp
  .rw[lsK_yes he];generalize lsK N E _ _ i=L at *;have set_get:∀(M:List Bool) (a:Nat),a<M.length->(M.set a true).getD k false=(M.getD k false||decide (a=k)):=fun M a ha=>by
    by_cases e:a=k
    .subst e;simp[ha]
    .simp[e]
   rw[set_get _ _ (by rw[List.length_set];omega),set_get _ _ (by omega)];have e1:((g.edges.getD i default).fr.toNat=k)=((g.edges.getD i default).fr=(k:Int)):=by rw[eq_iff_iff];omega
   have e2:((g.edges.getD i default).to.toNat=k)=((g.edges.getD i default).to=(k:Int)):=by rw[eq_iff_iff];omega
   simp only[e1,e2,Bool.true_and,Bool.or_assoc]
theorem least_c(g:Gr)(hg:g.Fit)(hv:vG g=0)(N E:List Bool)(hN:N.length=g.nodes.length)(hE:E.length=g.edges.length):DC 103 [g.av,.d (bls N),.d (bls E)] (lstP g (fun k=>N.getD k false) (fun k=>E.getD k false)).av:=by
 intro tok nt box nb;have hgn:=hg.n;have hge:=hg.e;refine⟨Enters.mk func103 rfl (by kernel_rfl),fun G w vals hm hr=>?_⟩;obtain⟨hlen,hrv⟩:=hr
 match vals,hlen with
 | [v,x,y],_ =>
  have h0:=hrv 0 (by simp) (by simp);have h1:=hrv 1 (by simp) (by simp);have h2:=hrv 2 (by simp) (by simp);simp only[List.getElem_cons_zero,List.getElem_cons_succ] at h0 h1 h2;obtain⟨v1,v2,rfl,g1,g2⟩:=agg2 h0;obtain⟨AE,ce,rfl,hce,hmE,hAE,hcE⟩:=rvd_edges (rvd_d g2);obtain⟨AN,cn,rfl,hcn,hmN,hAN,hcN⟩:=rvd_bls (rvd_d h1);obtain⟨AB,cb,rfl,hcb,hmB,hAB,hcB⟩:=rvd_bls (rvd_d h2);have hANz:AN=none->N.length=0:=fun e=>by
   by_cases hN0:N=[]
   .rw[hN0];rfl
   .obtain⟨a,ha⟩:=hAN hN0;rw[e] at ha;cases ha
  by_cases h0:g.edges.length=0
  .have hE0:E.length=0:=by omega
   rw[h0,hE0];refine(YtebmobphgaiaiaaGreat.kt.least_zero v1 AE AN AB ce N.length cn cb N w (by omega) rfl hANz (fun a ha j hj=>hcN a ha j hj)).mono ?_;rintro e w' ⟨u1,u2,rfl,o1,o2,hb⟩;have e1:mkL (fun k=>N.getD k false) N.length=(lstP g (fun k=>N.getD k false) (fun k=>E.getD k false)).nodes:=by
    unfold lstP;simp only;rw[h0,hN];exact mkL_ext fun k hk=>by simp[lsN]
   have e2:mkL (fun k=>false) 0=(lstP g (fun k=>N.getD k false) (fun k=>E.getD k false)).edges:=by
    unfold lstP;simp only;rw[h0];rfl
   rw[e1] at o1;rw[e2] at o2;exact⟨_,_,_,G,rfl,⟨rfl,rfl⟩,rfl,relM_below hm hb,agg2_of (.d (rvd_owns hm o1)) (.d (rvd_owns hm o2)) (owns_one o1) (owns_one o2),le_below hm hb,fun k hk=>⟨hk,rfl⟩⟩
  .have hed:=fun j (hj:j<g.edges.length)=>validG_edges hv (g.edges.getD j default) (getD_mem hj)
   have hn0:0<g.nodes.length:=by have:=hed 0 (by omega);omega
   obtain⟨a1,rfl⟩:=hAE (by intro e;rw[e] at h0;exact h0 rfl);obtain⟨a2,rfl⟩:=hAN (by intro e;rw[e] at hN;simp at hN;omega);obtain⟨a3,rfl⟩:=hAB (by intro e;rw[e] at hE;simp at hE;omega);have cE:=hcE a1 rfl;have cN:=hcN a2 rfl;have cB:=hcB a3 rfl;have s1:=spot_none (a:=a1.add 0) (by
    have:=(cE 0 (by omega)).1
    simp only[Nat.zero_mul,Nat.zero_add] at this;have e:(a1.add 0).add 0=a1.add 0:=by unfold Addr.add;simp
    rw[e];exact this)
   have s1':a1.spot=none:=by unfold Addr.add at s1;simpa using s1
   have s2:=spot_none (cN 0 (by omega));have s3:=spot_none (cB 0 (by omega));obtain⟨be,oe,sp⟩:=a1;obtain⟨bn,on,sp2⟩:=a2;obtain⟨bm,om,sp3⟩:=a3;simp only at s1' s2 s3;subst s1' s2 s3;simp only[addr_add] at cE cN cB;have q1:=World.block_lt_of_cell? w _ (cE 0 (by omega)).2.1;have q2:=World.block_lt_of_cell? w _ (cN 0 (by omega));have q3:=World.block_lt_of_cell? w _ (cB 0 (by omega));rw[hN];rw[hN] at cN;rw[hE];rw[hE] at cB;refine(YtebmobphgaiaiaaGreat.kt.least_any v1 be oe g.edges.length ce bn on g.nodes.length cn bm om cb N E (fun j=>(g.edges.getD j default).fr.toNat) (fun j=>(g.edges.getD j default).to.toNat) w hn0 (by omega) (by omega) hN hE q1 q2 q3
    (fun j hj=>by have:=hed j hj;omega) (fun j hj=>by have:=hed j hj;omega) (fun j hj=>?_) cN cB).mono ?_
   .have h3:=hed j hj;obtain⟨_,c1,c2⟩:=cE j hj;refine⟨?_,?_⟩
    .rw[show oe+j*3+1=oe+(j*3+1) by omega,c1,show (((g.edges.getD j default).fr.toNat:Nat):Int)=(g.edges.getD j default).fr by omega]
    .rw[show oe+j*3+2=oe+(j*3+2) by omega,c2,show (((g.edges.getD j default).to.toNat:Nat):Int)=(g.edges.getD j default).to by omega]
   .rintro e w' ⟨u1,u2,rfl,o1,o2,hb⟩;have e1:mkL (fun k=>(lsK N E (fun j=>(g.edges.getD j default).fr.toNat) (fun j=>(g.edges.getD j default).to.toNat) g.edges.length).getD k false) g.nodes.length=(lstP g (fun k=>N.getD k false) (fun k=>E.getD k false)).nodes:=by
     unfold lstP;simp only;exact mkL_ext fun k hk=>lsK_get g hv N E hN _ (nr _) k hk
    have e2:mkL (fun k=>E.getD k false) g.edges.length=(lstP g (fun k=>N.getD k false) (fun k=>E.getD k false)).edges:=rfl
    rw[e1] at o1;rw[e2] at o2;exact⟨_,_,_,G,rfl,⟨rfl,rfl⟩,rfl,relM_below hm hb,agg2_of (.d (rvd_owns hm o1)) (.d (rvd_owns hm o2)) (owns_one o1) (owns_one o2),le_below hm hb,fun k hk=>⟨hk,rfl⟩⟩
@[simp] theorem rep_rB(n:Nat):List.replicate n [AV.d (.raw (.bool false))]=rowsB (List.replicate n false):=by simp[rowsB]
def mbL(b:Nat->Bool)(n i:Nat):List Bool:=(List.range n).map fun (k:Nat)=>decide (k<i)&&b k
@[simp] theorem mbL_len(b:Nat->Bool)(n i:Nat):(mbL b n i).length=n:=by simp[mbL]
theorem congrArg₂'{a b c d:List Int}(h:a=b)(k:c=d):(⟨a,c⟩:Mo)=⟨b,d⟩:=by rw[h,k]
theorem mbL_zero(b:Nat->Bool)(n:Nat):mbL b n 0=List.replicate n false:=by
 refine List.ext_getElem (by simp) fun k h1 h2=>?_
 simp[mbL]
theorem mbL_set(b:Nat->Bool){n i:Nat}(h:i<n):(mbL b n i).set i (b i)=mbL b n (i+1):=by
 refine List.ext_getElem (by simp) fun k h1 h2=>?_
 rw[List.getElem_set];simp only[mbL,List.getElem_map,List.getElem_range];split
 .rename_i e;subst e;simp
 .rename_i e;have:(k<i+1)=(k<i):=by rw[eq_iff_iff];omega
  simp[this]
theorem mbL_get(b:Nat->Bool){n k:Nat}(h:k<n):(mbL b n n).getD k false=b k:=by simp[mbL,h]
abbrev m7N(g:Gr)(S:Int)(i:Nat):List Bool:=mbL (bitV S) g.nodes.length i
abbrev m7E(g:Gr)(S:Int)(i:Nat):List Bool:=mbL (fun j=>bitV S (g.nodes.length+j)) g.edges.length i
def stM7a(g:Gr)(S:Int)(nb:Nat)(box:Bxs)(tok:Tks)(nt i:Nat):AS :=
 ⟨tl [(7,I i),(6,.msl (nb+16) 0 g.edges.length 1),(5,.msl (nb+12) 0 g.nodes.length 1),(1,.d (u64 S)),(2,.ptr (nb+2) 0 0),(4,.ptr (nb+4) 0 0)],lb nb box [(16,rowsB (m7E g S 0)),(12,rowsB (m7N g S i)),(2,[[.d (ints g.nodes),.d (AM.edges g.edges)]]),(4,[[nilS,nilS]])],tok,nt⟩
def stM7b(g:Gr)(S:Int)(nb:Nat)(box:Bxs)(tok:Tks)(nt i:Nat):AS :=
 ⟨tl [(8,I i),(6,.msl (nb+16) 0 g.edges.length 1),(5,.msl (nb+12) 0 g.nodes.length 1),(1,.d (u64 S)),(2,.ptr (nb+2) 0 0),(4,.ptr (nb+4) 0 0)],lb nb box [(16,rowsB (m7E g S i)),(12,rowsB (m7N g S g.nodes.length)),(2,[[.d (ints g.nodes),.d (AM.edges g.edges)]]),(4,[[nilS,nilS]])],tok,nt⟩
theorem to_frzBl{p q:Nat->Prop}{k n:Nat}{L:List Bool}(h:L.length=n):To p q (some (k,1,rB L)) (.msl k 0 n 1) (.d (bls L)):=by
 have h2:=To.frz (p:=p) (q:=q) (fz:=some (k,1,rB L)) (k:=k) (sz:=1) (es:=rB L) rfl;have:(rB L).length=n:=by simp[rB,h]
 rw[this] at h2;exact h2
theorem made07_c(g:Gr)(hg:g.Fit)(hv:vG g=0)(S:Int):DC 53 [g.av,.d (u64 S)] (mad7 g S).av:=by
 intro tok nt box nb;have hgn:=hg.n;have hge:=hg.e;have hL:=least_c g hg hv (m7N g S g.nodes.length) (m7E g S g.edges.length) (by simp) (by simp);have hLe:lstP g (fun k=>(m7N g S g.nodes.length).getD k false) (fun k=>(m7E g S g.edges.length).getD k false)=mad7 g S:=by
  unfold mad7 lstP;have e2:∀k,k<g.edges.length->(m7E g S g.edges.length).getD k false=bitV S (g.nodes.length+k):=fun k hk=>mbL_get _ hk
  refine congrArg₂' ?_ (mkL_ext e2);refine mkL_ext fun k hk=>?_
  have e1:(m7N g S g.nodes.length).getD k false=bitV S k:=mbL_get _ hk
  unfold lsN;show ((m7N g S g.nodes.length).getD k false||_)=(bitV S k||_)
  rw[e1];congr 1
  rw[Bool.eq_iff_iff,List.any_eq_true,List.any_eq_true];refine exists_congr fun j=>and_congr_right fun hj=>?_
  show ((m7E g S g.edges.length).getD j false&&_)=true↔(bitV S (g.nodes.length+j)&&_)=true
  rw[e2 j (List.mem_range.1 hj)]
 rw[hLe] at hL;have hrN:List.replicate g.nodes.length [B false]=rowsB (m7N g S 0):=by rw[m7N,mbL_zero];unfold rowsB;rw[List.map_replicate]
 have hrE:List.replicate g.edges.length [B false]=rowsB (m7E g S 0):=by rw[m7E,mbL_zero];unfold rowsB;rw[List.map_replicate]
 refine sI func53 ntmps53 fun Hb Ht=>?_
 refine sR ?_;simp;refine sN ?_;refine AL.region5 follows_Tryz (nr _) (by kernel_rfl) (Side.of (by simp)) ?_;simp[FarM,FarN,NB,mks,lds,maker];refine⟨by omega,by omega,?_⟩;repeat first|simp|refine sR ?_
 refine sN ?_;refine sL (stM7a g S nb box tok nt) (fun i=>i<=g.nodes.length) (fun i=>g.nodes.length-i) 0 (Nat.zero_le _) (wM (nr _) rfl (by simp[ToL,lk]) (by simp[BoxL,lk,m7N,m7E,mbL_zero])) ?_;rintro i S' hi hS;simp only[stM7a] at hS;subst hS;have hw:=sW (i:=i) (by omega);have hln:(m7N g S i).length=g.nodes.length:=mbL_len _ _ _
 repeat first|simp|refine sR ?_|refine sC ?_
 refine⟨fun hlt=>?_,fun hge=>?_⟩
 .have hst:=mbL_set (bitV S) hlt;have ht:(i:Int).tmod 64=(i:Int) % 64:=Int.tmod_eq_emod_of_nonneg (by omega)
  have h0:(0:Int)<=(i:Int) % 64:=by omega
  repeat first|simp[hlt,ht,h0]|refine sR ?_
  have hbit:(IntKind.u64.wrap ((((S.fdiv (2 ^ min (((i:Int) % 64)).toNat IntKind.u64.bits) % 2 ^ IntKind.u64.bits).toNat &&& (1 % 2 ^ IntKind.u64.bits):Nat):Int))==1)=bitV S i:=rfl
  simp only[hbit];repeat first|simp[hw,hst]|refine sR ?_
  refine sE ?_;exact⟨i+1,hlt,by omega,wM (nr _) rfl (by simp[ToL,lk]) (by simp[BoxL,lk,m7N,hst])⟩
 .refine sX ?_;simp only[AU,↓reduceIte];have:i=g.nodes.length:=by omega
  subst this;repeat first|simp|refine sR ?_
  refine sN ?_;refine sL (stM7b g S nb box tok nt) (fun i=>i<=g.edges.length) (fun i=>g.edges.length-i) 0 (Nat.zero_le _) wkA ?_;rintro i S' hi hS;simp only[stM7b] at hS;subst hS;have hw:=sW (i:=i) (by omega);have hw2:IntKind.i64.wrap ((g.nodes.length:Int)+↑i)=((g.nodes.length+i:Nat):Int):=by rw[wrap_in (by omega) (by omega)];simp
  have hle:(m7E g S i).length=g.edges.length:=mbL_len _ _ _
  repeat first|simp|refine sR ?_|refine sC ?_
  refine⟨fun hlt=>?_,fun hge=>?_⟩
  .have hst:=mbL_set (fun j=>bitV S (g.nodes.length+j)) hlt;have ht:((g.nodes.length:Int)+(i:Int)).tmod 64=((g.nodes.length:Int)+(i:Int)) % 64:=Int.tmod_eq_emod_of_nonneg (by omega)
   have h0:(0:Int)<=((g.nodes.length:Int)+(i:Int)) % 64:=by omega
   repeat first|simp[hlt,hw2,ht,h0]|refine sR ?_
   have hbit:(IntKind.u64.wrap ((((S.fdiv (2 ^ min ((((g.nodes.length:Int)+(i:Int)) % 64)).toNat IntKind.u64.bits) % 2 ^ IntKind.u64.bits).toNat &&& (1 % 2 ^ IntKind.u64.bits):Nat):Int))==1)=bitV S (g.nodes.length+i):=by
    unfold bitV;rw[Int.natCast_add]
   simp only[hbit];repeat first|simp[hw,hst]|refine sR ?_
   refine sE ?_;exact⟨i+1,hlt,by omega,wM (nr _) rfl (by simp[ToL,lk]) (by simp[BoxL,lk,m7E,hst])⟩
  .refine sX ?_;simp only[AU,↓reduceIte];have:i=g.edges.length:=by omega
   subst this;refine AL.weak (Weaks.frz (l':=[(6,.d (bls (m7E g S g.edges.length))),(5,.msl (nb+12) 0 g.nodes.length 1),(2,.ptr (nb+2) 0 0),(4,.ptr (nb+4) 0 0)]) (loc':=[(12,rowsB (m7N g S g.nodes.length)),(2,[[.d (ints g.nodes),.d (AM.edges g.edges)]]),(4,[[nilS,nilS]])]) 16 1 (rB (m7E g S g.edges.length)) (nr _) rfl (by simp[lk,rowsB_eq,rB]) (by simp[lk]) (fun e he=>by obtain⟨b,_,rfl⟩:=List.mem_map.1 he;rfl) (by simp[ToL,lk,lb_at];exact to_frzBl hle) (by simp[BoxL,lk])) ?_;have hln:(m7N g S g.nodes.length).length=g.nodes.length:=mbL_len _ _ _
   refine AL.weak (Weaks.frz (l':=[(6,.d (bls (m7E g S g.edges.length))),(5,.d (bls (m7N g S g.nodes.length))),(2,.ptr (nb+2) 0 0),(4,.ptr (nb+4) 0 0)]) (loc':=[(2,[[.d (ints g.nodes),.d (AM.edges g.edges)]]),(4,[[nilS,nilS]])]) 12 1 (rB (m7N g S g.nodes.length)) (nr _) rfl (by simp[lk,rowsB_eq,rB]) (by simp[lk]) (fun e he=>by obtain⟨b,_,rfl⟩:=List.mem_map.1 he;rfl) (by simp[ToL,lk,lb_at];exact to_frzBl hln) (by simp[BoxL,lk])) ?_;repeat first|simp|refine sR ?_
   refine sD (hL _ _) ?_;repeat first|simp|refine sR ?_
   refine sT (sH Hb Ht ?_);simp
theorem maxLen_ge:(1000000:Nat)<=maxLen:=by decide
theorem mtT_big{ns es:List (Int × Int)}(h1:U82 ns):(mtT ns es).Big:=by
 obtain⟨l1,l2⟩:=mtT_len ns es;have hm:=maxLen_ge;have hmt:1<=mtn ns/\mtn ns<=6:=by unfold mtn;omega
 refine⟨by rw[bigN_eq];omega,by rw[bigN_eq];omega,fun x hx=>?_,fun x hx=>?_⟩
 .obtain⟨i,hi,e⟩:=List.getElem_of_mem hx;have:(mtT ns es).nd i=x:=by rw[<-e];unfold Ty.nd;simp[hi]
  rw[mtT_nd (by omega)] at this;rw[<-this];have:=(abc_ok i (by omega)).2.1
  have hl:=mtO_len i (ns.getD i (0,0)).2;refine⟨by show (abcS.extract i (i+1)).size<=_;omega,by rw[bigN_eq];show (mtO i (ns.getD i (0,0)).2).length<=_;omega,fun y hy=>?_⟩;have hm2:=mtO_mem (mt_in h1 i).2 hy;have hu:=(uvw_ok i (by omega)).2.1;exact⟨by rw[hm2.1];omega,by rw[bigN_eq];omega,fun z hz=>by have:=hm2.2.2.2.2 z hz;omega⟩
 .obtain⟨i,hi,e⟩:=List.getElem_of_mem hx;have:(mtT ns es).ed i=x:=by rw[<-e];unfold Ty.ed;simp[hi]
  rw[mtT_ed (by omega)] at this;rw[<-this];have:=(efg_ok i (by omega)).2.1
  show (efgS.extract i (i+1)).size<=_
  omega
theorem moG_len(t:Ty)(g:Gr)(cs:List Int):(moG t g cs).nodes.length<=g.nodes.length+2/\(moG t g cs).edges.length<=g.edges.length+3:=by
 constructor
 .show (g.nodes++lgN (lfs t) cs (min cs.length 2)).length<=_
  have:=lgN_len (lfs t) cs (min cs.length 2)
  rw[List.length_append];omega
 .show (g.edges++moE t (moNs t g cs) cs (moJ t (moNs t g cs) cs)).length<=_
  have h:(moE t (moNs t g cs) cs (moJ t (moNs t g cs) cs)).length<=moJ t (moNs t g cs) cs:=by
   unfold moE;refine Nat.le_trans (List.length_filter_le _ _) ?_;rw[List.length_map,List.length_range];exact nr _
  have h2:moJ t (moNs t g cs) cs<=3:=by unfold moJ;split<;>omega
  rw[List.length_append];omega
theorem lgR_len(t:Ty)(ns:List Int)(es:List (Int × Int × Int))(most:Nat):(lgR t ns es most).nodes.length<=most/\(lgR t ns es most).edges.length<=8:=by
 refine⟨lgN_len _ _ _,?_⟩;have h2:lgJ t (lgN (lfs t) ns most) es<=8:=by unfold lgJ;split<;>omega
 exact Nat.le_trans (lgE_len _ _ _ _) h2
theorem sc_len{t:Ty}(h0:tyE t=0){ns:List Int}{es:List (Int × Int × Int)}(h3:U83 es)(S:Int):VP (scL t ns es) (mad7 (scL t ns es) S)/\(exG (scL t ns es) (mad7 (scL t ns es) S)).nodes.length<=3/\(exG (scL t ns es) (mad7 (scL t ns es) S)).edges.length<=8/\(mad7 (scL t ns es) S).nodes.length<=3/\(mad7 (scL t ns es) S).edges.length<=8:=by
 obtain⟨hL,_,_⟩:=lgR_lgm (ns:=ns) h0 h3 (show 3<=6 by decide);have hL:Lg t (scL t ns es):=hL
 obtain⟨a,b⟩:=lgR_len t ns es 3;have a:(scL t ns es).nodes.length<=3:=a
 have b:(scL t ns es).edges.length<=8:=b
 have hvp:VP (scL t ns es) (mad7 (scL t ns es) S):=lstP_vp hL.valid
 obtain⟨k1,k2⟩:=emb_lenB hvp.emb;have e1:(exG (scL t ns es) (mad7 (scL t ns es) S)).nodes.length=(mad7 (scL t ns es) S).nodes.length:=List.length_map _
 have e2:(exG (scL t ns es) (mad7 (scL t ns es) S)).edges.length=(mad7 (scL t ns es) S).edges.length:=List.length_map _
 exact⟨hvp,by omega,by omega,by omega,by omega⟩
theorem scRu_big{t:Ty}(h0:tyE t=0){ns:List Int}{es:List (Int × Int × Int)}(h3:U83 es)(S:Int)(cs:List Int):(scRu t ns es S cs).Big:=by
 obtain⟨_,a,b,c,d⟩:=sc_len (ns:=ns) h0 h3 S;have e0:(cdOf 1 []).Fit:=cdOf_fit (by rw[kidN_eq];simp) (by simp)
 refine⟨by rw[bigN_eq];exact⟨by show (mad7 (scL t ns es) S).nodes.length<=_;omega,by show (mad7 (scL t ns es) S).edges.length<=_;omega⟩,by rw[bigN_eq];exact⟨by show (iota _).length<=_;rw[iota_length];omega,by show (iota _).length<=_;rw[iota_length];omega⟩,by rw[bigN_eq];exact Nat.zero_le _,by rw[bigN_eq];exact Nat.zero_le _,by rw[bigN_eq];exact Nat.zero_le _,by rw[bigN_eq];exact Nat.zero_le _,e0.big⟩
theorem mkCo_big{t:Ty}{ns:List Int}{es:List (Int × Int × Int)}{xs:List (List Int)}:(mkCo t ns es xs).Big:=by
 obtain⟨a,b⟩:=lgR_len t ns es 3;have c1:(mkCg t ns es).nodes.length<=3:=a
 have c2:(mkCg t ns es).edges.length<=8:=by show ((lgR t ns es 3).edges.take 4).length<=8;rw[List.length_take];omega
 refine⟨by show mkNm.size<=maxLen;decide,⟨by rw[bigN_eq];show (mkCg t ns es).nodes.length<=_;omega,by rw[bigN_eq];show (mkCg t ns es).edges.length<=_;omega⟩,by rw[bigN_eq];show ((xs.take 3).map _).length<=_;rw[List.length_map,List.length_take];omega,fun x hx=>?_⟩;obtain⟨l,_,rfl⟩:=List.mem_map.1 (show x∈(xs.take 3).map (mkXt t (mkCg t ns es)) from hx);obtain⟨m1,m2⟩:=moG_len t (mkCg t ns es) l;exact⟨by rw[bigN_eq];show (iota _).length<=_;rw[iota_length];omega,by rw[bigN_eq];show (iota _).length<=_;rw[iota_length];omega,⟨by rw[bigN_eq];show (moG t (mkCg t ns es) l).nodes.length<=_;omega,by rw[bigN_eq];show (moG t (mkCg t ns es) l).edges.length<=_;omega⟩⟩
theorem sml_edges{t:Ty}{r:Ru}{c:Co}(h:smlA t r c=true)(hs:shpE c=0):c.g.nodes.length<=3/\c.g.edges.length<=2:=by
 unfold smlA at h;split at h
 .split at h
  .unfold smlC at h;split at h
   .split at h
    .rename_i e;exact absurd hs e
    .split at h
     .cases h
     .split at h
      .cases h
      .omega
   .cases h
  .cases h
 .cases h
structure Dr43.Sz (d:Dr43):Prop where
 ty:d.ty.length<=8
 en:d.en.length<=8
 ln:d.ln.length<=3
 le:d.le.length<=4
 mo:d.mo.length<=4
 cn:d.cn.length<=3
 ce:d.ce.length<=3
 cx:d.cx.length<=2
 hn:d.hn.length<=6
 hl:d.hl.length<=8
 ex:∀l∈d.cx,l.length<=3
def Dr43.t(d:Dr43):Ty:=mtT d.ty d.en
def Dr43.r(d:Dr43):Ru:=scRu d.t d.ln d.le d.kp d.mo
def Dr43.c(d:Dr43):Co:=mkCo d.t d.cn d.ce d.cx
def Dr43.g(d:Dr43):Gr:=lgR d.t d.hn d.hl 6
abbrev scRow(t:Ty)(r:Ru)(c:Co)(g:Gr):List AV:=[.d (nts t.nodes),.d (ets t.edges),.d (.raw (.string r.name)),.d (ints r.lg.nodes),.d (AM.edges r.lg.edges),.d (slots r.lsl),I r.lv,.d (tests r.lte),.d (ints r.rg.nodes),.d (AM.edges r.rg.edges),.d (slots r.rsl),I r.rv,.d (tests r.rte),
 .d (ints r.k.nodes),.d (ints r.k.edges),.d (ints r.i.nodes),.d (ints r.i.edges),B r.inj,I r.c.kind,.d (conds r.c.kids),.d (ints r.c.m.nodes),.d (ints r.c.m.edges),.d (ints r.c.g.nodes),.d (AM.edges r.c.g.edges),.d (slots r.c.sl),I r.c.vars,.d (tests r.c.te),
 Sb c.name,I c.kind,.d (ints c.g.nodes),.d (AM.edges c.g.edges),.d (xts c.exts),.d (ints g.nodes),.d (AM.edges g.edges)]
abbrev zRow:List AV:=[nilS,nilS,Sb ⟨#[]⟩,nilS,nilS,nilS,I 0,nilS,nilS,nilS,nilS,I 0,nilS,nilS,nilS,nilS,nilS,B false,I 0,nilS,nilS,nilS,nilS,nilS,nilS,I 0,nilS,Sb ⟨#[]⟩,I 0,nilS,nilS,nilS,nilS,nilS]
def stM43(d:Dr43)(nb:Nat)(box:Bxs)(tok:Tks)(nt:Nat)(i:Nat):AS :=
 ⟨tl [(77,I i),(76,I d.cx.length),(75,.d (byss d.cx)),(3,B false),(2,.ptr (nb+2) 0 0),(1,.ptr (nb+1) 0 0)],lb nb box [(2,[zRow]),(1,[d.row])],tok,nt⟩
set_option maxRecDepth 100000 in
theorem made43n_c(d:Dr43)(hd:d.Big)(hs:¬d.Sz):DC 18 [d.av] (.tup [.agg zRow,B false]):=by
 intro tok nt box nb;refine sI func18 ntmps18 fun Hb Ht=>?_
 by_cases q0:8<d.ty.length
 .have b0:(8:Int)<d.ty.length:=by omega
  try (simp[b0])
  repeat (first|(refine sR ?_;simp[b0])|(refine sC ?_;simp[b0])|(refine sX ?_;simp only[AU,↓reduceIte]))
  refine sT (sH Hb Ht ?_);simp
 have b0:¬(8:Int)<d.ty.length:=by omega
 by_cases q1:8<d.en.length
 .have b1:(8:Int)<d.en.length:=by omega
  try (simp[b0,b1])
  repeat (first|(refine sR ?_;simp[b0,b1])|(refine sC ?_;simp[b0,b1])|(refine sX ?_;simp only[AU,↓reduceIte]))
  refine sT (sH Hb Ht ?_);simp
 have b1:¬(8:Int)<d.en.length:=by omega
 by_cases q2:3<d.ln.length
 .have b2:(3:Int)<d.ln.length:=by omega
  try (simp[b0,b1,b2])
  repeat (first|(refine sR ?_;simp[b0,b1,b2])|(refine sC ?_;simp[b0,b1,b2])|(refine sX ?_;simp only[AU,↓reduceIte]))
  refine sT (sH Hb Ht ?_);simp
 have b2:¬(3:Int)<d.ln.length:=by omega
 by_cases q3:4<d.le.length
 .have b3:(4:Int)<d.le.length:=by omega
  try (simp[b0,b1,b2,b3])
  repeat (first|(refine sR ?_;simp[b0,b1,b2,b3])|(refine sC ?_;simp[b0,b1,b2,b3])|(refine sX ?_;simp only[AU,↓reduceIte]))
  refine sT (sH Hb Ht ?_);simp
 have b3:¬(4:Int)<d.le.length:=by omega
 by_cases q4:4<d.mo.length
 .have b4:(4:Int)<d.mo.length:=by omega
  try (simp[b0,b1,b2,b3,b4])
  repeat (first|(refine sR ?_;simp[b0,b1,b2,b3,b4])|(refine sC ?_;simp[b0,b1,b2,b3,b4])|(refine sX ?_;simp only[AU,↓reduceIte]))
  refine sT (sH Hb Ht ?_);simp
 have b4:¬(4:Int)<d.mo.length:=by omega
 by_cases q5:3<d.cn.length
 .have b5:(3:Int)<d.cn.length:=by omega
  try (simp[b0,b1,b2,b3,b4,b5])
  repeat (first|(refine sR ?_;simp[b0,b1,b2,b3,b4,b5])|(refine sC ?_;simp[b0,b1,b2,b3,b4,b5])|(refine sX ?_;simp only[AU,↓reduceIte]))
  refine sT (sH Hb Ht ?_);simp
 have b5:¬(3:Int)<d.cn.length:=by omega
 by_cases q6:3<d.ce.length
 .have b6:(3:Int)<d.ce.length:=by omega
  try (simp[b0,b1,b2,b3,b4,b5,b6])
  repeat (first|(refine sR ?_;simp[b0,b1,b2,b3,b4,b5,b6])|(refine sC ?_;simp[b0,b1,b2,b3,b4,b5,b6])|(refine sX ?_;simp only[AU,↓reduceIte]))
  refine sT (sH Hb Ht ?_);simp
 have b6:¬(3:Int)<d.ce.length:=by omega
 by_cases q7:2<d.cx.length
 .have b7:(2:Int)<d.cx.length:=by omega
  try (simp[b0,b1,b2,b3,b4,b5,b6,b7])
  repeat (first|(refine sR ?_;simp[b0,b1,b2,b3,b4,b5,b6,b7])|(refine sC ?_;simp[b0,b1,b2,b3,b4,b5,b6,b7])|(refine sX ?_;simp only[AU,↓reduceIte]))
  refine sT (sH Hb Ht ?_);simp
 have b7:¬(2:Int)<d.cx.length:=by omega
 by_cases q8:6<d.hn.length
 .have b8:(6:Int)<d.hn.length:=by omega
  try (simp[b0,b1,b2,b3,b4,b5,b6,b7,b8])
  repeat (first|(refine sR ?_;simp[b0,b1,b2,b3,b4,b5,b6,b7,b8])|(refine sC ?_;simp[b0,b1,b2,b3,b4,b5,b6,b7,b8])|(refine sX ?_;simp only[AU,↓reduceIte]))
  refine sT (sH Hb Ht ?_);simp
 have b8:¬(6:Int)<d.hn.length:=by omega
 by_cases q9:8<d.hl.length
 .have b9:(8:Int)<d.hl.length:=by omega
  try (simp[b0,b1,b2,b3,b4,b5,b6,b7,b8,b9])
  repeat (first|(refine sR ?_;simp[b0,b1,b2,b3,b4,b5,b6,b7,b8,b9])|(refine sC ?_;simp[b0,b1,b2,b3,b4,b5,b6,b7,b8,b9])|(refine sX ?_;simp only[AU,↓reduceIte]))
  refine sT (sH Hb Ht ?_);simp
 have b9:¬(8:Int)<d.hl.length:=by omega
 have hex:¬∀l∈d.cx,l.length<=3:=fun h=>hs ⟨by omega,by omega,by omega,by omega,by omega,by omega,by omega,by omega,by omega,by omega,h⟩
 have hcx:=hd.nc.2.2;try (simp[b0,b1,b2,b3,b4,b5,b6,b7,b8,b9])
 repeat (first|(refine sR ?_;simp[b0,b1,b2,b3,b4,b5,b6,b7,b8,b9])|(refine sC ?_;simp[b0,b1,b2,b3,b4,b5,b6,b7,b8,b9])|(refine sX ?_;simp only[AU,↓reduceIte]))
 refine sN ?_;refine sL (stM43 d nb box tok nt) (fun i=>i<=d.cx.length/\∀l∈d.cx.take i,l.length<=3) (fun i=>d.cx.length-i) 0 ⟨Nat.zero_le _,by simp⟩ wkA ?_;rintro i S ⟨hi,hall⟩ hS;simp only[stM43] at hS;subst hS;have hw:=sW (i:=i) (by omega);by_cases hlt:i<d.cx.length
 .by_cases h3:3<(d.cx[i]).length
  .have b11:(3:Int)<(d.cx[i]).length:=by omega
   try (simp[hlt,b11])
   repeat (first|(refine sR ?_;simp[hlt,b11])|(refine sC ?_;simp[hlt,b11])|(refine sX ?_;simp only[AU,↓reduceIte]))
   refine sT (sH Hb Ht ?_);simp
  .have b11:¬(3:Int)<(d.cx[i]).length:=by omega
   try (simp[hlt,b11,hw])
   repeat (first|(refine sR ?_;simp[hlt,b11,hw])|(refine sC ?_;simp[hlt,b11,hw])|(refine sX ?_;simp only[AU,↓reduceIte]))
   refine sE ?_;refine⟨i+1,⟨hlt,fun l hl=>?_⟩,by omega,wkA⟩;rw[List.take_succ_eq_append_getElem hlt,List.mem_append] at hl;rcases hl with hl|hl
   .exact hall l hl
   .rw[List.mem_singleton.1 hl];omega
 .have:i=d.cx.length:=by omega
  subst this;rw[List.take_length] at hall;exact absurd hall hex
set_option maxRecDepth 100000 in
theorem made43_c(d:Dr43)(hd:d.Big)(hs:d.Sz):DC 18 [d.av] (.tup [.agg (scRow d.t d.r d.c d.g),B (smlA d.t d.r d.c)]):=by
 intro tok nt box nb;obtain⟨q0,q1,q2,q3,q4,q5,q6,q7,q8,q9,hex⟩:=hs;have b0:¬(8:Int)<d.ty.length:=by omega
 have b1:¬(8:Int)<d.en.length:=by omega
 have b2:¬(3:Int)<d.ln.length:=by omega
 have b3:¬(4:Int)<d.le.length:=by omega
 have b4:¬(4:Int)<d.mo.length:=by omega
 have b5:¬(3:Int)<d.cn.length:=by omega
 have b6:¬(3:Int)<d.ce.length:=by omega
 have b7:¬(2:Int)<d.cx.length:=by omega
 have b8:¬(6:Int)<d.hn.length:=by omega
 have b9:¬(8:Int)<d.hl.length:=by omega
 have ht:=mtT_fit (es:=d.en) hd.ty;have h0:=mtT_tyE hd.ty hd.en;have hL:=lfs_pos h0;have hm:=madeT_c d.ty d.en hd.ty hd.en hd.nt.1 hd.nt.2;have hTd:mtT d.ty d.en=d.t:=rfl
 rw[hTd] at ht h0 hL hm;have h1:=leafG_c d.t ht hL d.ln hd.ln hd.nl.1 d.le hd.le hd.nl.2 3 (by decide);have hs1:lgR d.t d.ln d.le 3=scL d.t d.ln d.le:=rfl
 rw[hs1] at h1;obtain⟨hLg,_,_⟩:=lgR_lgm (ns:=d.ln) h0 hd.le (show 3<=6 by decide);rw[hs1] at hLg;obtain⟨hvp,k1,k2,k3,k4⟩:=sc_len (ns:=d.ln) h0 hd.le d.kp;obtain⟨l1,l2⟩:=lgR_len d.t d.ln d.le 3;rw[hs1] at l1 l2;have hR:d.r.Big:=scRu_big h0 hd.le _ _
 have hC:d.c.Big:=mkCo_big
 have h7:=smallA_c d.t d.r d.c (mtT_big hd.ty) hR hC;have er:d.r=scRu d.t d.ln d.le d.kp d.mo:=rfl
 have ec:mkCo d.t d.cn d.ce d.cx=d.c:=rfl
 have eg:lgR d.t d.hn d.hl 6=d.g:=rfl
 unfold scRu at er;generalize scL d.t d.ln d.le=L at *;have h2:=made07_c L ⟨by omega,by omega⟩ hLg.valid d.kp;generalize mad7 L d.kp=P at *;have h3:=extract07_c L P ⟨by omega,by omega⟩ ⟨by omega,by omega⟩ hvp;generalize exG L P=K at *;have h4:=more_c d.t ht hL K ⟨by omega,by omega⟩ d.mo hd.mo (by omega);generalize moG d.t K d.mo=M at *;have h5:=made42_c d.t ht hL d.cn d.ce d.cx hd.cn hd.nc.1 hd.ce hd.nc.2.1 hd.nc.2.2 (fun l hl=>⟨hd.cx l hl,by have:=hex l hl;omega⟩);rw[ec] at h5;have h6:=leafG_c d.t ht hL d.hn hd.hn hd.nh.1 d.hl hd.hl hd.nh.2 6 (by decide);rw[eg] at h6;generalize d.c=C at *;generalize d.g=G at *;generalize d.r=Rr at *;subst er;refine sI func18 ntmps18 fun Hb Ht=>?_
 try (simp[b0,b1,b2,b3,b4,b5,b6,b7,b8,b9])
 repeat (first|(refine sR ?_;simp[b0,b1,b2,b3,b4,b5,b6,b7,b8,b9])|(refine sC ?_;simp[b0,b1,b2,b3,b4,b5,b6,b7,b8,b9])|(refine sX ?_;simp only[AU,↓reduceIte]))
 refine sN ?_;refine sL (stM43 d nb box tok nt) (fun i=>i<=d.cx.length) (fun i=>d.cx.length-i) 0 (Nat.zero_le _) wkA ?_;rintro i S hi hS;simp only[stM43] at hS;subst hS;have hcx:=hd.nc.2.2;have hw:=sW (i:=i) (by omega);by_cases hlt:i<d.cx.length
 .have b11:¬(3:Int)<(d.cx[i]).length:=by
   have:=hex _ (List.getElem_mem hlt)
   omega
  try (simp[hlt,b11,hw])
  repeat (first|(refine sR ?_;simp[hlt,b11,hw])|(refine sC ?_;simp[hlt,b11,hw])|(refine sX ?_;simp only[AU,↓reduceIte]))
  refine sE ?_;exact⟨i+1,hlt,by omega,wkA⟩
 have:i=d.cx.length:=by omega
 subst this;try (simp)
 repeat (first|(refine sR ?_;simp)|(refine sC ?_;simp)|(refine sX ?_;simp only[AU,↓reduceIte]))
 refine sD (hm _ _) ?_;simp;try (simp)
 repeat (first|(refine sR ?_;simp)|(refine sC ?_;simp)|(refine sX ?_;simp only[AU,↓reduceIte]))
 refine sD (h1 _ _) ?_;simp;try (simp)
 repeat (first|(refine sR ?_;simp)|(refine sC ?_;simp)|(refine sX ?_;simp only[AU,↓reduceIte]))
 refine sD (h2 _ _) ?_;simp;try (simp)
 repeat (first|(refine sR ?_;simp)|(refine sC ?_;simp)|(refine sX ?_;simp only[AU,↓reduceIte]))
 refine sD (h3 _ _) ?_;simp;try (simp)
 repeat (first|(refine sR ?_;simp)|(refine sC ?_;simp)|(refine sX ?_;simp only[AU,↓reduceIte]))
 refine sD (h4 _ _) ?_;simp;try (simp)
 repeat (first|(refine sR ?_;simp)|(refine sC ?_;simp)|(refine sX ?_;simp only[AU,↓reduceIte]))
 refine sD (h5 _ _) ?_;simp;try (simp)
 repeat (first|(refine sR ?_;simp)|(refine sC ?_;simp)|(refine sX ?_;simp only[AU,↓reduceIte]))
 refine sD (h6 _ _) ?_;simp;try (simp)
 repeat (first|(refine sR ?_;simp)|(refine sC ?_;simp)|(refine sX ?_;simp only[AU,↓reduceIte]))
 refine Stop.sub (args':=[d.t.av,Ru.av ⟨⟨#[114]⟩,L,[],0,[],M,[],0,[],P,idM K,true,cdOf 1 []⟩,C.av]) ⟨Sub.refl _,Sub.agg ⟨Sub.refl _,Sub.refl _,Sub.refl _,Sub.nil _ _ _,Sub.refl _,Sub.nil _ _ _,Sub.refl _,Sub.refl _,Sub.nil _ _ _,Sub.refl _,Sub.nil _ _ _,Sub.refl _,Sub.refl _,Sub.refl _,Sub.refl _,Sub.refl _,Sub.refl _,Sub.nil _ _ _,Sub.nil _ _ _,Sub.nil _ _ _,Sub.nil _ _ _,Sub.nil _ _ _,Sub.nil _ _ _,Sub.refl _,Sub.nil _ _ _,trivial⟩,Sub.refl _,trivial⟩ ?_;refine sD (h7 _ _) ?_;simp;try (simp)
 repeat (first|(refine sR ?_;simp)|(refine sC ?_;simp)|(refine sX ?_;simp only[AU,↓reduceIte]))
 refine sT (sH Hb Ht ?_);simp[cdOf,Cd.kind,Cd.kids,Cd.m,Cd.g,Cd.sl,Cd.vars,Cd.te,slots,tests,conds,ints,AM.edges]
theorem mkCo_shp{t:Ty}(ht:tyE t=0){cn:List Int}{ce:List (Int × Int × Int)}(h4:U83 ce):shpE (mkCo t cn ce [])=0:=by
 obtain⟨hC,hcn⟩:=mkCg_lg (ns:=cn) ht h4;have hco:mkCo t cn ce []=⟨mkNm,1,mkCg t cn ce,[]⟩:=rfl
 rw[hco];unfold shpE;rw[if_neg (by simp[made_nm]),if_neg (by simp[kdE]),if_neg (by simp[hC.valid]),if_neg (by simp[hC.small])];rfl
theorem made_fit{d:Dr43}(hd:d.Big)(hs:d.Sz)(h:smlA d.t d.r d.c=true):d.t.Fit/\d.r.Fit/\d.c.Fit :=
 smlA_fit (scRu_big (mtT_tyE hd.ty hd.en) hd.le _ _) h
set_option maxRecDepth 100000 in
theorem lawNothing_c(d0:Dr43)(hd0:d0.Big)(tok:Tks)(nt:Nat):∃tok' nt',DCall prog 4 [d0.av] tok nt (B true) tok' nt':=by
 refine⟨tok,nt,?_⟩;intro box nb;obtain⟨d,hdd⟩:∃d:Dr43,d=⟨d0.ty,d0.en,d0.ln,d0.le,d0.kp,[],d0.cn,d0.ce,[],d0.hn,d0.hl⟩:=⟨_,rfl⟩
 have hd:d.Big:=by
  rw[hdd];exact⟨hd0.ty,hd0.en,hd0.ln,hd0.le,fun x hx=>absurd hx (by simp),hd0.cn,hd0.ce,fun x hx=>absurd hx (by simp),hd0.hn,hd0.hl,hd0.nt,hd0.nl,by simp,⟨hd0.nc.1,hd0.nc.2.1,by simp⟩,fun x hx=>absurd hx (by simp),hd0.nh⟩
 have hrow:Dr43.av ⟨d0.ty,d0.en,d0.ln,d0.le,d0.kp,[],d0.cn,d0.ce,[],d0.hn,d0.hl⟩=d.av:=by rw[hdd]
 refine sI func4 ntmps4 fun Hb Ht=>?_
 repeat first|simp|refine sR ?_
 refine Stop.sub (args':=[Dr43.av ⟨d0.ty,d0.en,d0.ln,d0.le,d0.kp,[],d0.cn,d0.ce,[],d0.hn,d0.hl⟩]) ⟨Sub.agg ⟨Sub.refl _,Sub.refl _,Sub.refl _,Sub.refl _,Sub.refl _,Sub.nil _ _ _,Sub.refl _,Sub.refl _,Sub.nil _ _ _,Sub.refl _,Sub.refl _,trivial⟩,trivial⟩ ?_;rw[hrow];have hlaw:d.Sz->smlA d.t d.r d.c=true->waysR d.t d.r d.c=([],0)/\presR d.t d.r d.c=(cdOf 1 [],0):=by
  intro hs h1;have h0:tyE d.t=0:=mtT_tyE hd.ty hd.en
  have hmo:d.mo=[]:=by rw[hdd]
  have hcx:d.cx=[]:=by rw[hdd]
  have hC:d.c=mkCo d.t d.cn d.ce []:=by unfold Dr43.c;rw[hcx]
  have hR:d.r=scRu d.t d.ln d.le d.kp []:=by unfold Dr43.r;rw[hmo]
  rw[hC] at h1 ⊢;rw[hR];have he:=sml_edges h1 (mkCo_shp h0 hd.ce);exact nothing_law h0 hd.le hd.ce hs.le he.2
 by_cases hs:d.Sz
 case neg =>
  refine sD (made43n_c d hd hs _ _) ?_;simp;try (simp)
  repeat (first|(refine sR ?_;simp)|(refine sC ?_;simp)|(refine sX ?_;simp only[AU,↓reduceIte]))
  refine sD (awake43_c _ _) ?_;simp;try (simp)
  repeat (first|(refine sR ?_;simp)|(refine sC ?_;simp)|(refine sX ?_;simp only[AU,↓reduceIte]))
  refine sD (awake43_c _ _) ?_;simp;try (simp)
  repeat (first|(refine sR ?_;simp)|(refine sC ?_;simp)|(refine sX ?_;simp only[AU,↓reduceIte]))
  refine sT (sH Hb Ht ?_);simp
 case pos =>
  have hm:=made43_c d hd hs;have hfit:=made_fit hd hs
  replace hlaw:=hlaw hs
  generalize d.t=T at *;generalize d.r=Rr at *;generalize d.c=C at *;generalize d.g=G at *;cases h1:smlA T Rr C
  .rw[h1] at hm;refine sD (hm _ _) ?_;simp;try (simp)
   repeat (first|(refine sR ?_;simp)|(refine sC ?_;simp)|(refine sX ?_;simp only[AU,↓reduceIte]))
   refine sD (awake43_c _ _) ?_;simp;try (simp)
   repeat (first|(refine sR ?_;simp)|(refine sC ?_;simp)|(refine sX ?_;simp only[AU,↓reduceIte]))
   refine sD (awake43_c _ _) ?_;simp;try (simp)
   repeat (first|(refine sR ?_;simp)|(refine sC ?_;simp)|(refine sX ?_;simp only[AU,↓reduceIte]))
   refine sT (sH Hb Ht ?_);simp
  .rw[h1] at hm;obtain⟨ft,fr,fc⟩:=hfit h1;have f1:=waysP_c T ft Rr fr C fc;have f2:=preserveP_c T ft Rr fr C fc;obtain⟨l1,l2⟩:=hlaw h1;rw[l1] at f1;rw[l2] at f2;refine sD (hm _ _) ?_;simp;try (simp)
   repeat (first|(refine sR ?_;simp)|(refine sC ?_;simp)|(refine sX ?_;simp only[AU,↓reduceIte]))
   refine sD (awake43_c _ _) ?_;simp;try (simp)
   repeat (first|(refine sR ?_;simp)|(refine sC ?_;simp)|(refine sX ?_;simp only[AU,↓reduceIte]))
   refine sD (f1 _ _) ?_;simp;try (simp)
   repeat (first|(refine sR ?_;simp)|(refine sC ?_;simp)|(refine sX ?_;simp only[AU,↓reduceIte]))
   refine sD (f2 _ _) ?_;simp;try (simp)
   repeat (first|(refine sR ?_;simp)|(refine sC ?_;simp)|(refine sX ?_;simp only[AU,↓reduceIte]))
   refine sT (sH Hb Ht ?_);simp[cdOf,Cd.kind]
open Go Go.Proofs Go.ChangeShapes
open Go.Proofs.Tryz
end Go.AM
