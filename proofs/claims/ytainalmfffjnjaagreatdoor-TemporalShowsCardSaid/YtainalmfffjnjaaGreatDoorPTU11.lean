/-
 Parts of the proof, as merged from many texts: a machine over data, what the functions compute, plain laws.
-/
import Derived.Test.YtainalmfffjnjaaGreatDoorPTU10
set_option linter.unusedSimpArgs false
set_option linter.unusedVariables false
namespace Go.AM
open Go
variable {P:Program} {wr:Bool}
theorem effW_maker' {base:Nat} {o:Oper} {ρ:Operand→AV} {b b':Bxs} {v:AV} (hm:maker o.op=true) (h:EffW P base o ρ b v b') :
  ∃ s rows,o.dst=some s∧b'=upd b (base+s) (some rows):=by
 unfold EffW at h;cases hop:o.op <;> rw [hop] at hm h <;> first|cases hm|skip
 ·simp only at h;split at h
  ·rename_i s cs h1 h2;obtain ⟨g1,g2,g3⟩:=h;exact ⟨s,[cs],h1,g3⟩
  ·exact h.elim
 ·simp only at h;split at h
  ·rename_i sz by' zs s k1 n k2 n' h1 h2 h3 h4
   obtain ⟨g1,g2,g3,g4,g5,g6⟩:=h;exact ⟨s,_,h2,g6⟩
  ·exact h.elim
def isLoad:Op→Bool
 | .load .. => true
 | _=>false
theorem isLoad_spec {o:Oper} (h:isLoad o.op=true):cls o.op=.r∧∃ p,ptrOp o.op=some p:=by
 cases hop:o.op <;> rw [hop] at h <;> first|cases h|skip
 exact ⟨rfl,_,rfl⟩
theorem maker_cls {o:Oper} (h:maker o.op=true):cls o.op=.w:=by
 cases hop:o.op <;> rw [hop] at h <;> first|(exact absurd h Bool.false_ne_true)|rfl
def lm (x y:Oper):Bool:=isLoad x.op&&maker y.op||maker x.op&&isLoad y.op
def regOk5 (ops:Array Oper):Bool :=
 let an:=ancs ops.toList []
 dstUniq ops&&(List.range ops.size).all fun i=>(match ops[i]? with|some o=>(direct o).all fun j=>decide (j<i)|none=>true) &&
  (List.range i).all fun j=>(an.getD i 0).testBit j||(match ops[j]?,ops[i]? with
   | some x,some y=>Oper.apart ops x y&&(!clash x y||isPtr x.op&&isPtr y.op||lm x y)
   | _,_=>false)
def mks:List Oper→List Nat
 | []=>[]
 | o::r=>if maker o.op=true then (match o.dst with|some s=>s::mks r|none=>mks r) else mks r
def lds:List Oper→List Operand
 | []=>[]
 | o::r=>match o.op with
  | .load _ p=>p::lds r
  | _=>lds r
def NB (x:AV) (k:Nat):Prop:=match x with
 | .ptr k' _ _=>k'≠k
 | _=>True
def FarN (x:AV) (base:Nat):List Nat→Prop
 | []=>True
 | s::r=>NB x (base+s)∧FarN x base r
def FarM (S:AState) (base:Nat) (ms:List Nat):List Operand→Prop
 | []=>True
 | p::r=>FarN (S.ev p) base ms∧FarM S base ms r
theorem farN_spec {x:AV} {base:Nat}:∀ {l:List Nat} {s:Nat},FarN x base l→s∈l→NB x (base+s)
 | a::r,s,h,hs=>by
  rcases List.mem_cons.1 hs with rfl|hs
  ·exact h.1
  ·exact farN_spec h.2 hs
theorem farM_spec {S:AState} {base:Nat} {ms:List Nat}:∀ {l:List Operand} {p:Operand},FarM S base ms l→p∈l→FarN (S.ev p) base ms
 | a::r,p,h,hp=>by
  rcases List.mem_cons.1 hp with rfl|hp
  ·exact h.1
  ·exact farM_spec h.2 hp
theorem mks_mem {o:Oper} {s:Nat} (hm:maker o.op=true) (hd:o.dst=some s):∀ {l:List Oper},o∈l→s∈mks l
 | a::r,h=>by
  rcases List.mem_cons.1 h with rfl|h
  ·rw [mks,if_pos hm,hd]; simp
  ·have:=mks_mem hm hd h
   rw [mks];split
   ·split
    ·exact List.mem_cons_of_mem _ this
    ·exact this
   ·exact this
theorem lds_mem {o:Oper} {p:Operand} (hm:isLoad o.op=true) (hp:ptrOp o.op=some p):∀ {l:List Oper},o∈l→p∈lds l
 | a::r,h=>by
  rcases List.mem_cons.1 h with rfl|h
  ·cases hop:o.op <;> rw [hop] at hm hp <;> first|cases hm|skip
   simp only [ptrOp,Option.some.injEq] at hp;subst hp;rw [lds,hop]; simp
  ·have:=lds_mem hm hp h
   rw [lds];split
   ·exact List.mem_cons_of_mem _ this
   ·exact this
theorem any_sound5 {n nb base:Nat} {ops:Array Oper} {Q:Exit→Act→World→Prop} {Sf:AState} {G0:Gh} {w0:World} {b0:Bxs} (hreg:regOk5 ops=true) (hal:allocOk ops=true) (hdst:dstOk n ops=true) (hnb:base+n≤nb)
  (hfar:Far Sf (ptrs ops.toList)) (hfm:FarM Sf base (mks ops.toList) (lds ops.toList))
  (hQ:∀ a' w' G',RelS n nb G' Sf a' w'→LeK base G0 w0 b0 G' w' Sf.box→Q .normal a' w') (fuel:Nat) (listed:Array Bool) (rem:List Nat) (S:AState) (a:Act) (w:World) (G:Gh) (hrem:rem=List.range ops.size) (hside:Side ops S)
  (h1:listed.size=ops.size) (h2:rem=(List.range ops.size).filter (fun i=>!listed.getD i true)) (h3:rem.length=fuel) (h4:∀ i o,ops[i]?=some o→listed.getD i false=true→∀ j∈direct o,listed.getD j false=true)
  (h5:IRun P false base ops rem S Sf) (h6:RelS n nb G S a w) (h7:∀ i∈rem,∀ o,ops[i]?=some o→Pend P base o G S.box) (h8:LeK base G0 w0 b0 G w S.box):wpAny P .any ops Q fuel listed a w:=by
 unfold regOk5 at hreg;simp only [Bool.and_eq_true] at hreg;obtain ⟨hu,hreg⟩:=hreg;have key:∀ (i:Nat) (o:Oper),ops[i]?=some o→(∀ j∈direct o,j<i)∧∀ j x,ops[j]?=some x→j<i→((ancs ops.toList []).getD i 0).testBit j=true∨x.apart ops o=true∧((clash x o=false∨isPtr x.op=true∧isPtr o.op=true)∨lm x o=true):=by
  intro i o ho;have his:i<ops.size:=(Array.getElem?_eq_some_iff.1 ho).1
  have hall:=List.all_eq_true.1 hreg i (by simpa using his);rw [ho] at hall;simp only [Bool.and_eq_true] at hall;refine ⟨fun j hj=>by simpa using List.all_eq_true.1 hall.1 j hj,fun j x hx hj=>?_⟩;have h2:=List.all_eq_true.1 hall.2 j (by simpa using hj);rw [hx] at h2;simpa only [Bool.or_eq_true,Bool.and_eq_true,Bool.not_eq_true'] using h2
 have start:Ivs Sf S:=by
  intro t;by_cases hd:∃ o∈ops.toList,o.dst=some t
  ·obtain ⟨o,ho,hd⟩:=hd;exact .inr (hside o ho t hd)
  ·refine .inl (irun_keeps (fun j _ x hx hxd=>hd ⟨x,by simpa using Array.mem_of_getElem? hx,hxd⟩) h5).symm
 refine any_sound' (fun i o ho=>(key i o ho).1) (Iv:=Ivs Sf) (fun i o S' S'' rest ho hni hst hrun hiv=>ivs_step hu i o S' S'' rest ho hni hst hrun hiv) ?_ hal hdst hnb hQ fuel listed rem S a w G h1 h2 h3 h4 start h5 h6 h7 h8;intro i j o x ho hx hj hb S' S1 S2 hiv g1 g2;have back:∀ (z:Operand) k i off,S'.ev z=.ptr k i off→Sf.ev z=.ptr k i off:=by
  intro z k i off hz;cases z with
  | tmp t =>
   rcases hiv t with e|e
   ·exact e.symm.trans hz
   ·have hz':S'.tmps t=.ptr k i off:=hz
    rw [hz'] at e;exact e.elim
  | const c=>exact hz
  | global c=>exact hz
  | func c=>exact hz
 have nb:∀ (y z:Oper) (p:Operand) (s:Nat),isLoad y.op=true→ptrOp y.op=some p→y∈ops.toList→maker z.op=true→z.dst=some s→z∈ops.toList→∀ k i off,S'.ev p=.ptr k i off→k≠base+s:=fun y z p s hy hp hym hz hs hzm k i off hk=>by
  have:=farN_spec (farM_spec hfm (lds_mem hy hp hym)) (mks_mem hz hs hzm)
  rw [back p _ _ _ hk] at this;exact this
 have hxm:x∈ops.toList:=by simpa using Array.mem_of_getElem? hx
 have hom:o∈ops.toList:=by simpa using Array.mem_of_getElem? ho
 rcases (key i o ho).2 j x hx hj with h|⟨h,h'⟩
 ·rw [hb] at h; cases h
 ·by_cases hlm:lm x o=true
  ·unfold lm at hlm;simp only [Bool.or_eq_true,Bool.and_eq_true] at hlm;refine gstep_swap' h (fun {c0 c1 c2 s0 s1 s2 m0 m1 m2 vx vy} e1 e2=>?_) g1 g2;unfold Eff at e1 e2 ⊢;rcases hlm with ⟨q1,q2⟩|⟨q1,q2⟩
   ·obtain ⟨k1,p,hp⟩:=isLoad_spec q1;have k2:=maker_cls q2;simp only [k1,k2] at e1 e2 ⊢;obtain ⟨e1,rfl,rfl,rfl⟩:=e1;obtain ⟨e2,rfl,rfl⟩:=e2;obtain ⟨s,rows,hs,rfl⟩:=effW_maker' q2 e2;exact ⟨_,_,_,⟨e2,rfl,rfl⟩,effR_ptr hp k1 e1 (nb x o p s q1 hp hxm q2 hs hom),rfl,rfl,rfl⟩
   ·obtain ⟨k1,p,hp⟩:=isLoad_spec q2;have k2:=maker_cls q1;simp only [k1,k2] at e1 e2 ⊢;obtain ⟨e1,rfl,rfl⟩:=e1;obtain ⟨e2,rfl,rfl,rfl⟩:=e2;obtain ⟨s,rows,hs,rfl⟩:=effW_maker' q1 e1;exact ⟨_,_,_,⟨effR_back hp k1 (nb o x p s q2 hp hom q1 hs hxm) e2,rfl,rfl,rfl⟩,e1,rfl,rfl⟩
  ·have h':=h'.resolve_right hlm
   cases hc:clash x o with
   | false=>exact gstep_swap h hc g1 g2
   | true =>
    rcases h' with h'|⟨h1',h2'⟩
    ·rw [hc] at h'; cases h'
    ·obtain ⟨p,hp⟩:=Option.isSome_iff_exists.1 h1';obtain ⟨q,hq⟩:=Option.isSome_iff_exists.1 h2';have hnk:=far_spec hfar hj (by simpa using hx) (by simpa using ho) hp hq hc;refine gstep_swap' h (fun {c0 c1 c2 s0 s1 s2 m0 m1 m2 vx vy} e1 e2=>?_) g1 g2;refine eff_far hp hq (fun k i1 off k' i2 off' hk hk'=>?_) e1 e2;rw [back p _ _ _ hk,back q _ _ _ hk'] at hnk;exact hnk
theorem AT.region5 {cx:Cx} {nt0 id:Nat} {ops:Array Oper} {S:AState} {K:Exit→AState→Prop} (hf:P.follows .mixedOrders=true) (hnb:cx.base+cx.n≤cx.nb) (hok:(allocOk ops&&dstOk cx.n ops&&regOk5 ops)=true) (hside:Side ops S)
  (h:ARegion P cx ops true S (fun S'=>(Far S' (ptrs ops.toList)∧FarM S' cx.base (mks ops.toList) (lds ops.toList))∧K .normal S')):AT P cx nt0 (.region id ops true) S K:=by
 simp only [Bool.and_eq_true] at hok;obtain ⟨⟨hal,hdst⟩,hreg⟩:=hok;intro G0 w0 he hn G a w hr hl;have hd:=dstOk_spec hdst;obtain ⟨b,hb,hr1,hp,hkeep⟩:=preB_sound hnb ops.toList S.box (S:=S) hr (fun o ho d hod=>hd o d (by simpa using ho) hod) (allocOk_nodup hal) h;have hl1:LeC cx G0 w0 G w { S with box:=b }:=⟨hl.1,fun k hk hg=>by
  rw [←hl.2 k hk hg];refine hkeep k fun hm=>?_
  obtain ⟨o,ho,he⟩:=List.mem_filterMap.1 hm;split at he
  ·rename_i T s h1 h2;simp only [Option.some.injEq] at he;subst he;exact absurd hk (by simp)
  ·cases he⟩
 simp only at hb;obtain ⟨S',hrun,⟨hfar,hfm⟩,hK⟩:=hb;refine wp_region_any hf ?_;have hrd:RelS cx.n cx.nb G { S with box:=b } a w.drew:=hr1.drew
 have hld:LeC cx G0 w0 G w.drew { S with box:=b }:=hl1.step ⟨Le.drew,fun k _ hg=>⟨hg,rfl⟩⟩
 refine any_sound5 (n:=cx.n) (nb:=cx.nb) (base:=cx.base) (Sf:=S') (G0:=G) (w0:=w.drew) (b0:=b) hreg hal hdst hnb hfar hfm (fun a' w' G' h1 h2=>⟨S',G',hK,h1,hld.step h2⟩) ops.size (Array.replicate ops.size false) (List.range ops.size) { S with box:=b } a w.drew G rfl hside (by simp) ?_ (by simp) ?_ (IRun.of_all hrun) hrd ?_ (LeK.refl _ _ _ _)
 ·rw [List.filter_eq_self.2];intro i hi;simp at hi;simp [Array.getD,hi]
 ·intro i o ho hlst;have hi:=(Array.getElem?_eq_some_iff.1 ho).1;simp [Array.getD,hi] at hlst
 ·intro i _ o ho;exact hp o (by simpa using Array.mem_of_getElem? ho)
theorem AL.region5 {cx:Cx} {nt0:Nat} {r:List CI} {K:Exit→AState→Prop} {S:AState} {id:Nat} {ops:Array Oper} (hf:P.follows .mixedOrders=true) (hnb:cx.base+cx.n≤cx.nb) (hok:(allocOk ops&&dstOk cx.n ops&&regOk5 ops)=true) (hs:Side ops S)
  (h:FReg P cx ops true (fun S'=>(Far S' (ptrs ops.toList)∧FarM S' cx.base (mks ops.toList) (lds ops.toList))∧AL P cx nt0 K r S') S):AL P cx nt0 K (.c (.region id ops true)::r) S:=by
 simp only [AL];exact AT.region5 hf hnb hok hs (fReg_sound h)
open Go Go.Proofs
def typN (t:Ty) (n:Int):Bool:=decide (0≤n∧n<t.nodes.length)
def typX (t:Ty) (e:E):Bool:=decide (0≤e.ty∧e.ty<t.edges.length)
def typG (t:Ty) (g:Gr):Bool:=g.nodes.all (typN t)&&g.edges.all (typX t)
def opM (p:Gr):Mo:=⟨List.replicate p.nodes.length (-1),List.replicate p.edges.length (-1)⟩
abbrev mosR (l:List Mo):List (List D):=l.map fun m=>[ints m.nodes,ints m.edges]
def givS (t:Ty) (p g:Gr):Int:=if tyE t≠0 then tyE t else if validG p≠0 then validG p else if validG g≠0 then validG g else if typG t p=false then 13 else if typG t g=false then 13 else 0
def allSr (t:Ty) (p g:Gr) (inj:Bool):Sr:=⟨t,p,g,opM p,inj,5000⟩
def allL (t:Ty) (p g:Gr) (inj:Bool):List Mo:=(allSr t p g inj).fnR p.nodes.length [] []
def allS (t:Ty) (p g:Gr) (inj:Bool):List Mo × Int:=if givS t p g≠0 then ([],givS t p g) else if 5000<(allL t p g inj).length then ([],3) else (allL t p g inj,0)
theorem typG_nodes {t:Ty} {g:Gr} (h:typG t g=true):∀ n∈g.nodes,0≤n∧n<t.nodes.length:=by
 unfold typG at h;rw [Bool.and_eq_true] at h;intro n hn;have:=List.all_eq_true.1 h.1 n hn
 simpa [typN] using this
theorem givS_zero {t:Ty} {p g:Gr} (h:givS t p g=0):tyE t=0∧validG p=0∧validG g=0∧typG t p=true∧typG t g=true:=by
 unfold givS at h;split at h
 ·contradiction
 ·split at h
  ·contradiction
  ·split at h
   ·contradiction
   ·split at h
    ·simp at h
    ·split at h
     ·simp at h
     ·rename_i a b c d e;exact ⟨by simpa using a,by simpa using b,by simpa using c,by simpa using d,by simpa using e⟩
theorem allSr_ok {t:Ty} {p g:Gr} {inj:Bool} (ht:t.Fit) (hp:p.Fit) (hg:g.Fit) (h:givS t p g=0):(allSr t p g inj).Ok:=by
 obtain ⟨h1,h2,h3,h4,h5⟩:=givS_zero h;exact ⟨ht,tyE_par h1,hp,hg,by simp [allSr],validG_edges h2,by simp [allSr,opM],by simp [allSr,opM],typG_nodes h4,typG_nodes h5⟩
theorem wantX_app {p:Gr} {N M:List Int} {i:Nat} (h1:(p.edges.getD i default).fr.toNat<N.length) (h2:(p.edges.getD i default).to.toNat<N.length):wantX p (N++M) i=wantX p N i:=by
 unfold wantX;generalize p.edges.getD i default=e at *;rw [List.getD_eq_getElem?_getD,List.getD_eq_getElem?_getD,List.getD_eq_getElem?_getD,List.getD_eq_getElem?_getD,List.getElem?_append_left h1,List.getElem?_append_left h2]
theorem Sr.fit_dead {s:Sr} (h:s.Ok) {N:List Int} (hf:s.fit N=false) (r:Nat):allF s.okN s.g.nodes.length s.okE s.g.edges.length s.p.edges.length r N=[]:=by
 rw [List.eq_nil_iff_forall_not_mem];intro m hm;unfold allF at hm;obtain ⟨N',hN',hm⟩:=List.mem_flatMap.1 hm;obtain ⟨es,hes,rfl⟩:=List.mem_map.1 hm;obtain ⟨T,t1,t2,rfl,t4⟩:=enumL_mem.1 hN';obtain ⟨U,u1,u2,rfl,u4⟩:=enumL_mem.1 hes;unfold Sr.fit at hf;obtain ⟨i,hi,hfi⟩:=List.all_eq_false.1 hf;have hi:=List.mem_range.1 hi;have hfi:s.fitE N i=false:=by simpa using hfi
 unfold Sr.fitE at hfi;have hgd:s.p.edges.getD i default=s.p.edges[i]:=by simp [hi]
 obtain ⟨x1,x2,x3,x4⟩:=h.vp _ (List.getElem_mem hi);split at hfi
 ·cases hfi
 ·split at hfi
  ·cases hfi
  ·rename_i a b;rw [hgd] at a b;have hiU:i<U.length:=by omega
   have hu:=u4 i hiU;have hk:=u2 _ (List.getElem_mem hiU);unfold Sr.anE at hfi;have hno:=List.any_eq_false.1 hfi U[i] (List.mem_range.2 hk);unfold Sr.eqE at hno;unfold Sr.okE at hu;split at hu
   ·split at hu
    ·cases hu
    ·have hl:(([]:List Int)++(U.take i).map (fun (k:Nat)=>(k:Int))).length=i:=by simp; omega
     rw [hl,wantX_app (by rw [hgd]; omega) (by rw [hgd]; omega)] at hu;exact hno hu
   ·cases hu
theorem Sr.fit_nil {s:Sr} (h:s.Ok):s.fit []=true:=by
 refine Sr.fit_true fun i hi=>?_
 have hgd:s.p.edges.getD i default=s.p.edges[i]:=by simp [hi]
 obtain ⟨x1,x2,x3,x4⟩:=h.vp _ (List.getElem_mem hi);unfold Sr.fitE;rw [if_pos (by rw [hgd]; simpa using x1)]
theorem Sr.fnR_all {s:Sr} (h:s.Ok):s.fnR s.p.nodes.length [] []=(allF s.okN s.g.nodes.length s.okE s.g.edges.length s.p.edges.length s.p.nodes.length []).take (s.most+1):=by
 rw [Sr.fnR_eq,if_pos (Sr.fit_nil h)];have:=fndN_eq (s.most+1) s.okN (fun N k=>s.fit (N++[(k:Int)])) s.g.nodes.length s.okE s.g.edges.length s.p.edges.length (fun _=>True) (fun _ _ _ _ _=>trivial) (fun r N k _ _ hp=>Sr.fit_dead h hp r) s.p.nodes.length [] [] trivial (by simp)
 simpa using this
def Sr.fitK (s:Sr) (N:List Int) (i k:Nat):Bool:=if gvB s.pt.edges i k=true then decide (s.g.edges.getD k default=wantX s.p N i) else false
def Sr.posE (s:Sr) (N:List Int) (i:Nat):Bool :=
 if max (s.p.edges.getD i default).fr (s.p.edges.getD i default).to=(N.length:Int) - 1 then (List.range s.g.edges.length).any (s.fitK N i) else true
def Sr.pos (s:Sr) (N:List Int):Bool:=(List.range s.p.edges.length).all (s.posE N)
theorem Sr.pos_false {s:Sr} {N:List Int} {i:Nat} (hi:i<s.p.edges.length) (h:s.posE N i=false):s.pos N=false:=by
 unfold Sr.pos;rw [List.all_eq_false];exact ⟨i,List.mem_range.2 hi,by simp [h]⟩
theorem Sr.pos_true {s:Sr} {N:List Int} (h:∀ i,i<s.p.edges.length→s.posE N i=true):s.pos N=true:=by
 unfold Sr.pos;rw [List.all_eq_true];exact fun i hi=>h i (List.mem_range.1 hi)
theorem Sr.okE_eq (s:Sr) (N E:List Int) (k:Nat):s.okE N E k=(s.fitK N E.length k&&!usB s.inj E k):=by
 unfold Sr.okE Sr.fitK;cases gvB s.pt.edges E.length k <;> cases usB s.inj E k <;> simp
theorem Sr.pos_dead {s:Sr} (h:s.Ok) {N:List Int} (hf:s.pos N=false) (r:Nat):allF s.okN s.g.nodes.length s.okE s.g.edges.length s.p.edges.length r N=[]:=by
 rw [List.eq_nil_iff_forall_not_mem];intro m hm;unfold allF at hm;obtain ⟨N',hN',hm⟩:=List.mem_flatMap.1 hm;obtain ⟨es,hes,rfl⟩:=List.mem_map.1 hm;obtain ⟨T,t1,t2,rfl,t4⟩:=enumL_mem.1 hN';obtain ⟨U,u1,u2,rfl,u4⟩:=enumL_mem.1 hes;unfold Sr.pos at hf;obtain ⟨i,hi,hfi⟩:=List.all_eq_false.1 hf;have hi:=List.mem_range.1 hi;have hfi:s.posE N i=false:=by simpa using hfi
 unfold Sr.posE at hfi;have hgd:s.p.edges.getD i default=s.p.edges[i]:=by simp [hi]
 obtain ⟨x1,x2,x3,x4⟩:=h.vp _ (List.getElem_mem hi);split at hfi
 ·rename_i hmx;rw [hgd] at hmx;have hiU:i<U.length:=by omega
  have hu:=u4 i hiU;have hk:=u2 _ (List.getElem_mem hiU);have hno:=List.any_eq_false.1 hfi U[i] (List.mem_range.2 hk);have hl:(([]:List Int)++(U.take i).map (fun (k:Nat)=>(k:Int))).length=i:=by simp; omega
  rw [Sr.okE_eq,hl] at hu;have hu:=(Bool.and_eq_true_iff.1 hu).1;unfold Sr.fitK at hu hno;rw [wantX_app (by rw [hgd]; omega) (by rw [hgd]; omega)] at hu;exact hno hu
 ·cases hfi
abbrev Sr.fnP (s:Sr) (fm:Nat):Nat→List Int→List Mo→List Mo:=fndN fm s.okN (fun N k=>s.pos (N++[(k:Int)])) s.g.nodes.length s.okE s.g.edges.length s.p.edges.length
theorem Sr.fnP_eq {s:Sr} (h:s.Ok) (fm r:Nat) (N:List Int) (out:List Mo) (ho:out.length≤fm):s.fnP fm r N out=(out++allF s.okN s.g.nodes.length s.okE s.g.edges.length s.p.edges.length r N).take fm :=
 fndN_eq fm s.okN (fun N k=>s.pos (N++[(k:Int)])) s.g.nodes.length s.okE s.g.edges.length s.p.edges.length (fun _=>True) (fun _ _ _ _ _=>trivial) (fun r N k _ _ hp=>Sr.pos_dead h hp r) r N out trivial ho
theorem Sr.fnP_len {s:Sr} (h:s.Ok) {fm r:Nat} {N:List Int} {out:List Mo} (ho:out.length≤fm):(s.fnP fm r N out).length≤fm:=by
 rw [Sr.fnP_eq h _ _ _ _ ho]; simp; omega
theorem Sr.fnP_fnR {s:Sr} (h:s.Ok):s.fnP (s.most+1) s.p.nodes.length [] []=s.fnR s.p.nodes.length [] []:=by
 rw [Sr.fnR_all h,Sr.fnP_eq h _ _ _ _ (by simp)];simp
def belK (t:Ty) (a:Int) (i:Nat):List Int:=((List.range i).filter fun (b:Nat)=>isB t (b:Int) a).map fun (b:Nat)=>(b:Int)
theorem belK_zero (t:Ty) (a:Int):belK t a 0=[]:=rfl
theorem belK_succ (t:Ty) (a:Int) (i:Nat):belK t a (i+1)=if isB t i a=true then belK t a i++[(i:Int)] else belK t a i:=by
 unfold belK;rw [List.range_succ,List.filter_append,List.map_append];by_cases h:isB t i a=true <;> simp [h]
theorem belK_len (t:Ty) (a:Int) (i:Nat):(belK t a i).length≤i:=by
 unfold belK;rw [List.length_map];exact Nat.le_trans (List.length_filter_le _ _) (by simp)
theorem leafK1_c (x:NT) (y:Int) (box:Bxs) (nb k:Nat) (tok:Tks) (nt:Nat) (h1:box k=some [[I y]]) :
  ACalls Tryz.prog 170 [x.av,.ptr k 0 0] ⟨box,nb,tok,nt⟩ fun v m=>v=B (x.par==y)∧m=⟨box,nb,tok,nt⟩:=by
 refine sI Tryz.func170 Tryz.ntmps170 fun hbox htok=>?_
 have k1n:=key_lt hbox h1;repeat (first|simp [lb_out k1n,h1]|refine sR ?_)
 refine sT (sH hbox htok ?_);simp [packA]
theorem leafK_c (t:Ty) (ht:t.nodes.length≤1000000) (k:Int) (tok:Tks) (nt:Nat):DCall Tryz.prog 101 [t.av,I k] tok nt (B (leafB t k)) tok nt:=by
 intro box nb;obtain ⟨p,hpp⟩:∃ p:NT→Bool,(fun n=>n.par==k)=p:=⟨_,rfl⟩
 have h2:=fun y box nb q hbk=>leafK1_c y k box nb q tok nt hbk
 have hpy:∀ y:NT,(y.par==k)=p y:=fun y=>by rw [←hpp]
 simp only [hpy] at h2;unfold leafB;rw [hpp];refine sI Tryz.func101 Tryz.ntmps101 fun hbox htok=>?_
 repeat (first|simp|refine sR ?_)
 refine Stop.of_b (containsFuncN_c t.nodes 170 [.ptr (nb+3) 0 0] p ht _ _ _ _ (fun c hc=>by rw [List.mem_singleton.1 hc]; simp [lb_at]) (fun y hy box' nb' he=>h2 y box' nb' _ (he _ _ (by simp [lb_at])))) ?_;repeat (first|simp|refine sR ?_)
 refine sT (sH hbox htok ?_);simp [packA]
theorem leavesK1_c (t:Ty) (ht:t.Fit) (g:Gr) (e:E) (h0:0≤e.fr∧e.fr<g.nodes.length) (h2:0≤e.to∧e.to<g.nodes.length) (box:Bxs) (nb k1 k2:Nat) (tok:Tks) (nt:Nat) (h1:box k1=some [[.d (nts t.nodes),.d (ets t.edges)]]) (h3:box k2=some [[.d (ints g.nodes),.d (AM.edges g.edges)]]) :
  ACalls Tryz.prog 136 [.agg [I e.ty,I e.fr,I e.to],.ptr k1 0 0,.ptr k2 0 0] ⟨box,nb,tok,nt⟩ fun v m=>v=B (!lvE t g e)∧m=⟨box,nb,tok,nt⟩:=by
 obtain ⟨ty,fr,to'⟩:=e;simp only at h0 h2;obtain ⟨a,rfl⟩:=Int.eq_ofNat_of_zero_le h0.1;obtain ⟨b,rfl⟩:=Int.eq_ofNat_of_zero_le h2.1;have ha:a<g.nodes.length:=by omega
 have hb:b<g.nodes.length:=by omega
 have hc:=fits_c4 t ht ty g.nodes[a] g.nodes[b];have hL:lvE t g ⟨ty,a,b⟩=fitB t ty g.nodes[a] g.nodes[b]:=by simp [lvE,ha,hb]
 rw [hL];generalize fitB t ty g.nodes[a] g.nodes[b]=R at *;refine sI Tryz.func136 Tryz.ntmps136 fun hbox htok=>?_
 have k1n:=key_lt hbox h1;have k2n:=key_lt hbox h3;repeat (first|simp [lb_out k1n,lb_out k2n,h1,h3,ha,hb]|refine sR ?_)
 refine Stop.of_d (hc _ _) ?_;repeat (first|simp|refine sR ?_)
 refine sT (sH hbox htok ?_);simp [packA]
def stKv (t:Ty) (g:Gr) (nb:Nat) (box:Bxs) (tok:Tks) (nt:Nat) (i:Nat):AState :=
 ⟨tl [(10,I i),(9,I g.nodes.length),(8,.d (ints g.nodes)),(3,.ptr (nb+3) 0 0),(2,.ptr (nb+2) 0 0)],lb nb box [(3,[[.d (ints g.nodes),.d (AM.edges g.edges)]]),(2,[[.d (nts t.nodes),.d (ets t.edges)]])],tok,nt⟩
theorem leavesK_c (t:Ty) (ht:t.Fit) (g:Gr) (hg:g.Fit) (hv:∀ e∈g.edges,0≤e.fr∧e.fr<g.nodes.length∧0≤e.to∧e.to<g.nodes.length) (tok:Tks) (nt:Nat):DCall Tryz.prog 67 [t.av,g.av] tok nt (B (lvsB t g)) tok nt:=by
 intro box nb;have hgn:=hg.n;have hge:=hg.e;have htn:=ht.n;obtain ⟨N,hN⟩:∃ N,lvsB t g=N:=⟨_,rfl⟩
 rw [hN];unfold lvsB at hN;refine sI Tryz.func67 Tryz.ntmps67 fun hbox htok=>?_
 repeat (first|simp|refine sR ?_)
 refine sN ?_;refine AL.loopT (stKv t g nb box tok nt) (fun i=>i≤g.nodes.length∧allP (lvN t) (g.nodes.take i)=true) (fun i=>g.nodes.length - i) 0 ⟨Nat.zero_le _,by simp [allP]⟩ wkA ?_;rintro i S' ⟨hi,hok⟩ hS;simp only [stKv] at hS;subst hS;have hw:=sW (i:=i) (by omega);repeat (first|simp|refine sR ?_|refine sC ?_)
 refine ⟨fun hlt=>?_,fun hge=>?_⟩
 ·have hno:=fun h=>all_no (p:=lvN t) hlt h
  have hyes:=fun h=>all_more (p:=lvN t) hlt hok h
  have hl:lvN t g.nodes[i]=if (t.nodes.length:Int)≤g.nodes[i] then false else leafB t g.nodes[i]:=rfl
  have hc:=leafK_c t (by omega) g.nodes[i];by_cases e1:(t.nodes.length:Int)≤g.nodes[i]
  ·rw [if_pos e1] at hl;rw [hno hl,if_neg (by simp)] at hN;repeat (first|simp [hlt,e1]|refine sR ?_)
   refine sC ?_;simp [e1];repeat (first|simp|refine sR ?_)
   refine sT (sH hbox htok ?_);simp [packA,←hN]
  ·rw [if_neg e1] at hl;repeat (first|simp [hlt,e1]|refine sR ?_)
   refine Stop.of_d (hc _ _) ?_;simp;cases e2:leafB t g.nodes[i]
   ·rw [e2] at hl;rw [hno hl,if_neg (by simp)] at hN;repeat (first|simp|refine sR ?_)
    refine sC ?_;repeat (first|simp|refine sR ?_)
    refine sT (sH hbox htok ?_);simp [packA,←hN]
   ·rw [e2] at hl;repeat (first|simp [hw]|refine sR ?_|refine sC ?_)
    refine sE ?_;exact ⟨i+1,⟨hlt,hyes hl⟩,by omega,wkA⟩
 ·refine sX ?_;simp only [AU, ↓reduceIte];have:i=g.nodes.length:=by omega
  subst this;rw [List.take_length] at hok;rw [if_pos hok] at hN;obtain ⟨p,hpp⟩:∃ p:E→Bool,(fun e=>!lvE t g e)=p:=⟨_,rfl⟩
  have h2:=fun y (hy:y∈g.edges) box nb k1 k2 hk1 hk2=>leavesK1_c t ht g y ⟨(hv y hy).1,(hv y hy).2.1⟩ ⟨(hv y hy).2.2.1,(hv y hy).2.2.2⟩ box nb k1 k2 tok nt hk1 hk2
  have hpy:∀ y:E,(!lvE t g y)=p y:=fun y=>by rw [←hpp]
  simp only [hpy] at h2;have hN2:(!anyB p g.edges)=N:=by
   rw [←hN,←hpp,allP,anyB,List.any_eq_not_all_not,Bool.not_not];simp
  repeat (first|simp|refine sR ?_)
  have hcap:∀ c∈[AV.ptr (nb+2) 0 0,AV.ptr (nb+3) 0 0],OkIn (fun k=>(lb nb box [(3,[[.d (ints g.nodes),.d (AM.edges g.edges)]]),(2,[[.d (nts t.nodes),.d (ets t.edges)]])]) k≠none) (fun _=>True) c:=by
   intro c hc;simp only [List.mem_cons,List.not_mem_nil,or_false] at hc;rcases hc with h|h
   ·rw [h]; simp [lb_at]
   ·rw [h]; simp [lb_at]
  refine Stop.of_b (containsFuncE_c g.edges 136 [.ptr (nb+2) 0 0,.ptr (nb+3) 0 0] p hg.e _ _ _ _ hcap (fun y hy box' nb' he=>h2 y hy box' nb' _ _ (he _ _ (by simp [lb_at])) (he _ _ (by simp [lb_at])))) ?_;repeat (first|simp|refine sR ?_)
  refine sT (sH hbox htok ?_);simp [packA,←hN2]
def stIX (xs:List Xt) (f:FuncId) (caps:List AV) (nb:Nat) (box:Bxs) (tok:Tks) (nt:Nat) (i:Nat):AState:=⟨tl [(0,.d (xts xs)),(1,.fn (.func f) caps),(7,I xs.length),(8,I i)],lb nb box [],tok,nt⟩
theorem indexFuncX_c (xs:List Xt) (f:FuncId) (caps:List AV) (p:Xt→Bool) (hx:xs.length≤1000000) (box:Bxs) (nb:Nat) (tok:Tks) (nt:Nat) (hc:∀ c∈caps,OkIn (fun k=>box k≠none) (fun _=>True) c)
  (hf:∀ x∈xs,∀ box' nb',Ext box box'→ACalls Tryz.prog f (x.av::caps) ⟨box',nb',tok,nt⟩ fun v m=>v=B (p x)∧m=⟨box',nb',tok,nt⟩) :
  ACalls Tryz.prog 138 [.d (xts xs),.fn (.func f) caps] ⟨box,nb,tok,nt⟩ fun v m=>v=I (if anyB p xs=true then (xs.findIdx p:Nat) else -1)∧m=⟨box,nb,tok,nt⟩:=by
 refine sI Tryz.func138 Tryz.ntmps138 fun hbox htok=>?_
 repeat (first|simp|refine sR ?_)
 refine sN ?_;refine AL.loopT (stIX xs f caps nb box tok nt) (fun i=>i≤xs.length∧∀ x∈xs.take i,p x=false) (fun i=>xs.length - i) 0 ⟨Nat.zero_le _,by simp⟩ (Weaks.mk (Nat.le_refl _) rfl (by simp [ToL]; exact .same (okFn hc hbox [] (by simp) rfl _)) trivial) ?_;rintro i S' ⟨hi,htk⟩ hS;simp only [stIX] at hS;subst hS;have hw:=sW (i:=i) (by omega);repeat (first|simp|refine sR ?_|refine sC ?_)
 refine ⟨fun hlt=>?_,fun hge=>?_⟩
 ·have hfx:=hf xs[i] (List.getElem_mem _);have hpx:p xs[i]=true→anyB p xs=true∧(xs.findIdx p=i):=fun he=>any_takeG hlt htk he
  have hmore:p xs[i]=false→∀ x∈xs.take (i+1),p x=false:=fun he x hx=>by
   rw [List.take_succ_eq_append_getElem hlt] at hx;rcases List.mem_append.1 hx with hx|hx
   ·exact htk x hx
   ·simp at hx; rw [hx]; exact he
  repeat (first|simp [hlt]|refine sR ?_)
  generalize xs[i]=x at *;refine Stop.of_b (hfx _ _ ((Ext.refl box).lb hbox [])) ?_;simp;cases he:p x
  ·refine sC ?_;simp;repeat (first|simp [hw]|refine sR ?_)
   refine sE ?_;refine ⟨i+1,⟨hlt,?_⟩,by omega,Weaks.mk (Nat.le_refl _) rfl (by simp [ToL]; exact .same (okFn hc hbox [] (by simp) rfl _)) trivial⟩;exact hmore he
  ·obtain ⟨h1,h2⟩:=hpx he;refine sC ?_;repeat (first|simp|refine sR ?_)
   refine sT (sH hbox htok ?_);simp [packA,h1,h2]
 ·have hn:anyB p xs=false:=by
   rw [List.take_of_length_le hge] at htk;simpa [anyB] using htk
  refine sX ?_;simp only [AU, ↓reduceIte];repeat (first|simp|refine sR ?_)
  refine sT (sH hbox htok ?_);simp [packA,hn]
theorem containsFuncX_c (xs:List Xt) (f:FuncId) (caps:List AV) (p:Xt→Bool) (hx:xs.length≤1000000) (box:Bxs) (nb:Nat) (tok:Tks) (nt:Nat) (hc:∀ c∈caps,OkIn (fun k=>box k≠none) (fun _=>True) c)
  (hf:∀ x∈xs,∀ box' nb',Ext box box'→ACalls Tryz.prog f (x.av::caps) ⟨box',nb',tok,nt⟩ fun v m=>v=B (p x)∧m=⟨box',nb',tok,nt⟩) :
  ACalls Tryz.prog 68 [.d (xts xs),.fn (.func f) caps] ⟨box,nb,tok,nt⟩ fun v m=>v=B (anyB p xs)∧m=⟨box,nb,tok,nt⟩:=by
 obtain ⟨A,hany⟩:∃ A,anyB p xs=A:=⟨_,rfl⟩
 have hi:=fun b nb' h1 h2=>indexFuncX_c xs f caps p hx b nb' tok nt h1 h2
 rw [hany];simp only [hany] at hi;refine sI Tryz.func68 Tryz.ntmps68 fun hbox htok=>?_
 repeat (first|simp|refine sR ?_)
 refine Stop.of_b (hi (lb nb box []) _ (fun c h=>(hc c h).mono (fun k hk=>by rw [hbox]; exact hk) fun _ h=>h) (fun x hx' box' nb' he=>hf x hx' box' nb' (by rw [hbox] at he; exact he))) ?_;simp;cases A
 ·repeat (first|simp|refine sR ?_)
  refine sT (sH hbox htok ?_);simp [packA]
 ·have h0:(0:Int)≤(xs.findIdx p:Nat):=by omega
  repeat (first|simp|refine sR ?_)
  refine sT (sH hbox htok ?_);simp [packA,h0]
theorem lrgK_c (g:Gr) (hg:g.Fit) (tok:Tks) (nt:Nat):DCall Tryz.prog 123 [g.av] tok nt (B (lrgB g)) tok nt:=by
 intro box nb;have hn:=hg.n;have he:=hg.e;obtain ⟨N,hN⟩:∃ N,lrgB g=N:=⟨_,rfl⟩
 rw [hN];unfold lrgB at hN;by_cases e1:6<g.nodes.length
 ·have e1':(6:Int)<g.nodes.length:=by omega
  rw [if_pos e1] at hN;refine sI Tryz.func123 Tryz.ntmps123 fun hbox htok=>?_
  try (simp [e1,e1'])
  repeat (first|(refine sR ?_; simp [e1,e1'])|(refine sC ?_; simp [e1,e1'])|(refine sX ?_; simp only [AU, ↓reduceIte]))
  refine sT (sH hbox htok ?_);simp [packA,←hN]
 ·have e1':¬ (6:Int)<g.nodes.length:=by omega
  rw [if_neg e1] at hN;by_cases e2:8<g.edges.length
  ·have e2':(8:Int)<g.edges.length:=by omega
   rw [decide_eq_true e2] at hN;refine sI Tryz.func123 Tryz.ntmps123 fun hbox htok=>?_
   try (simp [e1,e1',e2,e2'])
   repeat (first|(refine sR ?_; simp [e1,e1',e2,e2'])|(refine sC ?_; simp [e1,e1',e2,e2'])|(refine sX ?_; simp only [AU, ↓reduceIte]))
   refine sT (sH hbox htok ?_);simp [packA,←hN,e2']
  ·have e2':¬ (8:Int)<g.edges.length:=by omega
   rw [decide_eq_false e2] at hN;refine sI Tryz.func123 Tryz.ntmps123 fun hbox htok=>?_
   try (simp [e1,e1',e2,e2'])
   repeat (first|(refine sR ?_; simp [e1,e1',e2,e2'])|(refine sC ?_; simp [e1,e1',e2,e2'])|(refine sX ?_; simp only [AU, ↓reduceIte]))
   refine sT (sH hbox htok ?_);simp [packA,←hN,e2']
theorem kd_cases (c:Co):(c.kind=1∧c.exts=[]∧kdE c=0)∨(c.kind=1∧c.exts≠[]∧kdE c=1)∨(c.kind=2∧c.exts=[]∧kdE c=7)∨(c.kind=2∧c.exts≠[]∧6<c.exts.length∧kdE c=3)∨(c.kind=2∧c.exts≠[]∧¬ 6<c.exts.length∧kdE c=0)∨(c.kind≠1∧c.kind≠2∧kdE c=1):=by
 unfold kdE;by_cases h1:c.kind=1
 ·by_cases h2:c.exts=[] <;> simp [h1,h2]
 ·by_cases h2:c.kind=2
  ·by_cases h3:c.exts=[]
   ·simp [h2,h3]
   ·by_cases h4:6<c.exts.length <;> simp [h2,h3,h4]
  ·simp [h1,h2]
def stSx (c:Co) (nb:Nat) (box:Bxs) (tok:Tks) (nt:Nat) (i:Nat):AState :=
 ⟨tl [(59,I i),(58,I c.exts.length),(57,.d (xts c.exts)),(1,.ptr (nb+1) 0 0)],lb nb box [(1,[c.row])],tok,nt⟩
theorem shpK_c (c:Co) (hc:c.Fit) (tok:Tks) (nt:Nat):DCall Tryz.prog 60 [c.av] tok nt (I (shpE c)) tok nt:=by
 intro box nb;have h1:=isName_c c.name hc.name;have h2:=graphValid_c c.g hc.g;have h3:=lrgK_c c.g hc.g;have hxn:=hc.n;obtain ⟨N,hN⟩:∃ N,shpE c=N:=⟨_,rfl⟩
 rw [hN];unfold shpE at hN;generalize nameB c.name=B1 at *;generalize validG c.g=E2 at *;generalize lrgB c.g=B3 at *;cases B1
 ·rw [if_pos rfl] at hN;refine sI Tryz.func60 Tryz.ntmps60 fun hbox htok=>?_
  repeat (first|simp|refine sR ?_)
  refine Stop.of_d (h1 _ _) ?_;simp;try (simp)
  repeat (first|(refine sR ?_; simp)|(refine sC ?_; simp)|(refine sX ?_; simp only [AU, ↓reduceIte]))
  refine sT (sH hbox htok ?_);simp [packA,←hN]
 ·rw [if_neg (by simp)] at hN;have xp:=fun (h:c.exts≠[])=>List.length_pos_iff.2 h
  rcases kd_cases c with ⟨k1,x1,kd⟩|⟨k1,x1,kd⟩|⟨k1,x1,kd⟩|⟨k1,x1,x2,kd⟩|⟨k1,x1,x2,kd⟩|⟨k1,k2,kd⟩
  ·rw [if_neg (by rw [kd]; decide)] at hN;refine sI Tryz.func60 Tryz.ntmps60 fun hbox htok=>?_
   repeat (first|simp|refine sR ?_)
   refine Stop.of_d (h1 _ _) ?_;simp;try (simp [k1,x1])
   repeat (first|(refine sR ?_; simp [k1,x1])|(refine sC ?_; simp [k1,x1])|(refine sX ?_; simp only [AU, ↓reduceIte]))
   refine Stop.of_d (h2 _ _) ?_;repeat (first|simp|refine sR ?_)
   by_cases v0:E2=0
   ·rw [if_neg (by simp [v0])] at hN;refine sC ?_;simp [v0];repeat (first|simp|refine sR ?_)
    refine Stop.of_d (h3 _ _) ?_;simp;cases B3
    ·rw [if_neg (by simp)] at hN;repeat (first|simp|refine sR ?_)
     refine sC ?_;repeat (first|simp|refine sR ?_)
     refine sN ?_;refine AL.loopT (stSx c nb box tok nt) (fun i=>i≤c.exts.length∧firstE (xtAt c) i=0) (fun i=>c.exts.length - i) 0 ⟨Nat.zero_le _,rfl⟩ wkA ?_;rintro i S' ⟨hi,hok⟩ hS;simp only [stSx] at hS;subst hS;have hw:=sW (i:=i) (by omega);repeat (first|simp|refine sR ?_|refine sC ?_)
     refine ⟨fun hlt=>?_,fun hge=>?_⟩
     ·have hx:=hc.exts _ (List.getElem_mem hlt);have hR:xtAt c i≠0→firstE (xtAt c) c.exts.length=xtAt c i:=fun h0=>firstE_stop hok h0 _ hlt
      have hnx:xtAt c i=0→firstE (xtAt c) (i+1)=0:=fun h0=>by simp only [firstE,hok,h0, ↓reduceIte]
      have hd:xtAt c i=xtE c.g c.exts[i]:=xtAt_at hlt
      unfold xtE at hd;have c1:=valid51_c c.g c.exts[i].g c.exts[i].m hc.g hx.g;have c2:=lrgK_c c.exts[i].g hx.g;have c3:=injective56_c c.g c.exts[i].g c.exts[i].m hc.g hx.g hx.m;generalize xtAt c i=E at *;repeat (first|simp [hlt]|refine sR ?_)
      refine Stop.of_d (c1 _ _) ?_;repeat (first|simp|refine sR ?_)
      by_cases f1:validM c.g c.exts[i].g c.exts[i].m=0
      ·rw [if_neg (by simp [f1])] at hd;simp only [f1];refine sC ?_;repeat (first|simp|refine sR ?_)
       refine Stop.of_d (c2 _ _) ?_;simp;cases f2:lrgB c.exts[i].g
       ·rw [f2,if_neg (by simp)] at hd;repeat (first|simp|refine sR ?_)
        refine sC ?_;repeat (first|simp|refine sR ?_)
        refine Stop.of_d (c3 _ _) ?_;simp;cases f3:injM c.g c.exts[i].g c.exts[i].m
        ·rw [f3,if_neg (by simp)] at hd;rw [hR (by rw [hd]; decide),hd] at hN;repeat (first|simp|refine sR ?_)
         refine sC ?_;repeat (first|simp|refine sR ?_)
         refine sT (sH hbox htok ?_);simp [packA,←hN]
        ·rw [f3,if_pos rfl] at hd;repeat (first|simp [hw]|refine sR ?_|refine sC ?_)
         refine sE ?_;exact ⟨i+1,⟨hlt,hnx hd⟩,by omega,wkA⟩
       ·rw [f2,if_pos rfl] at hd;rw [hR (by rw [hd]; decide),hd] at hN;repeat (first|simp|refine sR ?_)
        refine sC ?_;repeat (first|simp|refine sR ?_)
        refine sT (sH hbox htok ?_);simp [packA,←hN]
      ·rw [if_pos f1] at hd;have b1:(validM c.g c.exts[i].g c.exts[i].m != 0)=true:=by simp [f1]
       rw [hR (by rw [hd]; exact f1),hd] at hN;simp only [b1];refine sC ?_;repeat (first|simp|refine sR ?_)
       refine sT (sH hbox htok ?_);simp [packA,←hN]
     ·refine sX ?_;simp only [AU, ↓reduceIte];have:i=c.exts.length:=by omega
      subst this;rw [hok] at hN;repeat (first|simp|refine sR ?_)
      refine sT (sH hbox htok ?_);simp [packA,←hN]
    ·rw [if_pos rfl] at hN;repeat (first|simp|refine sR ?_)
     refine sC ?_;repeat (first|simp|refine sR ?_)
     refine sT (sH hbox htok ?_);simp [packA,←hN]
   ·have b0:(E2 != 0)=true:=by simp [v0]
    rw [if_pos v0] at hN;refine sC ?_;simp [v0,b0];repeat (first|simp|refine sR ?_)
    refine sT (sH hbox htok ?_);simp [packA,←hN]
  ·rw [if_pos (by rw [kd]; decide),kd] at hN;have x1':=xp x1
   refine sI Tryz.func60 Tryz.ntmps60 fun hbox htok=>?_
   repeat (first|simp|refine sR ?_)
   refine Stop.of_d (h1 _ _) ?_;simp;try (simp [k1,x1,x1'])
   repeat (first|(refine sR ?_; simp [k1,x1,x1'])|(refine sC ?_; simp [k1,x1,x1'])|(refine sX ?_; simp only [AU, ↓reduceIte]))
   refine sT (sH hbox htok ?_);simp [packA,←hN]
  ·rw [if_pos (by rw [kd]; decide),kd] at hN;refine sI Tryz.func60 Tryz.ntmps60 fun hbox htok=>?_
   repeat (first|simp|refine sR ?_)
   refine Stop.of_d (h1 _ _) ?_;simp;try (simp [k1,x1])
   repeat (first|(refine sR ?_; simp [k1,x1])|(refine sC ?_; simp [k1,x1])|(refine sX ?_; simp only [AU, ↓reduceIte]))
   refine sT (sH hbox htok ?_);simp [packA,←hN]
  ·rw [if_pos (by rw [kd]; decide),kd] at hN;have x2':(6:Int)<c.exts.length:=by omega
   refine sI Tryz.func60 Tryz.ntmps60 fun hbox htok=>?_
   repeat (first|simp|refine sR ?_)
   refine Stop.of_d (h1 _ _) ?_;simp;try (simp [k1,x1,x2,x2'])
   repeat (first|(refine sR ?_; simp [k1,x1,x2,x2'])|(refine sC ?_; simp [k1,x1,x2,x2'])|(refine sX ?_; simp only [AU, ↓reduceIte]))
   refine sT (sH hbox htok ?_);simp [packA,←hN]
  ·rw [if_neg (by rw [kd]; decide)] at hN;have x2':¬ (6:Int)<c.exts.length:=by omega
   refine sI Tryz.func60 Tryz.ntmps60 fun hbox htok=>?_
   repeat (first|simp|refine sR ?_)
   refine Stop.of_d (h1 _ _) ?_;simp;try (simp [k1,x1,x2,x2'])
   repeat (first|(refine sR ?_; simp [k1,x1,x2,x2'])|(refine sC ?_; simp [k1,x1,x2,x2'])|(refine sX ?_; simp only [AU, ↓reduceIte]))
   refine Stop.of_d (h2 _ _) ?_;repeat (first|simp|refine sR ?_)
   by_cases v0:E2=0
   ·rw [if_neg (by simp [v0])] at hN;refine sC ?_;simp [v0];repeat (first|simp|refine sR ?_)
    refine Stop.of_d (h3 _ _) ?_;simp;cases B3
    ·rw [if_neg (by simp)] at hN;repeat (first|simp|refine sR ?_)
     refine sC ?_;repeat (first|simp|refine sR ?_)
     refine sN ?_;refine AL.loopT (stSx c nb box tok nt) (fun i=>i≤c.exts.length∧firstE (xtAt c) i=0) (fun i=>c.exts.length - i) 0 ⟨Nat.zero_le _,rfl⟩ wkA ?_;rintro i S' ⟨hi,hok⟩ hS;simp only [stSx] at hS;subst hS;have hw:=sW (i:=i) (by omega);repeat (first|simp|refine sR ?_|refine sC ?_)
     refine ⟨fun hlt=>?_,fun hge=>?_⟩
     ·have hx:=hc.exts _ (List.getElem_mem hlt);have hR:xtAt c i≠0→firstE (xtAt c) c.exts.length=xtAt c i:=fun h0=>firstE_stop hok h0 _ hlt
      have hnx:xtAt c i=0→firstE (xtAt c) (i+1)=0:=fun h0=>by simp only [firstE,hok,h0, ↓reduceIte]
      have hd:xtAt c i=xtE c.g c.exts[i]:=xtAt_at hlt
      unfold xtE at hd;have c1:=valid51_c c.g c.exts[i].g c.exts[i].m hc.g hx.g;have c2:=lrgK_c c.exts[i].g hx.g;have c3:=injective56_c c.g c.exts[i].g c.exts[i].m hc.g hx.g hx.m;generalize xtAt c i=E at *;repeat (first|simp [hlt]|refine sR ?_)
      refine Stop.of_d (c1 _ _) ?_;repeat (first|simp|refine sR ?_)
      by_cases f1:validM c.g c.exts[i].g c.exts[i].m=0
      ·rw [if_neg (by simp [f1])] at hd;simp only [f1];refine sC ?_;repeat (first|simp|refine sR ?_)
       refine Stop.of_d (c2 _ _) ?_;simp;cases f2:lrgB c.exts[i].g
       ·rw [f2,if_neg (by simp)] at hd;repeat (first|simp|refine sR ?_)
        refine sC ?_;repeat (first|simp|refine sR ?_)
        refine Stop.of_d (c3 _ _) ?_;simp;cases f3:injM c.g c.exts[i].g c.exts[i].m
        ·rw [f3,if_neg (by simp)] at hd;rw [hR (by rw [hd]; decide),hd] at hN;repeat (first|simp|refine sR ?_)
         refine sC ?_;repeat (first|simp|refine sR ?_)
         refine sT (sH hbox htok ?_);simp [packA,←hN]
        ·rw [f3,if_pos rfl] at hd;repeat (first|simp [hw]|refine sR ?_|refine sC ?_)
         refine sE ?_;exact ⟨i+1,⟨hlt,hnx hd⟩,by omega,wkA⟩
       ·rw [f2,if_pos rfl] at hd;rw [hR (by rw [hd]; decide),hd] at hN;repeat (first|simp|refine sR ?_)
        refine sC ?_;repeat (first|simp|refine sR ?_)
        refine sT (sH hbox htok ?_);simp [packA,←hN]
      ·rw [if_pos f1] at hd;have b1:(validM c.g c.exts[i].g c.exts[i].m != 0)=true:=by simp [f1]
       rw [hR (by rw [hd]; exact f1),hd] at hN;simp only [b1];refine sC ?_;repeat (first|simp|refine sR ?_)
       refine sT (sH hbox htok ?_);simp [packA,←hN]
     ·refine sX ?_;simp only [AU, ↓reduceIte];have:i=c.exts.length:=by omega
      subst this;rw [hok] at hN;repeat (first|simp|refine sR ?_)
      refine sT (sH hbox htok ?_);simp [packA,←hN]
    ·rw [if_pos rfl] at hN;repeat (first|simp|refine sR ?_)
     refine sC ?_;repeat (first|simp|refine sR ?_)
     refine sT (sH hbox htok ?_);simp [packA,←hN]
   ·have b0:(E2 != 0)=true:=by simp [v0]
    rw [if_pos v0] at hN;refine sC ?_;simp [v0,b0];repeat (first|simp|refine sR ?_)
    refine sT (sH hbox htok ?_);simp [packA,←hN]
  ·rw [if_pos (by rw [kd]; decide),kd] at hN;have b1:(c.kind==1)=false:=by simp [k1]
   have b2:(c.kind==2)=false:=by simp [k2]
   have b3:(c.kind != 1)=true:=by simp [k1]
   have b4:(c.kind != 2)=true:=by simp [k2]
   refine sI Tryz.func60 Tryz.ntmps60 fun hbox htok=>?_
   repeat (first|simp|refine sR ?_)
   refine Stop.of_d (h1 _ _) ?_;simp;try (simp [k1,k2,b1,b2,b3,b4])
   repeat (first|(refine sR ?_; simp [k1,k2,b1,b2,b3,b4])|(refine sC ?_; simp [k1,k2,b1,b2,b3,b4])|(refine sX ?_; simp only [AU, ↓reduceIte]))
   refine sT (sH hbox htok ?_);simp [packA,←hN]
theorem validK1_c (t:Ty) (ht:t.Fit) (x:Xt) (hx:x.g.Fit) (hv:∀ e∈x.g.edges,0≤e.fr∧e.fr<x.g.nodes.length∧0≤e.to∧e.to<x.g.nodes.length) (box:Bxs) (nb k1:Nat) (tok:Tks) (nt:Nat) (h1:box k1=some [[.d (nts t.nodes),.d (ets t.edges)]]) :
  ACalls Tryz.prog 69 [x.av,.ptr k1 0 0] ⟨box,nb,tok,nt⟩ fun v m=>v=B (!lvsB t x.g)∧m=⟨box,nb,tok,nt⟩:=by
 have hc:=leavesK_c t ht x.g hx hv;generalize lvsB t x.g=R at *;refine sI Tryz.func69 Tryz.ntmps69 fun hbox htok=>?_
 have k1n:=key_lt hbox h1;repeat (first|simp [lb_out k1n,h1]|refine sR ?_)
 refine Stop.of_d (hc _ _) ?_;repeat (first|simp|refine sR ?_)
 refine sT (sH hbox htok ?_);simp [packA]
theorem validK_c (t:Ty) (ht:t.Fit) (c:Co) (hc:c.Fit) (tok:Tks) (nt:Nat):DCall Tryz.prog 17 [t.av,c.av] tok nt (I (cnE t c)) tok nt:=by
 intro box nb;have h1:=valid_c4 t ht ht.hM;have h2:=shpK_c c hc;have hv:=@shpE_zero c;obtain ⟨N,hN⟩:∃ N,cnE t c=N:=⟨_,rfl⟩
 rw [hN];unfold cnE at hN;generalize tyE t=E at *;generalize tyN t=Z at *;generalize shpE c=S at *;refine sI Tryz.func17 Tryz.ntmps17 fun hbox htok=>?_
 repeat (first|simp|refine sR ?_)
 refine Stop.of_d (h1 _ _) ?_;repeat (first|simp|refine sR ?_)
 by_cases e1:E=0
 ·rw [if_neg (by simp [e1])] at hN;refine sC ?_;simp [e1];repeat (first|simp|refine sR ?_)
  refine Stop.of_d (h2 _ _) ?_;repeat (first|simp|refine sR ?_)
  by_cases e2:S=0
  ·rw [if_neg (by simp [e2])] at hN;obtain ⟨_,_,v1,_,v2⟩:=hv e2;have l1:=leavesK_c t ht c.g hc.g (validG_edges v1);have l2:=fun x (hx:x∈c.exts)=>validK1_c t ht x (hc.exts x hx).g (validG_edges (validM_VM (v2 x hx).1).vb)
   unfold lvX at hN;refine sC ?_;simp [e2];repeat (first|simp|refine sR ?_)
   refine Stop.of_d (l1 _ _) ?_;simp;cases e3:lvsB t c.g
   ·rw [e3,if_neg (by simp)] at hN;repeat (first|simp|refine sR ?_)
    refine sC ?_;repeat (first|simp|refine sR ?_)
    refine sT (sH hbox htok ?_);simp [packA,←hN]
   ·rw [e3,if_pos rfl] at hN;obtain ⟨p,hpp⟩:∃ p:Xt→Bool,(fun x:Xt=>!lvsB t x.g)=p:=⟨_,rfl⟩
    have hpy:∀ y:Xt,(!lvsB t y.g)=p y:=fun y=>by rw [←hpp]
    simp only [hpy] at l2;have hN2:(!anyB p c.exts)=allP (fun x:Xt=>lvsB t x.g) c.exts:=by
     rw [←hpp,allP,anyB,List.any_eq_not_all_not,Bool.not_not];simp
    rw [←hN2] at hN;repeat (first|simp|refine sR ?_)
    refine Stop.of_b (containsFuncX_c c.exts 69 [.ptr (nb+2) 0 0] p hc.n _ _ _ _ (fun c hc=>by rw [List.mem_singleton.1 hc]; simp [lb_at]) (fun y hy box' nb' he=>l2 y hy box' nb' _ _ _ (he _ _ (by simp [lb_at])))) ?_;simp;cases e4:anyB p c.exts
    ·rw [e4,Bool.not_false,if_pos rfl] at hN;repeat (first|simp|refine sR ?_)
     refine sC ?_;repeat (first|simp|refine sR ?_)
     refine sT (sH hbox htok ?_);simp [packA,←hN]
    ·rw [e4,Bool.not_true,if_neg (by simp)] at hN;repeat (first|simp|refine sR ?_)
     refine sC ?_;repeat (first|simp|refine sR ?_)
     refine sT (sH hbox htok ?_);simp [packA,←hN]
  ·rw [if_pos e2] at hN;have b2:(S != 0)=true:=by simp [e2]
   refine sC ?_;simp [b2];repeat (first|simp|refine sR ?_)
   refine sT (sH hbox htok ?_);simp [packA,←hN]
 ·rw [if_pos e1] at hN;have b1:(E != 0)=true:=by simp [e1]
  refine sC ?_;simp [b1];repeat (first|simp|refine sR ?_)
  refine sT (sH hbox htok ?_);simp [packA,←hN]
def xC (m:Mo) (g:Gr) (k:Cd):Cd:=.mk 5 [k] m g [] 0 []
def cndC (c:Co):Cd:=cdOf 2 [xC ⟨[],[]⟩ c.g (if c.kind=1 then cdOf 1 [] else cdOf 2 [cdOf 4 (c.exts.map fun x=>xC x.m x.g (cdOf 1 []))])]
def condR (c:Co):Cd × Int:=if shpE c≠0 then (cdOf 0 [],shpE c) else (cndC c,0)
def belR (t:Ty) (a:Int):List Int × Int:=if givE t [a]≠0 then ([],givE t [a]) else (belK t a t.nodes.length,0)
theorem givE_leaf {t:Ty} (h:tyE t=0) {a:Int} (h0:0≤a):givE t [a]=if (t.nodes.length:Int)≤a then 6 else 0:=by
 unfold givE;rw [if_pos h];by_cases h1:(t.nodes.length:Int)≤a
 ·have:¬ a<t.nodes.length:=by omega
  simp [anyB,insB,h1,this]
 ·have:a<t.nodes.length:=by omega
  simp [anyB,insB,h1,this,h0]
def stBw (t:Ty) (a:Int) (nb:Nat) (box:Bxs) (x:Acc):AState :=
 ⟨tl [(19,I x.i),(18,I t.nodes.length),(7,.osl 1 (rI (belK t a x.i)) x.own),(1,I a),(2,.ptr (nb+2) 0 0)],lb nb box [(2,[[.d (nts t.nodes),.d (ets t.edges)]])],x.tok,x.nt⟩
theorem below_c (t:Ty) (ht:t.Fit) (a:Int) (tok:Tks) (nt:Nat):DCall Tryz.prog 304 [t.av,I a] tok nt (.tup [.d (ints (belR t a).1),I (belR t a).2]) tok nt:=by
 intro box nb;have htn:=ht.n;have h1:=given_c t ht [a] (by simp);have hin:=@givE_in t [a];obtain ⟨N,hN⟩:∃ N,belR t a=N:=⟨_,rfl⟩
 rw [hN];unfold belR at hN;generalize givE t [a]=E at *;refine sI Tryz.func304 Tryz.ntmps304 fun hbox htok=>?_
 repeat (first|simp|refine sR ?_)
 refine Stop.data ?_;refine Stop.of_d (h1 _ _) ?_;repeat (first|simp|refine sR ?_)
 by_cases e1:E=0
 ·rw [if_neg (by simp [e1])] at hN;have hp:=tyE_par (hin e1).1;refine sC ?_;simp [e1];repeat (first|simp|refine sR ?_)
  refine sN ?_;refine AL.loopT (stBw t a nb box) (fun x=>x.i≤t.nodes.length∧TK tok nt x.tok x.nt [x.own]) (fun x=>t.nodes.length - x.i) ⟨0,.full,tok,nt⟩ ⟨Nat.zero_le _,(TK.start htok).full⟩ (Weaks.mk (Nat.le_refl _) rfl (by simp [ToL,lk,belK_zero]) (by simp [BoxL,lk])) ?_;rintro ⟨i,own,tok',nt'⟩ S ⟨hi,htk⟩ hS;simp only [stBw] at hS hi htk;subst hS;have hw:=sW (i:=i) (by omega);have hlen:=belK_len t a i;have hsc:=belK_succ t a i;repeat (first|simp|refine sR ?_|refine sC ?_)
  refine ⟨fun hlt=>?_,fun hge=>?_⟩
  ·have hc:=is_c t ht i a (by omega) (by omega) hp;generalize belK t a i=L at *;repeat (first|simp [hlt]|refine sR ?_)
   refine Stop.of_d (hc _ _) ?_;simp;cases e2:isB t i a
   ·rw [e2,if_neg (by simp)] at hsc;repeat (first|simp [hw]|refine sR ?_|refine sC ?_)
    refine sE ?_;exact ⟨⟨i+1,own,tok',nt'⟩,⟨hlt,htk⟩,by simp only; omega,Weaks.mk htk.le rfl (by simp [ToL,lk,hsc]) (by simp [BoxL,lk])⟩
   ·rw [e2,if_pos rfl] at hsc;repeat (first|simp|refine sR ?_)
    refine sC ?_;repeat (first|simp|refine sR ?_)
    refine ⟨⟨by omega,htk.live⟩,?_⟩;repeat (first|simp [hw]|refine sR ?_)
    refine sE ?_;exact ⟨⟨i+1,_,_,_⟩,⟨hlt,htk.app⟩,by simp only; omega,Weaks.mk htk.app.le rfl (by simp [ToL,lk,hsc]) (by simp [BoxL,lk])⟩
  ·refine sX ?_;simp only [AU, ↓reduceIte];have:i=t.nodes.length:=by omega
   subst this;repeat (first|simp|refine sR ?_)
   refine sT (sG hbox htok htk.old htk.le ?_);simp [packA,←hN]
 ·rw [if_pos e1] at hN;have b1:(E != 0)=true:=by simp [e1]
  refine sC ?_;simp [b1];repeat (first|simp|refine sR ?_)
  refine sT (sH hbox htok ?_);simp [packA,←hN,ints]
abbrev blB (l:List Bool):D:=.sl 1 (l.map fun b=>[D.raw (.bool b)])
def isRow (t:Ty) (a:Nat):List Bool:=(List.range t.nodes.length).map fun (b:Nat)=>isB t (b:Int) (a:Int)
def isTb (t:Ty):List (List Bool):=(List.range t.nodes.length).map (isRow t)
def isD (t:Ty):D:=.sl 1 ((isTb t).map fun r=>[blB r])
def ptD (nl:Bool) (l:List Int):D:=if nl=true then .raw nilV else ints l
structure Sr.Nl (s:Sr) (nl:Bool):Prop where
 n:nl=true→∀ x∈s.pt.nodes,x = -1
 e:nl=true→∀ x∈s.pt.edges,x = -1
def Sr.rowD (s:Sr) (nl:Bool) (fm:Nat) (N E:List Int) (out:List Mo):List D :=
 [ints s.p.nodes,AM.edges s.p.edges,ints s.g.nodes,AM.edges s.g.edges,isD s.t,ptD nl s.pt.nodes,ptD nl s.pt.edges,.raw (.bool s.inj),.raw (.int .i64 fm),ints N,ints E,.sl 2 (mosR out)]
abbrev Sr.rowF (s:Sr) (nl:Bool) (fm:Nat) (N:List Int) (a:Nat) (E:List Int) (b:Nat) (out:List Mo) (own:Own):List AV :=
 [.d (ints s.p.nodes),.d (AM.edges s.p.edges),.d (ints s.g.nodes),.d (AM.edges s.g.edges),.d (isD s.t),.d (ptD nl s.pt.nodes),.d (ptD nl s.pt.edges),B s.inj,I fm,.stk a 1 (rI N),.stk b 1 (rI E),.osl 2 (mosR out) own]
theorem Sr.row_cds {s:Sr} {nl:Bool} {fm:Nat} {N:List Int} {a:Nat} {E:List Int} {b:Nat} {out:List Mo} {own:Own} {tok:Nat→Bool} (ha:tok a=true) (hb:tok b=true):CellDs tok (s.rowF nl fm N a E b out own) (s.rowD nl fm N E out) :=
 ⟨.d,.d,.d,.d,.d,.d,.d,.d,.d,.stk ha,.stk hb,.osl,trivial⟩
def gvI (nl:Bool) (l:List Int) (i:Nat):Int:=if nl=true then -1 else l.getD i 0
theorem gvB_gvI {nl:Bool} {l:List Int} {i:Nat} (h:nl=true→∀ x∈l,x = -1) (hi:i<l.length) (k:Nat):gvB l i k=if 0≤gvI nl l i then decide (gvI nl l i=(k:Int)) else true:=by
 unfold gvB gvI;cases nl
 ·simp
 ·have:l.getD i 0 = -1:=by
   have:=h rfl _ (List.getElem_mem hi)
   simp [hi,this]
  rw [this];simp
theorem givenF_c (nl:Bool) (l:List Int) (i:Nat) (hi:i<l.length) (hl:l.length≤1000000) (tok:Tks) (nt:Nat):DCall Tryz.prog 305 [.d (ptD nl l),I i] tok nt (I (gvI nl l i)) tok nt:=by
 intro box nb;cases nl
 ·refine sI Tryz.func305 Tryz.ntmps305 fun hbox htok=>?_
  simp only [ptD,Bool.false_eq_true,if_false];repeat (first|simp [hi]|refine sR ?_)
  refine ⟨?_,fun h=>by rw [h] at hi; simp at hi⟩;try (simp [hi])
  repeat (first|(refine sR ?_; simp [hi])|(refine sC ?_; simp [hi])|(refine sX ?_; simp only [AU, ↓reduceIte]))
  refine sT (sH hbox htok ?_);simp [packA,gvI,hi]
 ·refine sI Tryz.func305 Tryz.ntmps305 fun hbox htok=>?_
  simp only [ptD,if_true];try (simp)
  repeat (first|(refine sR ?_; simp)|(refine sC ?_; simp)|(refine sX ?_; simp only [AU, ↓reduceIte]))
  refine sT (sH hbox htok ?_);simp [packA,gvI]
theorem E.dec3 (e:E) (a b c:Int):decide (e=⟨a,b,c⟩)=(decide (e.ty=a)&&(decide (e.fr=b)&&decide (e.to=c))):=by
 cases e;simp
theorem fitsF_c (s:Sr) (h:s.Ok) (nl:Bool) (hnl:s.Nl nl) (fm:Nat) (N E:List Int) (out:List Mo) (i k:Nat) (hi:i<s.p.edges.length) (hk:k<s.g.edges.length)
  (hf:(s.p.edges.getD i default).fr<N.length) (ht:(s.p.edges.getD i default).to<N.length) (tok:Tks) (nt:Nat) :
  DCall Tryz.prog 307 [.cptr (s.rowD nl fm N E out) 0,I i,I k] tok nt (B (s.fitK N i k)) tok nt:=by
 intro box nb;have hpe:=h.p.e;have hpl:i<s.pt.edges.length:=by rw [h.pe]; exact hi
 have hg:=givenF_c nl s.pt.edges i hpl (by rw [h.pe]; omega);have hgv:=gvB_gvI hnl.e hpl k;obtain ⟨x1,x2,x3,x4⟩:=h.vp _ (List.getElem_mem hi);have hgd:s.p.edges.getD i default=s.p.edges[i]:=by simp [hi]
 rw [hgd] at hf ht;have y1:s.p.edges[i].fr.toNat<N.length:=by omega
 have y2:s.p.edges[i].to.toNat<N.length:=by omega
 have hwx:wantX s.p N i=⟨s.p.edges[i].ty,N[s.p.edges[i].fr.toNat],N[s.p.edges[i].to.toNat]⟩:=by simp [wantX,hi,y1,y2]
 have hgi:s.g.edges.getD k default=s.g.edges[k]:=by simp [hk]
 obtain ⟨R,hR⟩:∃ R,s.fitK N i k=R:=⟨_,rfl⟩
 rw [hR];unfold Sr.fitK at hR;rw [hgv,hwx,hgi] at hR;generalize gvI nl s.pt.edges i=W at *;refine sI Tryz.func307 Tryz.ntmps307 fun hbox htok=>?_
 repeat (first|simp [Sr.rowD,hi]|refine sR ?_)
 refine Stop.of_d (hg _ _) ?_;simp;by_cases p01:0≤W∧W≠(k:Int)
 ·obtain ⟨p0,p1⟩:=p01;have b1:(W != (k:Int))=true:=by simp [p1]
  rw [if_pos p0,if_neg (by simp [p1])] at hR;try (simp [p0,b1])
  repeat (first|(refine sR ?_; simp [p0,b1])|(refine sC ?_; simp [p0,b1])|(refine sX ?_; simp only [AU, ↓reduceIte]))
  refine sT (sH hbox htok ?_);simp [packA,←hR]
 ·have hW:(if 0≤W then decide (W=(k:Int)) else true)=true:=by
   by_cases p0:0≤W
   ·rw [if_pos p0];by_cases p1:W=(k:Int)
    ·simp [p1]
    ·exact absurd ⟨p0,p1⟩ p01
   ·rw [if_neg p0]
  rw [if_pos hW,_root_.Go.AM.E.dec3] at hR;have hst:∀ Q,(0≤W→(W != (k:Int))=false→Q)→(¬ 0≤W→Q)→Q:=by
   intro Q h1 h2;by_cases p0:0≤W
   ·refine h1 p0 ?_;by_cases p1:W=(k:Int)
    ·simp [p1]
    ·exact absurd ⟨p0,p1⟩ p01
   ·exact h2 p0
  refine hst _ (fun p0 b1=>?_) (fun p0=>?_)
  ·try (simp [p0,b1,hk,x1,x3,y1,y2,hf,ht,Sr.rowD])
   repeat (first|(refine sR ?_; simp [p0,b1,hk,x1,x3,y1,y2,hf,ht,Sr.rowD])|(refine sC ?_; simp [p0,b1,hk,x1,x3,y1,y2,hf,ht,Sr.rowD])|(refine sX ?_; simp only [AU, ↓reduceIte]))
   refine sT (sH hbox htok ?_);simp [packA,←hR]
  ·try (simp [p0,hk,x1,x3,y1,y2,hf,ht,Sr.rowD])
   repeat (first|(refine sR ?_; simp [p0,hk,x1,x3,y1,y2,hf,ht,Sr.rowD])|(refine sC ?_; simp [p0,hk,x1,x3,y1,y2,hf,ht,Sr.rowD])|(refine sX ?_; simp only [AU, ↓reduceIte]))
   refine sT (sH hbox htok ?_);simp [packA,←hR]
def stPo1 (s:Sr) (nl:Bool) (fm:Nat) (N E:List Int) (out:List Mo) (nb:Nat) (box:Bxs) (tok:Tks) (nt:Nat) (i:Nat):AState :=
 ⟨tl [(20,I i),(19,I s.p.edges.length),(18,.d (AM.edges s.p.edges)),(3,I ((N.length:Int) - 1)),(0,.cptr (s.rowD nl fm N E out) 0)],lb nb box [],tok,nt⟩
def stPo2 (s:Sr) (nl:Bool) (fm:Nat) (N E:List Int) (out:List Mo) (nb:Nat) (box:Bxs) (tok:Tks) (nt:Nat) (i:Nat) (q:Nat):AState :=
 ⟨tl [(38,I q),(37,I s.g.edges.length),(6,B false),(5,.ptr (nb+5) 0 0),(4,I i),(20,I i),(19,I s.p.edges.length),(18,.d (AM.edges s.p.edges)),(3,I ((N.length:Int) - 1)),(0,.cptr (s.rowD nl fm N E out) 0)],
  lb nb box [(5,[[I (s.p.edges.getD i default).ty,I (s.p.edges.getD i default).fr,I (s.p.edges.getD i default).to]])],tok,nt⟩
theorem possibleF_c (s:Sr) (h:s.Ok) (nl:Bool) (hnl:s.Nl nl) (fm:Nat) (N E:List Int) (hN:N.length≤s.p.nodes.length) (out:List Mo) (tok:Tks) (nt:Nat) :
  DCall Tryz.prog 306 [.cptr (s.rowD nl fm N E out) 0] tok nt (B (s.pos N)) tok nt:=by
 intro box nb;have hpe:=h.p.e;have hpn:=h.p.n;have hge:=h.g.e;have hw0:IntKind.i64.wrap (↑N.length - 1)=(N.length:Int) - 1:=wrap_in (by omega) (by omega)
 have hfit:=fun i k hi hk hf ht=>fitsF_c s h nl hnl fm N E out i k hi hk hf ht
 obtain ⟨R,hR⟩:∃ R,s.pos N=R:=⟨_,rfl⟩
 rw [hR];refine sI Tryz.func306 Tryz.ntmps306 fun hbox htok=>?_
 repeat (first|simp [Sr.rowD,hw0]|refine sR ?_)
 refine sN ?_;refine AL.loopT (stPo1 s nl fm N E out nb box tok nt) (fun i=>i≤s.p.edges.length∧∀ j,j<i→s.posE N j=true) (fun i=>s.p.edges.length - i) 0 ⟨Nat.zero_le _,fun j hj=>absurd hj (Nat.not_lt_zero _)⟩ (Weaks.mk (Nat.le_refl _) rfl (by simp [ToL,lk,Sr.rowD]) (by simp [BoxL,lk])) ?_;rintro i S' ⟨hi,hall⟩ hS;simp only [stPo1] at hS;subst hS;have hw:=sW (i:=i) (by omega);by_cases hlt:i<s.p.edges.length
 ·have hgd:s.p.edges.getD i default=s.p.edges[i]:=by simp [hlt]
  have hfit:=fun k hk=>hfit i k hlt hk
  obtain ⟨x1,x2,x3,x4⟩:=h.vp _ (List.getElem_mem hlt);by_cases hmx:max s.p.edges[i].fr s.p.edges[i].to=(N.length:Int) - 1
  ·have b1:(max s.p.edges[i].fr s.p.edges[i].to != (N.length:Int) - 1)=false:=by simp [hmx]
   have hpe0:s.posE N i=(List.range s.g.edges.length).any (s.fitK N i):=by unfold Sr.posE; rw [hgd,if_pos hmx]
   have hfit:=fun k hk=>hfit k hk (by rw [hgd]; omega) (by rw [hgd]; omega)
   try (simp [hlt,b1,Sr.rowD])
   repeat (first|(refine sR ?_; simp [hlt,b1,Sr.rowD])|(refine sC ?_; simp [hlt,b1,Sr.rowD])|(refine sX ?_; simp only [AU, ↓reduceIte]))
   refine sN ?_;refine AL.loopT (stPo2 s nl fm N E out nb box tok nt i) (fun q=>q≤s.g.edges.length∧∀ j,j<q→s.fitK N i j=false) (fun q=>s.g.edges.length - q) 0 ⟨Nat.zero_le _,fun j hj=>absurd hj (Nat.not_lt_zero _)⟩ (Weaks.mk (Nat.le_refl _) rfl (by simp [ToL,lk,hlt,Sr.rowD]) (by simp [BoxL,lk,hlt])) ?_;rintro q S' ⟨hq0,hno⟩ hS;simp only [stPo2] at hS;subst hS;have hwq:=sW (i:=q) (by omega);by_cases hq:q<s.g.edges.length
   ·have hc:=hfit q hq;try (simp [hq])
    repeat (first|(refine sR ?_; simp [hq])|(refine sC ?_; simp [hq])|(refine sX ?_; simp only [AU, ↓reduceIte]))
    refine Stop.of_d (hc _ _) ?_;cases e:s.fitK N i q
    ·try (simp [hwq])
     repeat (first|(refine sR ?_; simp [hwq])|(refine sC ?_; simp [hwq])|(refine sX ?_; simp only [AU, ↓reduceIte]))
     refine sE ?_;exact ⟨q+1,⟨hq,fun j hj=>(Nat.lt_or_ge j q).elim (hno j) fun hh=>by rw [show j=q by omega]; exact e⟩,by omega,Weaks.mk (Nat.le_refl _) rfl (by simp [ToL,lk,hlt]) (by simp [BoxL,lk,hlt])⟩
    ·have hp:s.posE N i=true:=by
      rw [hpe0,List.any_eq_true];exact ⟨q,List.mem_range.2 hq,e⟩
     try (simp [hw])
     repeat (first|(refine sR ?_; simp [hw])|(refine sC ?_; simp [hw])|(refine sX ?_; simp only [AU, ↓reduceIte]))
     refine sE ?_;exact ⟨i+1,⟨hlt,fun j hj=>(Nat.lt_or_ge j i).elim (hall j) fun hh=>by rw [show j=i by omega]; exact hp⟩,by omega,wkA⟩
   ·have:q=s.g.edges.length:=by omega
    subst this;have hp:s.posE N i=false:=by
     rw [hpe0,List.any_eq_false];exact fun j hj=>by simp [hno j (List.mem_range.1 hj)]
    rw [Sr.pos_false hlt hp] at hR;try (simp)
    repeat (first|(refine sR ?_; simp)|(refine sC ?_; simp)|(refine sX ?_; simp only [AU, ↓reduceIte]))
    refine sT (sH hbox htok ?_);simp [packA,←hR]
  ·have b1:(max s.p.edges[i].fr s.p.edges[i].to != (N.length:Int) - 1)=true:=by simp [hmx]
   have hp:s.posE N i=true:=by unfold Sr.posE; rw [hgd,if_neg hmx]
   try (simp [hlt,b1,hw])
   repeat (first|(refine sR ?_; simp [hlt,b1,hw])|(refine sC ?_; simp [hlt,b1,hw])|(refine sX ?_; simp only [AU, ↓reduceIte]))
   refine sE ?_;exact ⟨i+1,⟨hlt,fun j hj=>(Nat.lt_or_ge j i).elim (hall j) fun hh=>by rw [show j=i by omega]; exact hp⟩,by omega,wkA⟩
 ·have:i=s.p.edges.length:=by omega
  subst this;rw [Sr.pos_true hall] at hR;try (simp)
  repeat (first|(refine sR ?_; simp)|(refine sC ?_; simp)|(refine sX ?_; simp only [AU, ↓reduceIte]))
  refine sT (sH hbox htok ?_);simp [packA,←hR]
def QFd (s:Sr) (nl:Bool) (fm:Nat) (box:Bxs) (nb k:Nat) (mtok:Tks) (nt0 nt:Nat) (N E:List Int) (R:List Mo) (v:AV) (m:AMem):Prop :=
 v=.tup []∧∃ a b own tok nt',m=⟨upd box k (some [s.rowF nl fm N a E b R own]),nb,tok,nt'⟩∧TK mtok nt0 tok nt' [.tok a,.tok b,own]∧nt≤nt'
theorem outFd {s:Sr} {nl:Bool} {fm:Nat} {N E:List Int} {a b:Nat} {out:List Mo} {own:Own} {box:Bxs} {k base:Nat} {p q:Nat→Prop} (hq:q=fun _=>True):∀ k' rows,k'<base→(upd box k (some [s.rowF nl fm N a E b out own])) k'=some rows→box k'=some rows∨∀ r∈rows,∀ x∈r,OkIn p q x:=by
 subst hq;intro k' rows hk' hr;by_cases e:k'=k
 ·subst e;rw [upd_same] at hr;cases hr;exact .inr (by simp)
 ·rw [upd_other _ _ e] at hr;exact .inl hr
theorem flat_ints {c:Addr→Option Value} {ps:Addr→Prop} {xs:List Int} {vs:List Value} (h:FlatV c ps 1 (rI xs) vs):∀ j,j<xs.length→vs[j]?=some (.int .i64 (xs.getD j 0)):=by
 intro j hj;have hj':j<(rI xs).length:=by simpa using hj
 obtain ⟨u,h1,h2⟩:=h.read j 0 hj' (by simp);rw [Nat.mul_one,Nat.add_zero] at h1;have e:(rI xs)[j][0]'(by simp)=D.raw (.int .i64 xs[j]):=by simp
 rw [e] at h2;cases h2;rw [h1];simp [hj]
theorem cloneS_c (xs:List Int) (hx:xs.length≤1000000) (t:Nat) (tok:Tks) (nt:Nat) (ht:tok t=true):DCall Tryz.prog 126 [.stk t 1 (rI xs)] tok nt (.d (ints xs)) tok nt:=by
 intro box nb;refine ⟨Enters.mk Tryz.func126 rfl (by kernel_rfl),fun G w vals hm hr=>?_⟩;obtain ⟨hlen,hrv⟩:=hr
 match vals,hlen with
 | [v],_ =>
  have h0:=hrv 0 (by simp) (by simp);simp only [List.getElem_cons_zero] at h0;cases h0 with|stk h0 =>
  obtain ⟨h1,A,cap,rfl,hcap,hmax,h2⟩:=h0;obtain ⟨_,x,hx2⟩:=hm.toks t ht;have h3:=h2 x hx2;have hl:(rI xs).length=xs.length:=by simp
  rw [hl] at hcap ⊢;cases A with
  | none =>
   have he:xs=[]:=by
    cases x with
    | none=>exact List.length_eq_zero_iff.1 (by simp only at h3; omega)
    | some g=>cases h3.1
   subst he;refine (Tryz.slices_Clone_int_nil _ cap w).mono ?_;rintro e w' ⟨rfl,rfl⟩;exact ⟨_,_,_,G,rfl,⟨rfl,rfl⟩,rfl,hm,.d (.sl (es:=[]) (fun _ _=>default) (Nat.le_refl _) (by decide) (by simp) (by simp) (by simp) (by simp)),Le.refl _ _,fun k hk=>⟨hk,rfl⟩⟩
  | some a =>
   by_cases e:xs=[]
   ·subst e;refine (Tryz.slices_Clone_int_zero a cap w).mono ?_;rintro e w' ⟨v,rfl,hown,hnn,hb⟩;exact ⟨v,_,_,G,rfl,⟨rfl,rfl⟩,rfl,relM_below hm hb,.d (rvd_owns hm hown),le_below hm hb,fun k hk=>⟨hk,rfl⟩⟩
   ·have hne:xs.length≠0:=fun h=>e (List.length_eq_zero_iff.1 h)
    cases x with
    | none=>simp only at h3; omega
    | some g =>
     obtain ⟨hA,vs,sp,et,hg,hh,hln,hfl,_⟩:=h3;cases hA;have hc:∀ j,j<xs.length→w.cell? ⟨g,0+j,none⟩=some (.int .i64 (xs.getD j 0)):=by
      intro j hj;have:=flat_ints hfl j hj
      rw [Nat.zero_add,cell_of_row w g _ _ et (0,0) hh];have hj2:j<vs.length:=by rw [hfl.len]; simpa using hj
      simp only [List.getElem?_toArray,List.getElem?_append_left hj2];exact this
     have:=Tryz.slices_Clone_int g 0 xs.length cap xs w (Nat.le_refl _) (by omega) hc
     rw [List.take_length] at this;refine this.mono ?_;rintro e w' ⟨v,rfl,hown,hnn,hb⟩;exact ⟨v,_,_,G,rfl,⟨rfl,rfl⟩,rfl,relM_below hm hb,.d (rvd_owns hm hown),le_below hm hb,fun k hk=>⟨hk,rfl⟩⟩
structure AccK where
 i:Nat
 out:List Mo
 a:Nat
 b:Nat
 own:Own
 tok:Nat→Bool
 nt:Nat
def Sr.stEp (s:Sr) (fm:Nat) (N E:List Int) (n:Nat) (out:List Mo) (k:Nat):List Mo:=if s.okE N E k=true then fndE fm (s.okE N) s.g.edges.length N n (E++[(k:Int)]) out else out
def stFdE (s:Sr) (nl:Bool) (fm:Nat) (N E:List Int) (nb k:Nat) (box:Bxs) (x:AccK):AState :=
 ⟨tl [(164,I x.i),(163,I s.g.edges.length),(162,.d (AM.edges s.g.edges)),(6,I E.length),(0,.ptr k 0 0)],lb nb (upd box k (some [s.rowF nl fm N x.a E x.b x.out x.own])) [],x.tok,x.nt⟩
theorem rI_cut (E:List Int) (v:Int):List.take E.length (rI (E++[v]))=rI E:=by
 unfold rI;rw [List.map_append,List.take_append_of_le_length (by simp),List.take_of_length_le (by simp)]
set_option maxRecDepth 100000 in
theorem findE_c (s:Sr) (h:s.Ok) (nl:Bool) (hnl:s.Nl nl) (fm:Nat) (hfm:fm≤1000000) (N:List Int) (hN:N.length=s.p.nodes.length) (mtok:Tks) (nt0:Nat):∀ (n:Nat) (E:List Int) (out:List Mo) (a b:Nat) (own:Own) (box:Bxs) (nb k:Nat) (tok:Tks) (nt:Nat),E.length+n=s.p.edges.length→out.length≤fm →
  box k=some [s.rowF nl fm N a E b out own]→TK mtok nt0 tok nt [.tok a,.tok b,own]→ACalls Tryz.prog 286 [.ptr k 0 0] ⟨box,nb,tok,nt⟩ (QFd s nl fm box nb k mtok nt0 nt N E (fndE fm (s.okE N) s.g.edges.length N n E out)):=by
 have hpn:=h.p.n;have hpe:=h.p.e;have hgn:=h.g.n;have hge:=h.g.e;intro n;induction n with
 | zero =>
  intro E out a b own box nb k tok nt hE ho hk htk;have hself:box=upd box k (some [s.rowF nl fm N a E b out own]):=(upd_self box k _ hk).symm
  refine sI Tryz.func286 Tryz.ntmps286 fun hbox htok=>?_
  have hkn:=key_lt hbox hk;have hEl:E.length=s.p.edges.length:=by omega
  repeat (first|simp [lb_out hkn,hk]|refine sR ?_)
  by_cases hbig:out.length=fm
  ·have b1:((out.length:Int)==(fm:Int))=true:=by simp [hbig]
   try (simp [lb_out hkn,hk,b1])
   repeat (first|(refine sR ?_; simp [lb_out hkn,hk,b1])|(refine sC ?_; simp [lb_out hkn,hk,b1])|(refine sX ?_; simp only [AU, ↓reduceIte]))
   refine sN ?_;refine sE ?_;refine ⟨by simp,(Fin.own (vs:=[]) (av:=.tup []) (by simp [resAs,resA]) hbox rfl (Nat.le_refl _) (by simp [packA])).mono fun v m hq=>⟨hq.1,a,b,own,tok,nt,?_,htk,Nat.le_refl _⟩⟩;rw [hq.2,fndE,if_pos hbig,←hself]
  ·have b1:((out.length:Int)==(fm:Int))=false:=by simp; omega
   have hta:tok a=true:=htk.live
   have htb:tok b=true:=htk.swap.live
   try (simp [lb_out hkn,hk,b1,hN,hEl])
   repeat (first|(refine sR ?_; simp [lb_out hkn,hk,b1,hN,hEl])|(refine sC ?_; simp [lb_out hkn,hk,b1,hN,hEl])|(refine sX ?_; simp only [AU, ↓reduceIte]))
   refine Stop.of_d (cloneS_c N (by omega) a _ _ hta) ?_;simp [lb_out hkn,hk];refine Stop.of_d (cloneS_c E (by omega) b _ _ htb) ?_;simp [lb_out hkn,hk];refine ⟨⟨by omega,htk.pick3.live⟩,?_⟩;simp only [upd_lb_out hkn];refine sN ?_;refine sE ?_;have htk2:=htk.pick3.app.put3;refine ⟨by simp,(Fin.gen (vs:=[]) (av:=.tup []) (tok':=upd (own.kill tok) nt true) (nt':=nt+1) (by simp [resAs,resA]) ?_ (by omega) (Nat.le_refl _) (fun t h=>⟨h,.inl rfl⟩) ?_ (by simp [packA])).mono fun v m hq=>⟨hq.1,a,b,.tok nt,_,nt+1,?_,htk2,by omega⟩⟩
   ·rw [←upd_lb_out hkn,hbox]
   ·intro k' rows hk' hr;by_cases e:k'=k
    ·subst e;rw [upd_same] at hr;cases hr;exact .inr (by simp)
    ·rw [upd_other _ _ e] at hr;exact .inl hr
   ·rw [hq.2,fndE,if_neg hbig];simp [Sr.rowF]
 | succ n ih =>
  intro E out a b own box nb k tok nt hE ho hk htk;have hself:box=upd box k (some [s.rowF nl fm N a E b out own]):=(upd_self box k _ hk).symm
  have hlt:E.length<s.p.edges.length:=by omega
  refine sI Tryz.func286 Tryz.ntmps286 fun hbox htok=>?_
  have hkn:=key_lt hbox hk;repeat (first|simp [lb_out hkn,hk]|refine sR ?_)
  by_cases hbig:out.length=fm
  ·have b1:((out.length:Int)==(fm:Int))=true:=by simp [hbig]
   try (simp [lb_out hkn,hk,b1])
   repeat (first|(refine sR ?_; simp [lb_out hkn,hk,b1])|(refine sC ?_; simp [lb_out hkn,hk,b1])|(refine sX ?_; simp only [AU, ↓reduceIte]))
   refine sN ?_;refine sE ?_;refine ⟨by simp,(Fin.own (vs:=[]) (av:=.tup []) (by simp [resAs,resA]) hbox rfl (Nat.le_refl _) (by simp [packA])).mono fun v m hq=>⟨hq.1,a,b,own,tok,nt,?_,htk,Nat.le_refl _⟩⟩;rw [hq.2,fndE,if_pos hbig,←hself]
  ·have b1:((out.length:Int)==(fm:Int))=false:=by simp; omega
   try (simp [lb_out hkn,hk,b1,hN,hlt])
   repeat (first|(refine sR ?_; simp [lb_out hkn,hk,b1,hN,hlt])|(refine sC ?_; simp [lb_out hkn,hk,b1,hN,hlt])|(refine sX ?_; simp only [AU, ↓reduceIte]))
   refine sN ?_;have hlb:∀ loc,lb nb box loc=lb nb (upd box k (some [s.rowF nl fm N a E b out own])) loc:=fun loc=>by rw [←hself]
   rw [hlb];refine AL.loopT (stFdE s nl fm N E nb k box) (fun x=>x.i≤s.g.edges.length∧x.out=(List.range x.i).foldl (s.stEp fm N E n) out∧x.out.length≤fm∧TK mtok nt0 x.tok x.nt [.tok x.a,.tok x.b,x.own]∧nt≤x.nt) (fun x=>s.g.edges.length - x.i)
    ⟨0,out,a,b,own,tok,nt⟩ ⟨Nat.zero_le _,rfl,ho,htk,Nat.le_refl _⟩ (Weaks.mk' (Nat.le_refl _) (by simp [ToL,lk]; exact to_ptr (by rw [lb_out hkn,upd_same]; simp)) (by simp [BoxL,lk]) (outFd rfl)) ?_
   rintro ⟨i,out2,a2,b2,own2,tok2,nt2⟩ S ⟨hi,hout,ho2,htk2,hnt2⟩ hS;simp only [stFdE] at hS hi hout ho2 htk2 hnt2;subst hS;have hw:IntKind.i64.wrap (↑i+1)=((i+1:Nat):Int):=by rw [wrap_in (by omega) (by omega)]; omega
   have hfold:(List.range (i+1)).foldl (s.stEp fm N E n) out=s.stEp fm N E n out2 i:=by
    rw [hout,List.range_succ,List.foldl_append]; rfl
   have hta:tok2 a2=true:=htk2.live
   have htb:tok2 b2=true:=htk2.swap.live
   by_cases hli:i<s.g.edges.length
   ·obtain ⟨x1,x2,x3,x4⟩:=h.vp _ (List.getElem_mem hlt);have hgd:s.p.edges.getD E.length default=s.p.edges[E.length]:=by simp [hlt]
    have hfit:=fitsF_c s h nl hnl fm N E out2 E.length i hlt hli (by rw [hgd]; omega) (by rw [hgd]; omega);have hoke:=s.okE_eq N E i;try (simp [lb_out hkn,upd_same,hli])
    repeat (first|(refine sR ?_; simp [lb_out hkn,upd_same,hli])|(refine sC ?_; simp [lb_out hkn,upd_same,hli])|(refine sX ?_; simp only [AU, ↓reduceIte]))
    refine Stop.of_r (RCall.lends rfl (fun tok=>hfit tok nt2) ⟨.ptr (by simp only [lb_out hkn,upd_same]) (Sr.row_cds (own:=own2) hta htb),.same (by simp),.same (by simp),trivial⟩) ?_;cases e1:s.fitK N E.length i
    ·have hok:s.okE N E i=false:=by rw [hoke,e1]; rfl
     try (simp [lb_out hkn,upd_same,hw])
     repeat (first|(refine sR ?_; simp [lb_out hkn,upd_same,hw])|(refine sC ?_; simp [lb_out hkn,upd_same,hw])|(refine sX ?_; simp only [AU, ↓reduceIte]))
     refine sE ?_;exact ⟨⟨i+1,out2,a2,b2,own2,tok2,nt2⟩,⟨hli,by rw [hfold,Sr.stEp,hok]; simp,ho2,htk2,hnt2⟩,by simp only; omega,Weaks.mk' (by have:=htk2.le; omega) (by simp [ToL,lk]; exact to_ptr (by rw [lb_out hkn,upd_same]; simp)) (by simp [BoxL,lk]) (outFd rfl)⟩
    ·have hoke:s.okE N E i=!usB s.inj E i:=by rw [hoke,e1]; simp
     have skip:∀ Q:Prop,(s.inj=true→decide ((i:Int)∈E)=true→Q)→(s.inj=true→decide ((i:Int)∈E)=false→Q)→(s.inj=false→Q)→Q:=by
      intro Q h1 h2 h3;cases ei:s.inj
      ·exact h3 ei
      ·cases ed:decide ((i:Int)∈E)
       ·exact h2 ei ed
       ·exact h1 ei ed
     refine skip _ (fun ei ed=>?_) (fun ei ed=>?_) (fun ei=>?_)
     ·have hok:s.okE N E i=false:=by rw [hoke,usB,if_pos ei,ed]; rfl
      simp [lb_out hkn,upd_same,ei];refine Stop.of_r (RCall.lends rfl (fun tok=>contains_c E i (by omega) tok nt2) ⟨.stk htb,.same (by simp),trivial⟩) ?_;rw [ed];try (simp [hw])
      repeat (first|(refine sR ?_; simp [hw])|(refine sC ?_; simp [hw])|(refine sX ?_; simp only [AU, ↓reduceIte]))
      refine sE ?_;exact ⟨⟨i+1,out2,a2,b2,own2,tok2,nt2⟩,⟨hli,by rw [hfold,Sr.stEp,hok]; simp,ho2,htk2,hnt2⟩,by simp only; omega,Weaks.mk' (by have:=htk2.le; omega) (by simp [ToL,lk]; exact to_ptr (by rw [lb_out hkn,upd_same]; simp)) (by simp [BoxL,lk]) (outFd rfl)⟩
     ·have hok:s.okE N E i=true:=by rw [hoke,usB,if_pos ei,ed]; rfl
      simp [lb_out hkn,upd_same,ei];refine Stop.of_r (RCall.lends rfl (fun tok=>contains_c E i (by omega) tok nt2) ⟨.stk htb,.same (by simp),trivial⟩) ?_;rw [ed];try (simp [lb_out hkn,upd_same])
      repeat (first|(refine sR ?_; simp [lb_out hkn,upd_same])|(refine sC ?_; simp [lb_out hkn,upd_same])|(refine sX ?_; simp only [AU, ↓reduceIte]))
      refine ⟨⟨by omega,htb⟩,?_⟩;have htk3:=htk2.swap.app.swap;simp only [upd_lb_out hkn,upd_upd];try (simp [lb_out hkn,upd_same])
      repeat (first|(refine sR ?_; simp [lb_out hkn,upd_same])|(refine sC ?_; simp [lb_out hkn,upd_same])|(refine sX ?_; simp only [AU, ↓reduceIte]))
      refine Stop.of_a (ih (E++[(i:Int)]) out2 a2 nt2 own2 _ _ k _ _ (by simp; omega) ho2 (by simp [lb_out hkn,upd_same]) htk3) ?_;rintro v m' ⟨rfl,a3,b3,own3,tok3,nt3,rfl,htk4,hle4⟩;have hle4:nt2+1≤nt3:=hle4
      have hle5:nt≤nt3:=by omega
      simp [upd_lb_out hkn,upd_upd];try (simp [lb_out hkn,upd_same,rI_cut,hw])
      repeat (first|(refine sR ?_; simp [lb_out hkn,upd_same,rI_cut,hw])|(refine sC ?_; simp [lb_out hkn,upd_same,rI_cut,hw])|(refine sX ?_; simp only [AU, ↓reduceIte]))
      simp only [upd_lb_out hkn,upd_upd];refine sE ?_;exact ⟨⟨i+1,fndE fm (s.okE N) s.g.edges.length N n (E++[(i:Int)]) out2,a3,b3,own3,tok3,nt3⟩,⟨hli,by rw [hfold,Sr.stEp,hok]; simp,fndE_len ho2,htk4,by omega⟩,by simp only; omega,Weaks.mk' hle5 (by simp [ToL,lk]; exact to_ptr (by rw [lb_out hkn,upd_same]; simp)) (by simp [BoxL,lk]) (outFd rfl)⟩
     ·have hok:s.okE N E i=true:=by rw [hoke,usB,if_neg (by simp [ei])]; rfl
      simp [lb_out hkn,upd_same,ei];try (simp [lb_out hkn,upd_same])
      repeat (first|(refine sR ?_; simp [lb_out hkn,upd_same])|(refine sC ?_; simp [lb_out hkn,upd_same])|(refine sX ?_; simp only [AU, ↓reduceIte]))
      refine ⟨⟨by omega,htb⟩,?_⟩;have htk3:=htk2.swap.app.swap;simp only [upd_lb_out hkn,upd_upd];try (simp [lb_out hkn,upd_same])
      repeat (first|(refine sR ?_; simp [lb_out hkn,upd_same])|(refine sC ?_; simp [lb_out hkn,upd_same])|(refine sX ?_; simp only [AU, ↓reduceIte]))
      refine Stop.of_a (ih (E++[(i:Int)]) out2 a2 nt2 own2 _ _ k _ _ (by simp; omega) ho2 (by simp [lb_out hkn,upd_same]) htk3) ?_;rintro v m' ⟨rfl,a3,b3,own3,tok3,nt3,rfl,htk4,hle4⟩;have hle4:nt2+1≤nt3:=hle4
      have hle5:nt≤nt3:=by omega
      simp [upd_lb_out hkn,upd_upd];try (simp [lb_out hkn,upd_same,rI_cut,hw])
      repeat (first|(refine sR ?_; simp [lb_out hkn,upd_same,rI_cut,hw])|(refine sC ?_; simp [lb_out hkn,upd_same,rI_cut,hw])|(refine sX ?_; simp only [AU, ↓reduceIte]))
      simp only [upd_lb_out hkn,upd_upd];refine sE ?_;exact ⟨⟨i+1,fndE fm (s.okE N) s.g.edges.length N n (E++[(i:Int)]) out2,a3,b3,own3,tok3,nt3⟩,⟨hli,by rw [hfold,Sr.stEp,hok]; simp,fndE_len ho2,htk4,by omega⟩,by simp only; omega,Weaks.mk' hle5 (by simp [ToL,lk]; exact to_ptr (by rw [lb_out hkn,upd_same]; simp)) (by simp [BoxL,lk]) (outFd rfl)⟩
   ·have:i=s.g.edges.length:=by omega
    subst this;try (simp [lb_out hkn,upd_same])
    repeat (first|(refine sR ?_; simp [lb_out hkn,upd_same])|(refine sC ?_; simp [lb_out hkn,upd_same])|(refine sX ?_; simp only [AU, ↓reduceIte]))
    refine sN ?_;refine sE ?_;refine ⟨by simp,(Fin.gen (vs:=[]) (av:=.tup []) (tok':=tok2) (nt':=nt2) (by simp [resAs,resA]) ?_ hnt2 (Nat.le_refl _) (fun t h=>⟨h,.inl rfl⟩) (outFd (by simp)) (by simp [packA])).mono fun v m hq=>⟨hq.1,a2,b2,own2,tok2,nt2,?_,htk2,hnt2⟩⟩
    ·rw [←upd_lb_out hkn,hbox]
    ·rw [hq.2,fndE,if_neg hbig,hout]; rfl
def Sr.stNp (s:Sr) (fm:Nat) (N:List Int) (r:Nat) (out:List Mo) (k:Nat):List Mo :=
 if s.okN N k=true then (if s.pos (N++[(k:Int)])=true then s.fnP fm r (N++[(k:Int)]) out else out) else out
def stFdN (s:Sr) (nl:Bool) (fm:Nat) (N:List Int) (nb k:Nat) (box:Bxs) (x:AccK):AState :=
 ⟨tl [(63,I x.i),(62,I s.g.nodes.length),(61,.d (ints s.g.nodes)),(2,I N.length),(0,.ptr k 0 0)],lb nb (upd box k (some [s.rowF nl fm N x.a [] x.b x.out x.own])) [],x.tok,x.nt⟩
theorem isD_row {t:Ty} {a:Nat} (h:a<t.nodes.length):(isTb t)[a]'(by simp [isTb]; exact h)=isRow t a:=by simp [isTb]
set_option maxRecDepth 100000 in
theorem findN_c (s:Sr) (h:s.Ok) (nl:Bool) (hnl:s.Nl nl) (fm:Nat) (hfm:fm≤1000000) (mtok:Tks) (nt0:Nat):∀ (r:Nat) (N:List Int) (out:List Mo) (a b:Nat) (own:Own) (box:Bxs) (nb k:Nat) (tok:Tks) (nt:Nat),N.length+r=s.p.nodes.length→out.length≤fm →
  box k=some [s.rowF nl fm N a [] b out own]→TK mtok nt0 tok nt [.tok a,.tok b,own]→ACalls Tryz.prog 286 [.ptr k 0 0] ⟨box,nb,tok,nt⟩ (QFd s nl fm box nb k mtok nt0 nt N [] (s.fnP fm r N out)):=by
 have hpn:=h.p.n;have hpe:=h.p.e;have hgn:=h.g.n;have hge:=h.g.e;have htn:=h.t.n;intro r;induction r with
 | zero =>
  intro N out a b own box nb k tok nt hN ho hk htk;exact findE_c s h nl hnl fm hfm N (by omega) mtok nt0 s.p.edges.length [] out a b own box nb k tok nt (by simp) ho hk htk
 | succ r ih =>
  intro N out a b own box nb k tok nt hN ho hk htk;have hself:box=upd box k (some [s.rowF nl fm N a [] b out own]):=(upd_self box k _ hk).symm
  have hlt:N.length<s.p.nodes.length:=by omega
  refine sI Tryz.func286 Tryz.ntmps286 fun hbox htok=>?_
  have hkn:=key_lt hbox hk;repeat (first|simp [lb_out hkn,hk]|refine sR ?_)
  by_cases hbig:out.length=fm
  ·have b1:((out.length:Int)==(fm:Int))=true:=by simp [hbig]
   try (simp [lb_out hkn,hk,b1])
   repeat (first|(refine sR ?_; simp [lb_out hkn,hk,b1])|(refine sC ?_; simp [lb_out hkn,hk,b1])|(refine sX ?_; simp only [AU, ↓reduceIte]))
   refine sN ?_;refine sE ?_;refine ⟨by simp,(Fin.own (vs:=[]) (av:=.tup []) (by simp [resAs,resA]) hbox rfl (Nat.le_refl _) (by simp [packA])).mono fun v m hq=>⟨hq.1,a,b,own,tok,nt,?_,htk,Nat.le_refl _⟩⟩;rw [hq.2,Sr.fnP,fndN,if_pos hbig,←hself]
  ·have b1:((out.length:Int)==(fm:Int))=false:=by simp; omega
   try (simp [lb_out hkn,hk,b1,hlt])
   repeat (first|(refine sR ?_; simp [lb_out hkn,hk,b1,hlt])|(refine sC ?_; simp [lb_out hkn,hk,b1,hlt])|(refine sX ?_; simp only [AU, ↓reduceIte]))
   refine sN ?_;have hlb:∀ loc,lb nb box loc=lb nb (upd box k (some [s.rowF nl fm N a [] b out own])) loc:=fun loc=>by rw [←hself]
   rw [hlb];refine AL.loopT (stFdN s nl fm N nb k box) (fun x=>x.i≤s.g.nodes.length∧x.out=(List.range x.i).foldl (s.stNp fm N r) out∧x.out.length≤fm∧TK mtok nt0 x.tok x.nt [.tok x.a,.tok x.b,x.own]∧nt≤x.nt) (fun x=>s.g.nodes.length - x.i)
    ⟨0,out,a,b,own,tok,nt⟩ ⟨Nat.zero_le _,rfl,ho,htk,Nat.le_refl _⟩ (Weaks.mk' (Nat.le_refl _) (by simp [ToL,lk]; exact to_ptr (by rw [lb_out hkn,upd_same]; simp)) (by simp [BoxL,lk]) (outFd rfl)) ?_
   rintro ⟨i,out2,a2,b2,own2,tok2,nt2⟩ S ⟨hi,hout,ho2,htk2,hnt2⟩ hS;simp only [stFdN] at hS hi hout ho2 htk2 hnt2;subst hS;have hw:IntKind.i64.wrap (↑i+1)=((i+1:Nat):Int):=by rw [wrap_in (by omega) (by omega)]; omega
   have hfold:(List.range (i+1)).foldl (s.stNp fm N r) out=s.stNp fm N r out2 i:=by
    rw [hout,List.range_succ,List.foldl_append]; rfl
   have hta:tok2 a2=true:=htk2.live
   have htb:tok2 b2=true:=htk2.swap.live
   by_cases hli:i<s.g.nodes.length
   ·have hlp:N.length<s.pt.nodes.length:=by rw [h.pn]; exact hlt
    have hgv:=gvB_gvI hnl.n hlp i;have hgiv:=givenF_c nl s.pt.nodes N.length hlp (by rw [h.pn]; omega);obtain ⟨z1,z2⟩:=h.np _ (List.getElem_mem hlt);obtain ⟨z3,z4⟩:=h.ng _ (List.getElem_mem hli);have hgi:s.g.nodes.getD i 0=s.g.nodes[i]:=by simp [hli]
    have hpn2:s.p.nodes.getD N.length 0=s.p.nodes[N.length]:=by simp [hlt]
    obtain ⟨q,hq⟩:=Int.eq_ofNat_of_zero_le z1;obtain ⟨u,hu⟩:=Int.eq_ofNat_of_zero_le z3;have hq2:q<s.t.nodes.length:=by omega
    have hu2:u<s.t.nodes.length:=by omega
    have hokN:s.okN N i=if (if 0≤gvI nl s.pt.nodes N.length then decide (gvI nl s.pt.nodes N.length=(i:Int)) else true)=true then (if usB s.inj N i=true then false else isB s.t (u:Int) (q:Int)) else false:=by
     unfold Sr.okN;rw [hgv,hgi,hpn2,hq,hu]
    generalize gvI nl s.pt.nodes N.length=W at *;have hisD:D.sl 1 (List.map (fun r=>[blB r]) (isTb s.t))=isD s.t:=rfl
    have hlt1:(isTb s.t).length=s.t.nodes.length:=by simp [isTb]
    have hlt2:(isRow s.t q).length=s.t.nodes.length:=by simp [isRow]
    have hrow:(isTb s.t)[q]'(by rw [hlt1]; exact hq2)=isRow s.t q:=isD_row hq2
    have hcol:(isRow s.t q)[u]'(by rw [hlt2]; exact hu2)=isB s.t (u:Int) (q:Int):=by simp [isRow]
    try (simp [lb_out hkn,upd_same,hli])
    repeat (first|(refine sR ?_; simp [lb_out hkn,upd_same,hli])|(refine sC ?_; simp [lb_out hkn,upd_same,hli])|(refine sX ?_; simp only [AU, ↓reduceIte]))
    refine Stop.of_d (hgiv _ _) ?_;simp;by_cases p01:0≤W∧W≠(i:Int)
    ·obtain ⟨p0,p1⟩:=p01;have bw:(W != (i:Int))=true:=by simp [p1]
     have hok:s.okN N i=false:=by rw [hokN,if_pos p0]; simp [p1]
     try (simp [lb_out hkn,upd_same,p0,bw,hw])
     repeat (first|(refine sR ?_; simp [lb_out hkn,upd_same,p0,bw,hw])|(refine sC ?_; simp [lb_out hkn,upd_same,p0,bw,hw])|(refine sX ?_; simp only [AU, ↓reduceIte]))
     refine sE ?_;exact ⟨⟨i+1,out2,a2,b2,own2,tok2,nt2⟩,⟨hli,by rw [hfold,Sr.stNp,hok]; simp,ho2,htk2,hnt2⟩,by simp only; omega,Weaks.mk' (by have:=htk2.le; omega) (by simp [ToL,lk]; exact to_ptr (by rw [lb_out hkn,upd_same]; simp)) (by simp [BoxL,lk]) (outFd rfl)⟩
    ·have hW:(if 0≤W then decide (W=(i:Int)) else true)=true:=by
      by_cases p0:0≤W
      ·rw [if_pos p0];by_cases p1:W=(i:Int)
       ·simp [p1]
       ·exact absurd ⟨p0,p1⟩ p01
      ·rw [if_neg p0]
     rw [if_pos hW] at hokN;have hst:∀ Q,(0≤W→(W != (i:Int))=false→Q)→(¬ 0≤W→Q)→Q:=by
      intro Q h1 h2;by_cases p0:0≤W
      ·refine h1 p0 ?_;by_cases p1:W=(i:Int)
       ·simp [p1]
       ·exact absurd ⟨p0,p1⟩ p01
      ·exact h2 p0
     have skip:∀ Q:Prop,(s.inj=true→decide ((i:Int)∈N)=true→Q)→(s.inj=true→decide ((i:Int)∈N)=false→Q)→(s.inj=false→Q)→Q:=by
      intro Q h1 h2 h3;cases ei:s.inj
      ·exact h3 ei
      ·cases ed:decide ((i:Int)∈N)
       ·exact h2 ei ed
       ·exact h1 ei ed
     refine hst _ (fun p0 bw=>?_) (fun p0=>?_)
     ·cases hB:isB s.t (u:Int) (q:Int)
      ·have hok:s.okN N i=false:=by rw [hokN,hB]; simp
       try (simp [lb_out hkn,upd_same,p0,bw,hw,hlt,hq,hu,hq2,hu2,isD,hlt1,hlt2,hrow,hcol,hB])
       repeat (first|(refine sR ?_; simp [lb_out hkn,upd_same,p0,bw,hw,hlt,hq,hu,hq2,hu2,isD,hlt1,hlt2,hrow,hcol,hB])|(refine sC ?_; simp [lb_out hkn,upd_same,p0,bw,hw,hlt,hq,hu,hq2,hu2,isD,hlt1,hlt2,hrow,hcol,hB])|(refine sX ?_; simp only [AU, ↓reduceIte]))
       refine sE ?_;exact ⟨⟨i+1,out2,a2,b2,own2,tok2,nt2⟩,⟨hli,by rw [hfold,Sr.stNp,hok]; simp,ho2,htk2,hnt2⟩,by simp only; omega,Weaks.mk' (by have:=htk2.le; omega) (by simp [ToL,lk]; exact to_ptr (by rw [lb_out hkn,upd_same]; simp)) (by simp [BoxL,lk]) (outFd rfl)⟩
      ·rw [hB] at hokN;refine skip _ (fun ei ed=>?_) (fun ei ed=>?_) (fun ei=>?_)
       ·have hok:s.okN N i=false:=by rw [hokN,usB,if_pos ei,ed]; rfl
        try (simp [lb_out hkn,upd_same,p0,bw,hw,hlt,hq,hu,hq2,hu2,isD,hlt1,hlt2,hrow,hcol,hB,ei])
        repeat (first|(refine sR ?_; simp [lb_out hkn,upd_same,p0,bw,hw,hlt,hq,hu,hq2,hu2,isD,hlt1,hlt2,hrow,hcol,hB,ei])|(refine sC ?_; simp [lb_out hkn,upd_same,p0,bw,hw,hlt,hq,hu,hq2,hu2,isD,hlt1,hlt2,hrow,hcol,hB,ei])|(refine sX ?_; simp only [AU, ↓reduceIte]))
        refine Stop.of_r (RCall.lends rfl (fun tok=>contains_c N i (by omega) tok nt2) ⟨.stk hta,.same (by simp),trivial⟩) ?_;rw [ed];try (simp [hw])
        repeat (first|(refine sR ?_; simp [hw])|(refine sC ?_; simp [hw])|(refine sX ?_; simp only [AU, ↓reduceIte]))
        refine sE ?_;exact ⟨⟨i+1,out2,a2,b2,own2,tok2,nt2⟩,⟨hli,by rw [hfold,Sr.stNp,hok]; simp,ho2,htk2,hnt2⟩,by simp only; omega,Weaks.mk' (by have:=htk2.le; omega) (by simp [ToL,lk]; exact to_ptr (by rw [lb_out hkn,upd_same]; simp)) (by simp [BoxL,lk]) (outFd rfl)⟩
       ·have hok:s.okN N i=true:=by rw [hokN,usB,if_pos ei,ed]; rfl
        try (simp [lb_out hkn,upd_same,p0,bw,hw,hlt,hq,hu,hq2,hu2,isD,hlt1,hlt2,hrow,hcol,hB,ei])
        repeat (first|(refine sR ?_; simp [lb_out hkn,upd_same,p0,bw,hw,hlt,hq,hu,hq2,hu2,isD,hlt1,hlt2,hrow,hcol,hB,ei])|(refine sC ?_; simp [lb_out hkn,upd_same,p0,bw,hw,hlt,hq,hu,hq2,hu2,isD,hlt1,hlt2,hrow,hcol,hB,ei])|(refine sX ?_; simp only [AU, ↓reduceIte]))
        refine Stop.of_r (RCall.lends rfl (fun tok=>contains_c N i (by omega) tok nt2) ⟨.stk hta,.same (by simp),trivial⟩) ?_;rw [ed];try (simp [lb_out hkn,upd_same])
        repeat (first|(refine sR ?_; simp [lb_out hkn,upd_same])|(refine sC ?_; simp [lb_out hkn,upd_same])|(refine sX ?_; simp only [AU, ↓reduceIte]))
        refine ⟨⟨by omega,hta⟩,?_⟩;have htk3:=htk2.app;simp only [upd_lb_out hkn,upd_upd];have hta3:(upd (upd tok2 a2 false) nt2 true) nt2=true:=upd_same _ _ _
        have htb3:(upd (upd tok2 a2 false) nt2 true) b2=true:=htk3.swap.live
        have hpos:=possibleF_c s h nl hnl fm (N++[(i:Int)]) [] (by simp; omega) out2;try (simp [lb_out hkn,upd_same])
        repeat (first|(refine sR ?_; simp [lb_out hkn,upd_same])|(refine sC ?_; simp [lb_out hkn,upd_same])|(refine sX ?_; simp only [AU, ↓reduceIte]))
        refine Stop.of_r (RCall.lends rfl (fun tok=>hpos tok (nt2+1)) ⟨.ptr (row:=s.rowF nl fm (N++[(i:Int)]) nt2 [] b2 out2 own2) (by simp [lb_out hkn,upd_same]) (Sr.row_cds (own:=own2) hta3 htb3),trivial⟩) ?_;cases hP:s.pos (N++[(i:Int)])
        ·try (simp [lb_out hkn,upd_same,rI_cut,hw])
         repeat (first|(refine sR ?_; simp [lb_out hkn,upd_same,rI_cut,hw])|(refine sC ?_; simp [lb_out hkn,upd_same,rI_cut,hw])|(refine sX ?_; simp only [AU, ↓reduceIte]))
         simp only [upd_lb_out hkn,upd_upd];refine sE ?_;exact ⟨⟨i+1,out2,nt2,b2,own2,_,nt2+1⟩,⟨hli,by rw [hfold,Sr.stNp,hok,hP]; simp,ho2,htk3,Nat.le_succ_of_le hnt2⟩,by simp only; omega,Weaks.mk' (Nat.le_succ_of_le hnt2) (by simp [ToL,lk]; exact to_ptr (by rw [lb_out hkn,upd_same]; simp)) (by simp [BoxL,lk]) (outFd (s:=s) (nl:=nl) (fm:=fm) (N:=N) (E:=[]) (a:=nt2) (b:=b2) (out:=out2) (own:=own2) rfl)⟩
        ·try (simp [lb_out hkn,upd_same])
         repeat (first|(refine sR ?_; simp [lb_out hkn,upd_same])|(refine sC ?_; simp [lb_out hkn,upd_same])|(refine sX ?_; simp only [AU, ↓reduceIte]))
         refine Stop.of_a (ih (N++[(i:Int)]) out2 nt2 b2 own2 _ _ k _ _ (by simp; omega) ho2 (by simp [lb_out hkn,upd_same]) htk3) ?_;rintro v m' ⟨rfl,a3,b3,own3,tok3,nt3,rfl,htk4,hle4⟩;have hle4:nt2+1≤nt3:=hle4
         have hle5:nt≤nt3:=by omega
         simp [upd_lb_out hkn,upd_upd];try (simp [lb_out hkn,upd_same,rI_cut,hw])
         repeat (first|(refine sR ?_; simp [lb_out hkn,upd_same,rI_cut,hw])|(refine sC ?_; simp [lb_out hkn,upd_same,rI_cut,hw])|(refine sX ?_; simp only [AU, ↓reduceIte]))
         simp only [upd_lb_out hkn,upd_upd];refine sE ?_;exact ⟨⟨i+1,s.fnP fm r (N++[(i:Int)]) out2,a3,b3,own3,tok3,nt3⟩,⟨hli,by rw [hfold,Sr.stNp,hok,hP]; simp,Sr.fnP_len h ho2,htk4,by omega⟩,by simp only; omega,Weaks.mk' hle5 (by simp [ToL,lk]; exact to_ptr (by rw [lb_out hkn,upd_same]; simp)) (by simp [BoxL,lk]) (outFd (s:=s) (nl:=nl) (fm:=fm) (N:=N) (E:=[]) (a:=a3) (b:=b3) (out:=s.fnP fm r (N++[(i:Int)]) out2) (own:=own3) rfl)⟩
       ·have hok:s.okN N i=true:=by rw [hokN,usB,if_neg (by simp [ei])]
        refine sR ?_;simp [lb_out hkn,upd_same,p0,bw,hw,hlt,hq,hu,hq2,hu2,isD,hlt1,hlt2,hrow,hcol,hB,ei];refine sC ?_;simp;try (simp [lb_out hkn,upd_same])
        repeat (first|(refine sR ?_; simp [lb_out hkn,upd_same])|(refine sC ?_; simp [lb_out hkn,upd_same])|(refine sX ?_; simp only [AU, ↓reduceIte]))
        refine ⟨⟨by omega,hta⟩,?_⟩;have htk3:=htk2.app;simp only [upd_lb_out hkn,upd_upd];have hta3:(upd (upd tok2 a2 false) nt2 true) nt2=true:=upd_same _ _ _
        have htb3:(upd (upd tok2 a2 false) nt2 true) b2=true:=htk3.swap.live
        have hpos:=possibleF_c s h nl hnl fm (N++[(i:Int)]) [] (by simp; omega) out2;try (simp [lb_out hkn,upd_same])
        repeat (first|(refine sR ?_; simp [lb_out hkn,upd_same])|(refine sC ?_; simp [lb_out hkn,upd_same])|(refine sX ?_; simp only [AU, ↓reduceIte]))
        refine Stop.of_r (RCall.lends rfl (fun tok=>hpos tok (nt2+1)) ⟨.ptr (row:=s.rowF nl fm (N++[(i:Int)]) nt2 [] b2 out2 own2) (by simp [lb_out hkn,upd_same]) (Sr.row_cds (own:=own2) hta3 htb3),trivial⟩) ?_;cases hP:s.pos (N++[(i:Int)])
        ·try (simp [lb_out hkn,upd_same,rI_cut,hw])
         repeat (first|(refine sR ?_; simp [lb_out hkn,upd_same,rI_cut,hw])|(refine sC ?_; simp [lb_out hkn,upd_same,rI_cut,hw])|(refine sX ?_; simp only [AU, ↓reduceIte]))
         simp only [upd_lb_out hkn,upd_upd];refine sE ?_;exact ⟨⟨i+1,out2,nt2,b2,own2,_,nt2+1⟩,⟨hli,by rw [hfold,Sr.stNp,hok,hP]; simp,ho2,htk3,Nat.le_succ_of_le hnt2⟩,by simp only; omega,Weaks.mk' (Nat.le_succ_of_le hnt2) (by simp [ToL,lk]; exact to_ptr (by rw [lb_out hkn,upd_same]; simp)) (by simp [BoxL,lk]) (outFd (s:=s) (nl:=nl) (fm:=fm) (N:=N) (E:=[]) (a:=nt2) (b:=b2) (out:=out2) (own:=own2) rfl)⟩
        ·try (simp [lb_out hkn,upd_same])
         repeat (first|(refine sR ?_; simp [lb_out hkn,upd_same])|(refine sC ?_; simp [lb_out hkn,upd_same])|(refine sX ?_; simp only [AU, ↓reduceIte]))
         refine Stop.of_a (ih (N++[(i:Int)]) out2 nt2 b2 own2 _ _ k _ _ (by simp; omega) ho2 (by simp [lb_out hkn,upd_same]) htk3) ?_;rintro v m' ⟨rfl,a3,b3,own3,tok3,nt3,rfl,htk4,hle4⟩;have hle4:nt2+1≤nt3:=hle4
         have hle5:nt≤nt3:=by omega
         simp [upd_lb_out hkn,upd_upd];try (simp [lb_out hkn,upd_same,rI_cut,hw])
         repeat (first|(refine sR ?_; simp [lb_out hkn,upd_same,rI_cut,hw])|(refine sC ?_; simp [lb_out hkn,upd_same,rI_cut,hw])|(refine sX ?_; simp only [AU, ↓reduceIte]))
         simp only [upd_lb_out hkn,upd_upd];refine sE ?_;exact ⟨⟨i+1,s.fnP fm r (N++[(i:Int)]) out2,a3,b3,own3,tok3,nt3⟩,⟨hli,by rw [hfold,Sr.stNp,hok,hP]; simp,Sr.fnP_len h ho2,htk4,by omega⟩,by simp only; omega,Weaks.mk' hle5 (by simp [ToL,lk]; exact to_ptr (by rw [lb_out hkn,upd_same]; simp)) (by simp [BoxL,lk]) (outFd (s:=s) (nl:=nl) (fm:=fm) (N:=N) (E:=[]) (a:=a3) (b:=b3) (out:=s.fnP fm r (N++[(i:Int)]) out2) (own:=own3) rfl)⟩
     ·cases hB:isB s.t (u:Int) (q:Int)
      ·have hok:s.okN N i=false:=by rw [hokN,hB]; simp
       try (simp [lb_out hkn,upd_same,p0,hw,hlt,hq,hu,hq2,hu2,isD,hlt1,hlt2,hrow,hcol,hB])
       repeat (first|(refine sR ?_; simp [lb_out hkn,upd_same,p0,hw,hlt,hq,hu,hq2,hu2,isD,hlt1,hlt2,hrow,hcol,hB])|(refine sC ?_; simp [lb_out hkn,upd_same,p0,hw,hlt,hq,hu,hq2,hu2,isD,hlt1,hlt2,hrow,hcol,hB])|(refine sX ?_; simp only [AU, ↓reduceIte]))
       refine sE ?_;exact ⟨⟨i+1,out2,a2,b2,own2,tok2,nt2⟩,⟨hli,by rw [hfold,Sr.stNp,hok]; simp,ho2,htk2,hnt2⟩,by simp only; omega,Weaks.mk' (by have:=htk2.le; omega) (by simp [ToL,lk]; exact to_ptr (by rw [lb_out hkn,upd_same]; simp)) (by simp [BoxL,lk]) (outFd rfl)⟩
      ·rw [hB] at hokN;refine skip _ (fun ei ed=>?_) (fun ei ed=>?_) (fun ei=>?_)
       ·have hok:s.okN N i=false:=by rw [hokN,usB,if_pos ei,ed]; rfl
        try (simp [lb_out hkn,upd_same,p0,hw,hlt,hq,hu,hq2,hu2,isD,hlt1,hlt2,hrow,hcol,hB,ei])
        repeat (first|(refine sR ?_; simp [lb_out hkn,upd_same,p0,hw,hlt,hq,hu,hq2,hu2,isD,hlt1,hlt2,hrow,hcol,hB,ei])|(refine sC ?_; simp [lb_out hkn,upd_same,p0,hw,hlt,hq,hu,hq2,hu2,isD,hlt1,hlt2,hrow,hcol,hB,ei])|(refine sX ?_; simp only [AU, ↓reduceIte]))
        refine Stop.of_r (RCall.lends rfl (fun tok=>contains_c N i (by omega) tok nt2) ⟨.stk hta,.same (by simp),trivial⟩) ?_;rw [ed];try (simp [hw])
        repeat (first|(refine sR ?_; simp [hw])|(refine sC ?_; simp [hw])|(refine sX ?_; simp only [AU, ↓reduceIte]))
        refine sE ?_;exact ⟨⟨i+1,out2,a2,b2,own2,tok2,nt2⟩,⟨hli,by rw [hfold,Sr.stNp,hok]; simp,ho2,htk2,hnt2⟩,by simp only; omega,Weaks.mk' (by have:=htk2.le; omega) (by simp [ToL,lk]; exact to_ptr (by rw [lb_out hkn,upd_same]; simp)) (by simp [BoxL,lk]) (outFd rfl)⟩
       ·have hok:s.okN N i=true:=by rw [hokN,usB,if_pos ei,ed]; rfl
        try (simp [lb_out hkn,upd_same,p0,hw,hlt,hq,hu,hq2,hu2,isD,hlt1,hlt2,hrow,hcol,hB,ei])
        repeat (first|(refine sR ?_; simp [lb_out hkn,upd_same,p0,hw,hlt,hq,hu,hq2,hu2,isD,hlt1,hlt2,hrow,hcol,hB,ei])|(refine sC ?_; simp [lb_out hkn,upd_same,p0,hw,hlt,hq,hu,hq2,hu2,isD,hlt1,hlt2,hrow,hcol,hB,ei])|(refine sX ?_; simp only [AU, ↓reduceIte]))
        refine Stop.of_r (RCall.lends rfl (fun tok=>contains_c N i (by omega) tok nt2) ⟨.stk hta,.same (by simp),trivial⟩) ?_;rw [ed];try (simp [lb_out hkn,upd_same])
        repeat (first|(refine sR ?_; simp [lb_out hkn,upd_same])|(refine sC ?_; simp [lb_out hkn,upd_same])|(refine sX ?_; simp only [AU, ↓reduceIte]))
        refine ⟨⟨by omega,hta⟩,?_⟩;have htk3:=htk2.app;simp only [upd_lb_out hkn,upd_upd];have hta3:(upd (upd tok2 a2 false) nt2 true) nt2=true:=upd_same _ _ _
        have htb3:(upd (upd tok2 a2 false) nt2 true) b2=true:=htk3.swap.live
        have hpos:=possibleF_c s h nl hnl fm (N++[(i:Int)]) [] (by simp; omega) out2;try (simp [lb_out hkn,upd_same])
        repeat (first|(refine sR ?_; simp [lb_out hkn,upd_same])|(refine sC ?_; simp [lb_out hkn,upd_same])|(refine sX ?_; simp only [AU, ↓reduceIte]))
        refine Stop.of_r (RCall.lends rfl (fun tok=>hpos tok (nt2+1)) ⟨.ptr (row:=s.rowF nl fm (N++[(i:Int)]) nt2 [] b2 out2 own2) (by simp [lb_out hkn,upd_same]) (Sr.row_cds (own:=own2) hta3 htb3),trivial⟩) ?_;cases hP:s.pos (N++[(i:Int)])
        ·try (simp [lb_out hkn,upd_same,rI_cut,hw])
         repeat (first|(refine sR ?_; simp [lb_out hkn,upd_same,rI_cut,hw])|(refine sC ?_; simp [lb_out hkn,upd_same,rI_cut,hw])|(refine sX ?_; simp only [AU, ↓reduceIte]))
         simp only [upd_lb_out hkn,upd_upd];refine sE ?_;exact ⟨⟨i+1,out2,nt2,b2,own2,_,nt2+1⟩,⟨hli,by rw [hfold,Sr.stNp,hok,hP]; simp,ho2,htk3,Nat.le_succ_of_le hnt2⟩,by simp only; omega,Weaks.mk' (Nat.le_succ_of_le hnt2) (by simp [ToL,lk]; exact to_ptr (by rw [lb_out hkn,upd_same]; simp)) (by simp [BoxL,lk]) (outFd (s:=s) (nl:=nl) (fm:=fm) (N:=N) (E:=[]) (a:=nt2) (b:=b2) (out:=out2) (own:=own2) rfl)⟩
        ·try (simp [lb_out hkn,upd_same])
         repeat (first|(refine sR ?_; simp [lb_out hkn,upd_same])|(refine sC ?_; simp [lb_out hkn,upd_same])|(refine sX ?_; simp only [AU, ↓reduceIte]))
         refine Stop.of_a (ih (N++[(i:Int)]) out2 nt2 b2 own2 _ _ k _ _ (by simp; omega) ho2 (by simp [lb_out hkn,upd_same]) htk3) ?_;rintro v m' ⟨rfl,a3,b3,own3,tok3,nt3,rfl,htk4,hle4⟩;have hle4:nt2+1≤nt3:=hle4
         have hle5:nt≤nt3:=by omega
         simp [upd_lb_out hkn,upd_upd];try (simp [lb_out hkn,upd_same,rI_cut,hw])
         repeat (first|(refine sR ?_; simp [lb_out hkn,upd_same,rI_cut,hw])|(refine sC ?_; simp [lb_out hkn,upd_same,rI_cut,hw])|(refine sX ?_; simp only [AU, ↓reduceIte]))
         simp only [upd_lb_out hkn,upd_upd];refine sE ?_;exact ⟨⟨i+1,s.fnP fm r (N++[(i:Int)]) out2,a3,b3,own3,tok3,nt3⟩,⟨hli,by rw [hfold,Sr.stNp,hok,hP]; simp,Sr.fnP_len h ho2,htk4,by omega⟩,by simp only; omega,Weaks.mk' hle5 (by simp [ToL,lk]; exact to_ptr (by rw [lb_out hkn,upd_same]; simp)) (by simp [BoxL,lk]) (outFd (s:=s) (nl:=nl) (fm:=fm) (N:=N) (E:=[]) (a:=a3) (b:=b3) (out:=s.fnP fm r (N++[(i:Int)]) out2) (own:=own3) rfl)⟩
       ·have hok:s.okN N i=true:=by rw [hokN,usB,if_neg (by simp [ei])]
        refine sR ?_;simp [lb_out hkn,upd_same,p0,hw,hlt,hq,hu,hq2,hu2,isD,hlt1,hlt2,hrow,hcol,hB,ei];refine sC ?_;simp;try (simp [lb_out hkn,upd_same])
        repeat (first|(refine sR ?_; simp [lb_out hkn,upd_same])|(refine sC ?_; simp [lb_out hkn,upd_same])|(refine sX ?_; simp only [AU, ↓reduceIte]))
        refine ⟨⟨by omega,hta⟩,?_⟩;have htk3:=htk2.app;simp only [upd_lb_out hkn,upd_upd];have hta3:(upd (upd tok2 a2 false) nt2 true) nt2=true:=upd_same _ _ _
        have htb3:(upd (upd tok2 a2 false) nt2 true) b2=true:=htk3.swap.live
        have hpos:=possibleF_c s h nl hnl fm (N++[(i:Int)]) [] (by simp; omega) out2;try (simp [lb_out hkn,upd_same])
        repeat (first|(refine sR ?_; simp [lb_out hkn,upd_same])|(refine sC ?_; simp [lb_out hkn,upd_same])|(refine sX ?_; simp only [AU, ↓reduceIte]))
        refine Stop.of_r (RCall.lends rfl (fun tok=>hpos tok (nt2+1)) ⟨.ptr (row:=s.rowF nl fm (N++[(i:Int)]) nt2 [] b2 out2 own2) (by simp [lb_out hkn,upd_same]) (Sr.row_cds (own:=own2) hta3 htb3),trivial⟩) ?_;cases hP:s.pos (N++[(i:Int)])
        ·try (simp [lb_out hkn,upd_same,rI_cut,hw])
         repeat (first|(refine sR ?_; simp [lb_out hkn,upd_same,rI_cut,hw])|(refine sC ?_; simp [lb_out hkn,upd_same,rI_cut,hw])|(refine sX ?_; simp only [AU, ↓reduceIte]))
         simp only [upd_lb_out hkn,upd_upd];refine sE ?_;exact ⟨⟨i+1,out2,nt2,b2,own2,_,nt2+1⟩,⟨hli,by rw [hfold,Sr.stNp,hok,hP]; simp,ho2,htk3,Nat.le_succ_of_le hnt2⟩,by simp only; omega,Weaks.mk' (Nat.le_succ_of_le hnt2) (by simp [ToL,lk]; exact to_ptr (by rw [lb_out hkn,upd_same]; simp)) (by simp [BoxL,lk]) (outFd (s:=s) (nl:=nl) (fm:=fm) (N:=N) (E:=[]) (a:=nt2) (b:=b2) (out:=out2) (own:=own2) rfl)⟩
        ·try (simp [lb_out hkn,upd_same])
         repeat (first|(refine sR ?_; simp [lb_out hkn,upd_same])|(refine sC ?_; simp [lb_out hkn,upd_same])|(refine sX ?_; simp only [AU, ↓reduceIte]))
         refine Stop.of_a (ih (N++[(i:Int)]) out2 nt2 b2 own2 _ _ k _ _ (by simp; omega) ho2 (by simp [lb_out hkn,upd_same]) htk3) ?_;rintro v m' ⟨rfl,a3,b3,own3,tok3,nt3,rfl,htk4,hle4⟩;have hle4:nt2+1≤nt3:=hle4
         have hle5:nt≤nt3:=by omega
         simp [upd_lb_out hkn,upd_upd];try (simp [lb_out hkn,upd_same,rI_cut,hw])
         repeat (first|(refine sR ?_; simp [lb_out hkn,upd_same,rI_cut,hw])|(refine sC ?_; simp [lb_out hkn,upd_same,rI_cut,hw])|(refine sX ?_; simp only [AU, ↓reduceIte]))
         simp only [upd_lb_out hkn,upd_upd];refine sE ?_;exact ⟨⟨i+1,s.fnP fm r (N++[(i:Int)]) out2,a3,b3,own3,tok3,nt3⟩,⟨hli,by rw [hfold,Sr.stNp,hok,hP]; simp,Sr.fnP_len h ho2,htk4,by omega⟩,by simp only; omega,Weaks.mk' hle5 (by simp [ToL,lk]; exact to_ptr (by rw [lb_out hkn,upd_same]; simp)) (by simp [BoxL,lk]) (outFd (s:=s) (nl:=nl) (fm:=fm) (N:=N) (E:=[]) (a:=a3) (b:=b3) (out:=s.fnP fm r (N++[(i:Int)]) out2) (own:=own3) rfl)⟩
   ·have:i=s.g.nodes.length:=by omega
    subst this;try (simp [lb_out hkn,upd_same])
    repeat (first|(refine sR ?_; simp [lb_out hkn,upd_same])|(refine sC ?_; simp [lb_out hkn,upd_same])|(refine sX ?_; simp only [AU, ↓reduceIte]))
    refine sN ?_;refine sE ?_;refine ⟨by simp,(Fin.gen (vs:=[]) (av:=.tup []) (tok':=tok2) (nt':=nt2) (by simp [resAs,resA]) ?_ hnt2 (Nat.le_refl _) (fun t h=>⟨h,.inl rfl⟩) (outFd (by simp)) (by simp [packA])).mono fun v m hq=>⟨hq.1,a2,b2,own2,tok2,nt2,?_,htk2,hnt2⟩⟩
    ·rw [←upd_lb_out hkn,hbox]
    ·rw [hq.2,Sr.fnP,fndN,if_neg hbig,hout]; rfl
theorem to_frzW {p q:Nat→Prop} {k n:Nat} {L:List Bool} (h:L.length=n):To p q (some (k,1,L.map fun b=>[D.raw (.bool b)])) (.msl k 0 n 1) (.d (blB L)):=by
 have h2:=To.frz (p:=p) (q:=q) (fz:=some (k,1,L.map fun b=>[D.raw (.bool b)])) (k:=k) (sz:=1) (es:=L.map fun b=>[D.raw (.bool b)]) rfl;have:(L.map fun b=>[D.raw (.bool b)]).length=n:=by simp [h]
 rw [this] at h2;exact h2
def mkB (n:Nat) (l:List Int):List Bool:=(List.range n).map fun (b:Nat)=>decide ((b:Int)∈l)
theorem mkB_len (n:Nat) (l:List Int):(mkB n l).length=n:=by simp [mkB]
theorem mkB_nil (n:Nat):List.replicate n [B false]=rowsB (mkB n []):=by
 refine List.ext_getElem (by simp [mkB]) fun i h1 h2=>?_
 simp [rowsB,mkB]
theorem mkB_set {n:Nat} {l:List Int} {v:Int} (h0:0≤v):(mkB n l).set v.toNat true=mkB n (l++[v]):=by
 refine List.ext_getElem (by simp [mkB]) fun i h1 h2=>?_
 rw [List.getElem_set];simp only [mkB,List.getElem_map,List.getElem_range,List.mem_append,List.mem_singleton];by_cases e:v.toNat=i
 ·rw [if_pos e];have:(i:Int)=v:=by omega
  simp [this]
 ·rw [if_neg e];have:¬ (i:Int)=v:=by omega
  simp [this]
theorem mkB_row (t:Ty) (a:Nat):mkB t.nodes.length (belK t (a:Int) t.nodes.length)=isRow t a:=by
 refine List.ext_getElem (by simp [mkB,isRow]) fun i h1 h2=>?_
 simp only [mkB,isRow,List.getElem_map,List.getElem_range];have hi:i<t.nodes.length:=by simpa [mkB] using h1
 unfold belK;by_cases h:isB t (i:Int) (a:Int)=true
 ·rw [h,decide_eq_true_eq];exact List.mem_map.2 ⟨i,List.mem_filter.2 ⟨List.mem_range.2 hi,h⟩,rfl⟩
 ·simp only [Bool.not_eq_true] at h;rw [h,decide_eq_false_iff_not];intro hm;obtain ⟨x,hx,e⟩:=List.mem_map.1 hm;obtain ⟨_,hx⟩:=List.mem_filter.1 hx;have:x=i:=by omega
  subst this;rw [h] at hx;cases hx
theorem isTb_take {t:Ty} {i:Nat} (h:i<t.nodes.length):(isTb t).take (i+1)=(isTb t).take i++[isRow t i]:=by
 have hl:i<(isTb t).length:=by simp [isTb]; exact h
 rw [List.take_succ_eq_append_getElem hl,isD_row h]
def isRs (t:Ty) (i:Nat):List (List D):=((isTb t).take i).map fun r=>[blB r]
theorem isRs_succ {t:Ty} {i:Nat} (h:i<t.nodes.length):isRs t (i+1)=isRs t i++[[blB (isRow t i)]]:=by
 unfold isRs;rw [isTb_take h,List.map_append];rfl
theorem isRs_len (t:Ty) (i:Nat):(isRs t i).length≤i:=by unfold isRs; rw [List.length_map,List.length_take]; omega
def stBl (t:Ty) (nb:Nat) (box:Bxs) (x:Acc):AState :=
 ⟨tl [(13,I x.i),(12,I t.nodes.length),(11,.d (nts t.nodes)),(3,.osl 1 (isRs t x.i) x.own),(1,.ptr (nb+1) 0 0)],lb nb box [(1,[[.d (nts t.nodes),.d (ets t.edges)]])],x.tok,x.nt⟩
def stBm (t:Ty) (i:Nat) (L:List Int) (own:Own) (nb:Nat) (box:Bxs) (tok:Tks) (nt:Nat) (j:Nat):AState :=
 ⟨tl [(28,I j),(27,I L.length),(26,.d (ints L)),(5,.msl (nb+19) 0 t.nodes.length 1),(13,I i),(12,I t.nodes.length),(11,.d (nts t.nodes)),(3,.osl 1 (isRs t i) own),(1,.ptr (nb+1) 0 0)],
  lb nb box [(19,rowsB (mkB t.nodes.length (L.take j))),(1,[[.d (nts t.nodes),.d (ets t.edges)]])],tok,nt⟩
theorem belowF_c (t:Ty) (ht:t.Fit) (h0:tyE t=0) (tok:Tks) (nt:Nat):DCall Tryz.prog 285 [t.av] tok nt (.d (isD t)) tok nt:=by
 intro box nb;have htn:=ht.n;have hb:=fun a=>below_c t ht a
 refine sI Tryz.func285 Tryz.ntmps285 fun hbox htok=>?_
 repeat (first|simp|refine sR ?_)
 refine sN ?_;refine AL.loopT (stBl t nb box) (fun x=>x.i≤t.nodes.length∧TK tok nt x.tok x.nt [x.own]) (fun x=>t.nodes.length - x.i) ⟨0,.full,tok,nt⟩ ⟨Nat.zero_le _,(TK.start htok).full⟩ (Weaks.mk (Nat.le_refl _) rfl (by simp [ToL,lk,isRs]) (by simp [BoxL,lk])) ?_;rintro ⟨i,own,tok',nt'⟩ S ⟨hi,htk⟩ hS;simp only [stBl] at hS hi htk;subst hS;have hw:=sW (i:=i) (by omega);by_cases hlt:i<t.nodes.length
 ·have hrow:=mkB_row t i;have hs:=isRs_succ hlt;have hsl:=isRs_len t i;have hlR:belR t (i:Int)=(belK t (i:Int) t.nodes.length,0):=by
   unfold belR;rw [givE_leaf h0 (by omega),if_neg (by omega)]
  have hLn:∀ v∈belK t (i:Int) t.nodes.length,0≤v∧v<t.nodes.length:=by
   intro v hv;unfold belK at hv;simp only [List.mem_map,List.mem_filter,List.mem_range] at hv;obtain ⟨x,⟨hx,_⟩,rfl⟩:=hv;omega
  have hLl:=belK_len t (i:Int) t.nodes.length;have hbi:=hb (i:Int);rw [hlR] at hbi;generalize belK t (i:Int) t.nodes.length=L at *;try (simp [hlt])
  repeat (first|(refine sR ?_; simp [hlt])|(refine sC ?_; simp [hlt])|(refine sX ?_; simp only [AU, ↓reduceIte]))
  refine ⟨by omega,?_⟩;try (simp)
  repeat (first|(refine sR ?_; simp)|(refine sC ?_; simp)|(refine sX ?_; simp only [AU, ↓reduceIte]))
  refine Stop.of_d (hbi _ _) ?_;simp;try (simp)
  repeat (first|(refine sR ?_; simp)|(refine sC ?_; simp)|(refine sX ?_; simp only [AU, ↓reduceIte]))
  refine sN ?_;refine AL.loopT (stBm t i L own nb box tok' nt') (fun j=>j≤L.length) (fun j=>L.length - j) 0 (Nat.zero_le _) (Weaks.mk htk.le rfl (by simp [ToL,lk]) (by simp [BoxL,lk,mkB_nil])) ?_;rintro j S hj hS;simp only [stBm] at hS;subst hS;have hwj:=sW (i:=j) (by omega);by_cases hlj:j<L.length
  ·obtain ⟨v0,v1⟩:=hLn _ (List.getElem_mem hlj);have hset:(mkB t.nodes.length (L.take j)).set L[j].toNat true=mkB t.nodes.length (L.take (j+1)):=by
    rw [mkB_set v0,←List.take_succ_eq_append_getElem hlj]
   have hml:=mkB_len t.nodes.length (L.take j);have v2:L[j].toNat<t.nodes.length:=by omega
   try (simp [hlj,v0,v1,v2,hml,hwj])
   repeat (first|(refine sR ?_; simp [hlj,v0,v1,v2,hml,hwj])|(refine sC ?_; simp [hlj,v0,v1,v2,hml,hwj])|(refine sX ?_; simp only [AU, ↓reduceIte]))
   refine sE ?_;exact ⟨j+1,hlj,by omega,Weaks.mk htk.le rfl (by simp [ToL,lk]) (by simp [BoxL,lk,hset])⟩
  ·have:j=L.length:=by omega
   subst this;rw [List.take_length,hrow];refine sR ?_;simp;refine sC ?_;simp;refine sX ?_;simp only [AU, ↓reduceIte];have hrl:(isRow t i).length=t.nodes.length:=by simp [isRow]
   refine AL.weak (Weaks.frz (l':=[(5,.d (blB (isRow t i))),(13,I i),(12,I t.nodes.length),(11,.d (nts t.nodes)),(3,.osl 1 (isRs t i) own),(1,.ptr (nb+1) 0 0)]) (loc':=[(1,[[.d (nts t.nodes),.d (ets t.edges)]])]) 19 1 ((isRow t i).map fun b=>[D.raw (.bool b)]) htk.le rfl (by simp [lk,rowsB_eq]) (by simp [lk]) (fun e he=>by obtain ⟨b,_,rfl⟩:=List.mem_map.1 he; rfl) (by simp [ToL,lk,lb_at]; exact to_frzW hrl) (by simp [BoxL,lk])) ?_;try (simp)
   repeat (first|(refine sR ?_; simp)|(refine sC ?_; simp)|(refine sX ?_; simp only [AU, ↓reduceIte]))
   refine ⟨⟨by omega,htk.live⟩,?_⟩;try (simp [hw])
   repeat (first|(refine sR ?_; simp [hw])|(refine sC ?_; simp [hw])|(refine sX ?_; simp only [AU, ↓reduceIte]))
   refine sE ?_;exact ⟨⟨i+1,_,_,_⟩,⟨hlt,htk.app⟩,by simp only; omega,Weaks.mk htk.app.le rfl (by simp [ToL,lk,hs]) (by simp [BoxL,lk])⟩
 ·have:i=t.nodes.length:=by omega
  subst this;have htl:isRs t t.nodes.length=(isTb t).map fun r=>[blB r]:=by unfold isRs; rw [List.take_of_length_le (by simp [isTb])]
  rw [htl];try (simp)
  repeat (first|(refine sR ?_; simp)|(refine sC ?_; simp)|(refine sX ?_; simp only [AU, ↓reduceIte]))
  refine sN ?_;refine AL.ret ?_;try simp only [AU]
  exact ⟨by simp,Fin.data (av:=.d (isD t)) (by simp [resAs,resA]; rfl) hbox rfl htok htk.old htk.le (by simp [packA,isD])⟩
theorem within1_c (x:Int) (box:Bxs) (nb k:Nat) (tok:Tks) (nt:Nat) (t:Ty) (hk:box k=some [[.d (nts t.nodes),.d (ets t.edges)]]) :
  ACalls Tryz.prog 283 [I x,.ptr k 0 0] ⟨box,nb,tok,nt⟩ fun v m=>v=B (decide ((t.nodes.length:Int)≤x))∧m=⟨box,nb,tok,nt⟩:=by
 refine sI Tryz.func283 Tryz.ntmps283 fun hbox htok=>?_
 have kn:=key_lt hbox hk;repeat (first|simp [lb_out kn,hk]|refine sR ?_)
 refine sT (sH hbox htok ?_);simp [packA]
theorem within2_c (x:E) (box:Bxs) (nb k:Nat) (tok:Tks) (nt:Nat) (t:Ty) (hk:box k=some [[.d (nts t.nodes),.d (ets t.edges)]]) :
  ACalls Tryz.prog 284 [.agg [I x.ty,I x.fr,I x.to],.ptr k 0 0] ⟨box,nb,tok,nt⟩ fun v m=>v=B (decide ((t.edges.length:Int)≤x.ty))∧m=⟨box,nb,tok,nt⟩:=by
 refine sI Tryz.func284 Tryz.ntmps284 fun hbox htok=>?_
 have kn:=key_lt hbox hk;repeat (first|simp [lb_out kn,hk]|refine sR ?_)
 refine sT (sH hbox htok ?_);simp [packA]
def wiN (t:Ty) (x:Int):Bool:=decide ((t.nodes.length:Int)≤x)
def wiX (t:Ty) (x:E):Bool:=decide ((t.edges.length:Int)≤x.ty)
theorem typG_wi {t:Ty} {g:Gr} (hv:validG g=0):typG t g=(!anyB (wiN t) g.nodes&&!anyB (wiX t) g.edges):=by
 obtain ⟨_,h1,h2⟩:=validG_types hv;unfold typG anyB;congr 1
 ·rw [Bool.eq_iff_iff,List.all_eq_true,Bool.not_eq_true',List.any_eq_false];refine ⟨fun h x hx=>?_,fun h x hx=>?_⟩
  ·have:=h x hx
   simp [typN,wiN] at this ⊢;omega
  ·have a:=h x hx;have b:=h1 x hx;simp [typN,wiN,withinB] at a b ⊢;omega
 ·rw [Bool.eq_iff_iff,List.all_eq_true,Bool.not_eq_true',List.any_eq_false];refine ⟨fun h x hx=>?_,fun h x hx=>?_⟩
  ·have:=h x hx
   simp [typX,wiX] at this ⊢;omega
  ·have a:=h x hx;have b:=h2 x hx;simp [typX,wiX,fitsB,withinB] at a b ⊢;omega
theorem withinF_c (t:Ty) (ht:t.Fit) (g:Gr) (hg:g.Fit) (hv:validG g=0) (tok:Tks) (nt:Nat):DCall Tryz.prog 239 [t.av,g.av] tok nt (B (typG t g)) tok nt:=by
 intro box nb;have h1:=fun y box nb k tok nt hbk=>within1_c y box nb k tok nt t hbk
 have h2:=fun y box nb k tok nt hbk=>within2_c y box nb k tok nt t hbk
 rw [typG_wi hv];obtain ⟨p,hp⟩:∃ p,wiN t=p:=⟨_,rfl⟩
 obtain ⟨q,hq⟩:∃ q,wiX t=q:=⟨_,rfl⟩
 have e1:∀ y,decide ((t.nodes.length:Int)≤y)=p y:=fun y=>by rw [←hp]; rfl
 have e2:∀ y:E,decide ((t.edges.length:Int)≤y.ty)=q y:=fun y=>by rw [←hq]; rfl
 simp only [e1] at h1;simp only [e2] at h2;rw [hp,hq];have hgn:=hg.n;have hge:=hg.e;refine sI Tryz.func239 Tryz.ntmps239 fun hbox htok=>?_
 repeat (first|simp|refine sR ?_)
 refine Stop.of_b (containsFunc_c g.nodes 283 [.ptr (nb+2) 0 0] p hgn _ _ _ _ (fun c hc=>by rw [List.mem_singleton.1 hc]; simp [lb_at]) (fun y hy box' nb' he=>h1 y box' nb' _ _ _ (he _ _ (by simp [lb_at])))) ?_;simp;cases c1:anyB p g.nodes
 ·repeat (first|simp|refine sR ?_)
  refine Stop.of_b (containsFuncE_c g.edges 284 [.ptr (nb+2) 0 0] q hge _ _ _ _ (fun c hc=>by rw [List.mem_singleton.1 hc]; simp [lb_at]) (fun y hy box' nb' he=>h2 y box' nb' _ _ _ (he _ _ (by simp [lb_at])))) ?_;repeat (first|simp|refine sR ?_)
  refine sT (sH hbox htok ?_);simp [packA]
 ·repeat (first|simp|refine sR ?_)
  refine sT (sH hbox htok ?_);simp [packA]
def QFo (s:Sr) (fm:Nat) (box:Bxs) (nb:Nat) (tok:Tks) (nt:Nat) (v:AV) (m:AMem):Prop :=
 ∃ own' tok' nt',v=.osl 2 (mosR (s.fnP fm s.p.nodes.length [] [])) own'∧m=⟨box,nb,tok',nt'⟩∧TK tok nt tok' nt' [own']
set_option maxRecDepth 100000 in
theorem foundF_c (s:Sr) (h:s.Ok) (h0:tyE s.t=0) (nl:Bool) (hnl:s.Nl nl) (fm:Nat) (hfm:fm≤1000000) (box:Bxs) (nb:Nat) (tok:Tks) (nt:Nat) :
  ACalls Tryz.prog 240 [s.t.av,s.p.av,s.g.av,.agg [.d (ptD nl s.pt.nodes),.d (ptD nl s.pt.edges)],B s.inj,I fm] ⟨box,nb,tok,nt⟩ (QFo s fm box nb tok nt):=by
 have hb:=belowF_c s.t h.t h0;refine sI Tryz.func240 Tryz.ntmps240 fun hbox htok=>?_
 repeat (first|simp|refine sR ?_)
 refine Stop.of_d (hb _ _) ?_;simp;refine AL.weak (Weaks.mk (l':=[(13,.ptr (nb+22) 0 0)]) (loc':=[(22,[[.d (ints s.p.nodes),.d (AM.edges s.p.edges),.d (ints s.g.nodes),.d (AM.edges s.g.edges),.d (isD s.t),.d (ptD nl s.pt.nodes),.d (ptD nl s.pt.edges),B s.inj,I fm,.osl 0 [] .full,.osl 0 [] .full,.osl 2 [] .full]])]) (Nat.le_refl _) rfl (by simp [ToL,lk]) (by simp [BoxL,lk])) ?_;refine AL.trans (Trans.opn (l':=[(13,.ptr (nb+22) 0 0)]) (loc':=[(22,[[.d (ints s.p.nodes),.d (AM.edges s.p.edges),.d (ints s.g.nodes),.d (AM.edges s.g.edges),.d (isD s.t),.d (ptD nl s.pt.nodes),.d (ptD nl s.pt.edges),B s.inj,I fm,.stk nt 1 [],.osl 0 [] .full,.osl 2 [] .full]])]) 1 (by simp [CvL]) ⟨rfl,cvRs_one (cvR_cons .same (cvR_cons .same (cvR_cons .same (cvR_cons .same (cvR_cons .same (cvR_cons .same (cvR_cons .same (cvR_cons .same (cvR_cons .same (cvR_cons .nil (cvR_cons .same (cvR_cons .same cvR_nil)))))))))))),trivial⟩) ?_;refine AL.trans (Trans.opn (l':=[(13,.ptr (nb+22) 0 0)]) (loc':=[(22,[[.d (ints s.p.nodes),.d (AM.edges s.p.edges),.d (ints s.g.nodes),.d (AM.edges s.g.edges),.d (isD s.t),.d (ptD nl s.pt.nodes),.d (ptD nl s.pt.edges),B s.inj,I fm,.stk nt 1 [],.stk (nt+1) 1 [],.osl 2 [] .full]])]) 1 (by simp [CvL]) ⟨rfl,cvRs_one (cvR_cons .same (cvR_cons .same (cvR_cons .same (cvR_cons .same (cvR_cons .same (cvR_cons .same (cvR_cons .same (cvR_cons .same (cvR_cons .same (cvR_cons .same (cvR_cons .nil (cvR_cons .same cvR_nil)))))))))))),trivial⟩) ?_;have htk0:=(TK.start htok).full.full.full.app.swap.app.swap;repeat (first|simp|refine sR ?_)
 refine Stop.of_a (findN_c s h nl hnl fm hfm tok nt s.p.nodes.length [] [] nt (nt+1) .full _ _ (nb+22) _ _ (by simp) (by simp) (by simp [lb_at]) htk0) ?_;rintro v m' ⟨rfl,a,b,own,tok2,nt2,rfl,htk2,hle⟩;try (simp)
 repeat (first|(refine sR ?_; simp)|(refine sC ?_; simp)|(refine sX ?_; simp only [AU, ↓reduceIte]))
 refine sN ?_;refine AL.ret ?_;try simp only [AU]
 have htk3:=htk2.tail.tail;exact ⟨by simp,(Fin.gen (av:=.osl 2 (mosR (s.fnP fm s.p.nodes.length [] [])) own) (tok':=tok2) (nt':=nt2) (by simp [resAs,resA]; rfl) hbox htk3.le (Nat.le_refl _) (fun t h=>⟨h,.inl rfl⟩) (fun k rows _ h=>.inl h) (by simp [packA])).mono fun v m hq=>⟨own,tok2,nt2,hq.1,hq.2,htk3⟩⟩
def stVf (t:Ty) (p g:Gr) (nb:Nat) (box:Bxs) (tok:Tks) (nt:Nat) (i:Nat):AState :=
 ⟨tl [(24,I i),(23,I 2),(22,.d (.sl 2 [[ints p.nodes,AM.edges p.edges],[ints g.nodes,AM.edges g.edges]])),(5,.ptr (nb+5) 0 0),(4,.ptr (nb+4) 0 0),(3,.ptr (nb+3) 0 0)],lb nb box [(5,[[.d (ints g.nodes),.d (AM.edges g.edges)]]),(4,[[.d (ints p.nodes),.d (AM.edges p.edges)]]),(3,[[.d (nts t.nodes),.d (ets t.edges)]])],tok,nt⟩
theorem validF_c (t:Ty) (ht:t.Fit) (p g:Gr) (hp:p.Fit) (hg:g.Fit) (tok:Tks) (nt:Nat):DCall Tryz.prog 178 [t.av,p.av,g.av] tok nt (I (givS t p g)) tok nt:=by
 intro box nb;have hv:=valid_c4 t ht ht.hM;have h1:=graphValid_c p hp;have h2:=graphValid_c g hg;have h3:=withinF_c t ht p hp;have h4:=withinF_c t ht g hg;obtain ⟨R,hR⟩:∃ R,givS t p g=R:=⟨_,rfl⟩
 rw [hR];unfold givS at hR;generalize tyE t=E at *;generalize validG p=V at *;generalize validG g=W at *;refine sI Tryz.func178 Tryz.ntmps178 fun hbox htok=>?_
 repeat (first|simp|refine sR ?_)
 refine Stop.of_d (hv _ _) ?_;simp;by_cases e0:E=0
 ·rw [if_neg (by simp [e0])] at hR;try (simp [e0])
  repeat (first|(refine sR ?_; simp [e0])|(refine sC ?_; simp [e0])|(refine sX ?_; simp only [AU, ↓reduceIte]))
  refine ⟨rfl,?_⟩;try (simp)
  repeat (first|(refine sR ?_; simp)|(refine sC ?_; simp)|(refine sX ?_; simp only [AU, ↓reduceIte]))
  refine sN ?_;refine AL.loopT (stVf t p g nb box tok nt) (fun i=>i≤2∧(1≤i→V=0)∧(2≤i→W=0)) (fun i=>2 - i) 0 ⟨by omega,by omega,by omega⟩ wkA ?_;rintro i S ⟨hi,g0,g1⟩ hS;simp only [stVf] at hS;subst hS;have h012:i=0∨i=1∨i=2:=by omega
  rcases h012 with rfl|rfl|rfl
  ·try (simp)
   repeat (first|(refine sR ?_; simp)|(refine sC ?_; simp)|(refine sX ?_; simp only [AU, ↓reduceIte]))
   refine Stop.of_d (h1 _ _) ?_;simp;by_cases c:V=0
   ·try (simp [c,show IntKind.i64.wrap 1=1 from rfl])
    repeat (first|(refine sR ?_; simp [c,show IntKind.i64.wrap 1=1 from rfl])|(refine sC ?_; simp [c,show IntKind.i64.wrap 1=1 from rfl])|(refine sX ?_; simp only [AU, ↓reduceIte]))
    refine sE ?_;exact ⟨1,⟨by omega,fun h=>by omega⟩,by decide,wkA⟩
   ·have b:(V != 0)=true:=by simp [c]
    rw [if_pos c] at hR;try (simp [b])
    repeat (first|(refine sR ?_; simp [b])|(refine sC ?_; simp [b])|(refine sX ?_; simp only [AU, ↓reduceIte]))
    refine sT (sH hbox htok ?_);simp [packA,hR]
  ·try (simp)
   repeat (first|(refine sR ?_; simp)|(refine sC ?_; simp)|(refine sX ?_; simp only [AU, ↓reduceIte]))
   refine Stop.of_d (h2 _ _) ?_;simp;by_cases c:W=0
   ·try (simp [c,show IntKind.i64.wrap 2=2 from rfl])
    repeat (first|(refine sR ?_; simp [c,show IntKind.i64.wrap 2=2 from rfl])|(refine sC ?_; simp [c,show IntKind.i64.wrap 2=2 from rfl])|(refine sX ?_; simp only [AU, ↓reduceIte]))
    refine sE ?_;exact ⟨2,⟨by omega,fun _=>g0 (by omega)⟩,by decide,wkA⟩
   ·have b:(W != 0)=true:=by simp [c]
    have g0:=g0 (by omega);rw [if_neg (by simp [g0]),if_pos c] at hR;try (simp [b])
    repeat (first|(refine sR ?_; simp [b])|(refine sC ?_; simp [b])|(refine sX ?_; simp only [AU, ↓reduceIte]))
    refine sT (sH hbox htok ?_);simp [packA,hR]
  ·have g0:=g0 (by omega);have g1:=g1 (by omega);rw [if_neg (by simp [g0]),if_neg (by simp [g1])] at hR;have h3:=h3 g0;have h4:=h4 g1;try (simp)
   repeat (first|(refine sR ?_; simp)|(refine sC ?_; simp)|(refine sX ?_; simp only [AU, ↓reduceIte]))
   refine Stop.of_d (h3 _ _) ?_;simp;cases e3:typG t p
   ·rw [e3,if_pos rfl] at hR;try (simp)
    repeat (first|(refine sR ?_; simp)|(refine sC ?_; simp)|(refine sX ?_; simp only [AU, ↓reduceIte]))
    refine sT (sH hbox htok ?_);simp [packA,hR]
   ·rw [e3,if_neg (by simp)] at hR;try (simp)
    repeat (first|(refine sR ?_; simp)|(refine sC ?_; simp)|(refine sX ?_; simp only [AU, ↓reduceIte]))
    refine Stop.of_d (h4 _ _) ?_;simp;cases e4:typG t g
    ·rw [e4,if_pos rfl] at hR;try (simp)
     repeat (first|(refine sR ?_; simp)|(refine sC ?_; simp)|(refine sX ?_; simp only [AU, ↓reduceIte]))
     refine sT (sH hbox htok ?_);simp [packA,hR]
    ·rw [e4,if_neg (by simp)] at hR;try (simp)
     repeat (first|(refine sR ?_; simp)|(refine sC ?_; simp)|(refine sX ?_; simp only [AU, ↓reduceIte]))
     refine sT (sH hbox htok ?_);simp [packA,hR]
 ·rw [if_pos e0] at hR;have b:(E != 0)=true:=by simp [e0]
  try (simp [b])
  repeat (first|(refine sR ?_; simp [b])|(refine sC ?_; simp [b])|(refine sX ?_; simp only [AU, ↓reduceIte]))
  refine sT (sH hbox htok ?_);simp [packA,hR]
theorem opM_nl {t:Ty} {p g:Gr} {inj:Bool}:(allSr t p g inj).Nl true:=by
 constructor
 ·intro _ x hx;exact List.eq_of_mem_replicate hx
 ·intro _ x hx;exact List.eq_of_mem_replicate hx
def QAl (s:Sr) (box:Bxs) (nb:Nat) (tok:Tks) (nt:Nat) (L:List Mo) (v:AV) (m:AMem):Prop :=
 m=⟨box,nb,tok,nt⟩∧(5000<L.length∧v=.tup [.osl 0 [] .full,I 3]∨¬ 5000<L.length∧v=.tup [.d (.sl 2 (mosR L)),I 0])
set_option maxRecDepth 100000 in
theorem allF_c (s:Sr) (h:s.Ok) (h0:tyE s.t=0) (nl:Bool) (hnl:s.Nl nl) (hm:s.most=5000) (tok:Tks) (nt:Nat) :
  ∀ box nb,ACalls Tryz.prog 179 [s.t.av,s.p.av,s.g.av,.agg [.d (ptD nl s.pt.nodes),.d (ptD nl s.pt.edges)],B s.inj] ⟨box,nb,tok,nt⟩ (QAl s box nb tok nt (s.fnR s.p.nodes.length [] [])):=by
 intro box nb;have hf:=s.fnP_fnR h;rw [hm] at hf;have hfo:=foundF_c s h h0 nl hnl 5001 (by omega);have hln:(s.fnP 5001 s.p.nodes.length [] []).length≤5001:=Sr.fnP_len h (by simp)
 rw [←hf];refine sI Tryz.func179 Tryz.ntmps179 fun hbox htok=>?_
 repeat (first|simp|refine sR ?_)
 refine Stop.of_a (hfo _ _ _ _) ?_;rintro v m' ⟨own,tok2,nt2,rfl,rfl,htk⟩;generalize s.fnP 5001 s.p.nodes.length [] []=L at *;by_cases hbig:5000<L.length
 ·have b:decide ((5000:Int)<(L.length:Int))=true:=by simp; omega
  try (simp [b])
  repeat (first|(refine sR ?_; simp [b])|(refine sC ?_; simp [b])|(refine sX ?_; simp only [AU, ↓reduceIte]))
  refine sN ?_;refine AL.ret ?_;try simp only [AU]
  exact ⟨by simp,(Fin.data (av:=.tup [.osl 0 [] .full,I 3]) (by simp [resAs,resA]; rfl) hbox rfl htok htk.old htk.le (by simp [packA])).mono fun v m hq=>⟨hq.2,.inl ⟨hbig,hq.1⟩⟩⟩
 ·have b:decide ((5000:Int)<(L.length:Int))=false:=by simp; omega
  try (simp [b])
  repeat (first|(refine sR ?_; simp [b])|(refine sC ?_; simp [b])|(refine sX ?_; simp only [AU, ↓reduceIte]))
  refine sN ?_;refine AL.ret ?_;try simp only [AU]
  exact ⟨by simp,(Fin.data (av:=.tup [.d (.sl 2 (mosR L)),I 0]) (by simp [resAs,resA]; rfl) hbox rfl htok htk.old htk.le (by simp [packA])).mono fun v m hq=>⟨hq.2,.inr ⟨hbig,hq.1⟩⟩⟩
set_option maxRecDepth 100000 in
theorem allF2_c (t:Ty) (ht:t.Fit) (p g:Gr) (hp:p.Fit) (hg:g.Fit) (inj:Bool) (tok:Tks) (nt:Nat):DCall Tryz.prog 109 [t.av,p.av,g.av,B inj] tok nt (.tup [.d (.sl 2 (mosR (allS t p g inj).1)),I (allS t p g inj).2]) tok nt:=by
 intro box nb;have hv:=validF_c t ht p g hp hg;have main:ACalls Tryz.prog 109 [t.av,p.av,g.av,B inj] ⟨box,nb,tok,nt⟩ fun v m=>(v=.tup [.d (.sl 2 (mosR (allS t p g inj).1)),I (allS t p g inj).2]∨(allS t p g inj).1=[]∧v=.tup [.osl 0 [] .full,I (allS t p g inj).2])∧m=⟨box,nb,tok,nt⟩:=by
  refine sI Tryz.func109 Tryz.ntmps109 fun hbox htok=>?_
  repeat (first|simp|refine sR ?_)
  refine Stop.of_d (hv _ _) ?_;simp;by_cases c1:givS t p g=0
  ·have hok:=allSr_ok (inj:=inj) ht hp hg c1;have h0:tyE t=0:=by
    unfold givS at c1;split at c1
    ·rename_i e; exact absurd c1 e
    ·rename_i e; simpa using e
   have hR:allS t p g inj=if 5000<(allL t p g inj).length then ([],3) else (allL t p g inj,0):=by unfold allS; rw [if_neg (by simp [c1])]
   have hall:=allF_c (allSr t p g inj) hok h0 true opM_nl rfl;have hL:(allSr t p g inj).fnR (allSr t p g inj).p.nodes.length [] []=allL t p g inj:=rfl
   rw [hL] at hall;try (simp [c1])
   repeat (first|(refine sR ?_; simp [c1])|(refine sC ?_; simp [c1])|(refine sX ?_; simp only [AU, ↓reduceIte]))
   refine Stop.sub (args':=[t.av,p.av,g.av,.agg [.d (.raw nilV),.d (.raw nilV)],B inj]) ⟨Sub.refl _,Sub.refl _,Sub.refl _,Sub.agg ⟨Sub.nilv,Sub.nilv,trivial⟩,Sub.refl _,trivial⟩ ?_;refine Stop.of_a (hall _ _ _ _) ?_;generalize allL t p g inj=L at *;rintro v m' ⟨rfl,⟨hb,rfl⟩|⟨hb,rfl⟩⟩
   ·rw [if_pos hb] at hR;try (simp)
    repeat (first|(refine sR ?_; simp)|(refine sC ?_; simp)|(refine sX ?_; simp only [AU, ↓reduceIte]))
    refine sN ?_;refine AL.ret ?_;try simp only [AU]
    exact ⟨by simp,(Fin.data (av:=.tup [.osl 0 [] .full,I 3]) (by simp [resAs,resA]; rfl) hbox rfl htok (fun _ h=>h) (Nat.le_refl _) (by simp [packA])).mono fun v m hq=>⟨.inr ⟨by rw [hR],by rw [hR,hq.1]⟩,hq.2⟩⟩
   ·rw [if_neg hb] at hR;try (simp)
    repeat (first|(refine sR ?_; simp)|(refine sC ?_; simp)|(refine sX ?_; simp only [AU, ↓reduceIte]))
    refine sN ?_;refine AL.ret ?_;try simp only [AU]
    exact ⟨by simp,(Fin.data (av:=.tup [.d (.sl 2 (mosR L)),I 0]) (by simp [resAs,resA]; rfl) hbox rfl htok (fun _ h=>h) (Nat.le_refl _) (by simp [packA])).mono fun v m hq=>⟨.inl (by rw [hR,hq.1]),hq.2⟩⟩
  ·have hR:allS t p g inj=([],givS t p g):=by unfold allS; rw [if_pos c1]
   try (simp [c1])
   repeat (first|(refine sR ?_; simp [c1])|(refine sC ?_; simp [c1])|(refine sX ?_; simp only [AU, ↓reduceIte]))
   refine sN ?_;refine AL.ret ?_;try simp only [AU]
   exact ⟨by simp,(Fin.data (av:=.tup [.osl 0 [] .full,I (givS t p g)]) (by simp [resAs,resA]; rfl) hbox rfl htok (fun _ h=>h) (Nat.le_refl _) (by simp [packA])).mono fun v m hq=>⟨.inr ⟨by rw [hR],by rw [hR,hq.1]⟩,hq.2⟩⟩
 refine main.conv fun v m h=>?_
 obtain ⟨rfl|⟨h1,rfl⟩,rfl⟩:=h
 ·exact ⟨_,_,Conv.refl _ _,rfl,rfl⟩
 ·refine ⟨_,_,Conv.sub (v':=.tup [.d (.sl 2 (mosR (allS t p g inj).1)),I (allS t p g inj).2]) (Sub.tup ⟨?_,Sub.refl _,trivial⟩),rfl,rfl⟩;rw [h1];exact Sub.nil _ _ _
theorem copiedK_c (g:Gr) (hg:g.Fit) (tok:Tks) (nt:Nat):DCall Tryz.prog 127 [g.av] tok nt g.av tok nt:=by
 intro box nb;have h1:=clone_c g.nodes hg.n;have h2:=cloneE_c g.edges hg.e;refine sI Tryz.func127 Tryz.ntmps127 fun hbox htok=>?_
 have htk:=(((TK.start htok).full.app).full.app);repeat (first|simp|refine sR ?_)
 refine Stop.of_d (h1 _ _) ?_;repeat (first|simp|refine sR ?_)
 refine Stop.of_d (h2 _ _) ?_;repeat (first|simp|refine sR ?_)
 refine sT (sG hbox htok htk.old htk.le ?_);simp [packA, ]
theorem existsK_c (m:Mo) (g:Gr) (k:Cd) (hm:m.Fit) (hg:g.Fit) (tok:Tks) (nt:Nat):DCall Tryz.prog 62 [m.av,g.av,k.av] tok nt (xC m g k).av tok nt:=by
 intro box nb;have h1:=clone_c m.nodes hm.n;have h2:=clone_c m.edges hm.e;have h3:=copiedK_c g hg;refine sI Tryz.func62 Tryz.ntmps62 fun hbox htok=>?_
 have htk:=(((TK.start htok).full.app).full.app);repeat (first|simp|refine sR ?_)
 refine Stop.of_d (h1 _ _) ?_;repeat (first|simp|refine sR ?_)
 refine Stop.of_d (h2 _ _) ?_;repeat (first|simp|refine sR ?_)
 refine Stop.of_d (h3 _ _) ?_;repeat (first|simp|refine sR ?_)
 refine sT (sG hbox htok htk.old htk.le ?_);simp [packA,xC,Cd.cells_eq,Cd.kind,Cd.kids,Cd.m,Cd.g,Cd.sl,Cd.vars,Cd.te,conds,slots,tests]
theorem notK_c (k:Cd) (tok:Tks) (nt:Nat):DCall Tryz.prog 61 [k.av] tok nt (cdOf 2 [k]).av tok nt:=by
 intro box nb;refine sI Tryz.func61 Tryz.ntmps61 fun hbox htok=>?_
 repeat (first|simp|refine sR ?_)
 refine sT (sH hbox htok ?_);simp [packA,cdOf,Cd.cells_eq,Cd.kind,Cd.kids,Cd.m,Cd.g,Cd.sl,Cd.vars,Cd.te,conds,ints,AM.edges,slots,tests]
def xCs (l:List Xt):List Cd:=l.map fun x=>xC x.m x.g (cdOf 1 [])
theorem xCs_succ (l:List Xt) {i:Nat} (h:i<l.length):xCs (l.take (i+1))=xCs (l.take i)++[xC l[i].m l[i].g (cdOf 1 [])]:=by
 unfold xCs;rw [←List.take_append_getElem h,List.map_append]; rfl
theorem xCs_len (l:List Xt) (i:Nat):(xCs (l.take i)).length≤i:=by simp [xCs]; omega
theorem shpE_kind {c:Co} (h:shpE c=0):c.kind=1∨c.kind=2:=by
 have h2:=(shpE_zero h).2.1;unfold kdE at h2;split at h2
 ·left; assumption
 ·split at h2
  ·right; assumption
  ·cases h2
def stCk (c:Co) (nb:Nat) (box:Bxs) (x:Acc):AState :=
 ⟨tl [(29,I x.i),(28,I c.exts.length),(27,.d (xts c.exts)),(6,.ptr (nb+6) 0 0),(5,.ptr (nb+5) 0 0),(2,.ptr (nb+2) 0 0),(1,.ptr (nb+1) 0 0)],
  lb nb box [(6,[[I 4,.osl 9 ((xCs (c.exts.take x.i)).map Cd.cells) x.own,nilS,nilS,nilS,nilS,nilS,z0i,nilS]]),(5,[(cdOf 1 []).row]),(1,[c.row]),(2,[[z0i,nilS,nilS,nilS,nilS,nilS,nilS,z0i,nilS]])],x.tok,x.nt⟩
theorem yesSub:Sub (.agg [I 1,nilS,nilS,nilS,nilS,nilS,nilS,z0i,nilS]) (cdOf 1 []).av:=Sub.agg ⟨Sub.refl _,Sub.nil _ _ _,Sub.nil _ _ _,Sub.nil _ _ _,Sub.nil _ _ _,Sub.nil _ _ _,Sub.nil _ _ _,Sub.refl _,Sub.nil _ _ _,trivial⟩
theorem noMoSub:Sub (.agg [nilS,nilS]) (Mo.mk [] []).av:=Sub.agg ⟨Sub.nil _ _ _,Sub.nil _ _ _,trivial⟩
set_option maxRecDepth 100000 in
theorem condK_c (c:Co) (hc:c.Fit) (tok:Tks) (nt:Nat):DCall Tryz.prog 15 [c.av] tok nt (.tup [(condR c).1.av,I (condR c).2]) tok nt:=by
 intro box nb;have h1:=shpK_c c hc;have hv:=@shpE_zero c;have hkd:=@shpE_kind c;have hxn:=hc.n;have h2:=fun k=>existsK_c ⟨[],[]⟩ c.g k fit_nilM hc.g
 have h3:=notK_c;obtain ⟨N,hN⟩:∃ N,condR c=N:=⟨_,rfl⟩
 rw [hN];unfold condR cndC at hN;generalize shpE c=S at *;refine sI Tryz.func15 Tryz.ntmps15 fun hbox htok=>?_
 repeat (first|simp|refine sR ?_)
 refine Stop.of_d (h1 _ _) ?_;repeat (first|simp|refine sR ?_)
 by_cases e1:S=0
 ·rw [if_neg (by simp [e1])] at hN;refine sC ?_;simp [e1];rcases hkd e1 with k|k
  ·rw [if_pos k] at hN;try (simp [k])
   repeat (first|(refine sR ?_; simp [k])|(refine sC ?_; simp [k])|(refine sX ?_; simp only [AU, ↓reduceIte]))
   refine Stop.sub (args':=[(Mo.mk [] []).av,c.g.av,(cdOf 1 []).av]) ⟨noMoSub,Sub.refl _,yesSub,trivial⟩ ?_;refine Stop.of_d (h2 _ _ _) ?_;repeat (first|simp|refine sR ?_)
   refine Stop.of_d (h3 _ _ _) ?_;repeat (first|simp|refine sR ?_)
   refine sT (sH hbox htok ?_);simp [packA,←hN]
  ·rw [if_neg (by rw [k]; decide)] at hN;have hx:=fun x (hx:x∈c.exts)=>existsK_c x.m x.g (cdOf 1 []) (hc.exts x hx).m (hc.exts x hx).g
   have e5:(cdOf 1 []).row=[I 1,.d (conds []),.d (ints []),.d (ints []),.d (ints []),.d (AM.edges []),.d (slots []),z0i,.d (tests [])]:=rfl
   try (simp [k])
   repeat (first|(refine sR ?_; simp [k])|(refine sC ?_; simp [k])|(refine sX ?_; simp only [AU, ↓reduceIte]))
   refine sN ?_;refine AL.loopT (stCk c nb box) (fun x=>x.i≤c.exts.length∧TK tok nt x.tok x.nt [x.own]) (fun x=>c.exts.length - x.i) ⟨0,.full,tok,nt⟩ ⟨Nat.zero_le _,(TK.start htok).full⟩ (Weaks.mk (Nat.le_refl _) rfl (by simp [ToL,lk]) (by simp [BoxL,lk,xCs,e5,conds,ints,AM.edges,slots,tests])) ?_;rintro ⟨i,own,tok',nt'⟩ S ⟨hi,htk⟩ hS;simp only [stCk] at hS hi htk;subst hS;have hw:=sW (i:=i) (by omega);obtain ⟨K,hK⟩:∃ K,xCs (c.exts.take i)=K:=⟨_,rfl⟩
   have hKl:K.length≤i:=by rw [←hK]; exact xCs_len _ _
   rw [hK];repeat (first|simp|refine sR ?_|refine sC ?_)
   refine ⟨fun hlt=>?_,fun hge=>?_⟩
   ·have hxi:=hx _ (List.getElem_mem hlt);have hstep:=xCs_succ c.exts hlt;rw [hK] at hstep;repeat (first|simp [hlt]|refine sR ?_)
    refine Stop.of_d (hxi _ _) ?_;simp;simp only [xC,Cd.av,Cd.row,Cd.kind,Cd.kids,Cd.m,Cd.g,Cd.sl,Cd.vars,Cd.te];repeat (first|simp|refine sR ?_)
    refine ⟨⟨by omega,htk.live⟩,?_⟩;repeat (first|simp [hw]|refine sR ?_)
    refine sE ?_;exact ⟨⟨i+1,_,_,_⟩,⟨hlt,htk.app⟩,by simp only; omega,Weaks.mk htk.app.le rfl (by simp [ToL,lk]) (by simp only [hstep]; simp [BoxL,lk,e5,xC,cdOf,conds,ints,AM.edges,slots,tests,Cd.cells_eq,Cd.kind,Cd.kids,Cd.m,Cd.g,Cd.sl,Cd.vars,Cd.te])⟩
   ·refine sX ?_;simp only [AU, ↓reduceIte];have:i=c.exts.length:=by omega
    subst this;rw [List.take_length] at hK;have hK2:(c.exts.map fun x=>xC x.m x.g (cdOf 1 []))=K:=hK
    rw [hK2] at hN;have e6:(cdOf 4 K).row=[I 4,.d (conds K),.d (ints []),.d (ints []),.d (ints []),.d (AM.edges []),.d (slots []),z0i,.d (tests [])]:=rfl
    refine AL.weak (Weaks.mk (l':=[(6,.ptr (nb+6) 0 0),(2,.ptr (nb+2) 0 0),(1,.ptr (nb+1) 0 0)]) (loc':=[(6,[(cdOf 4 K).row]),(1,[c.row]),(2,[[z0i,nilS,nilS,nilS,nilS,nilS,nilS,z0i,nilS]])]) htk.le rfl (by simp [ToL,lk]) (by simp [BoxL,lk,e6,ints,AM.edges,slots,tests])) ?_;repeat (first|simp|refine sR ?_)
    refine Stop.of_d (h3 (cdOf 4 K) _ _) ?_;repeat (first|simp|refine sR ?_)
    refine Stop.sub (args':=[(Mo.mk [] []).av,c.g.av,(cdOf 2 [cdOf 4 K]).av]) ⟨noMoSub,Sub.refl _,Sub.refl _,trivial⟩ ?_;refine Stop.of_d (h2 _ _ _) ?_;repeat (first|simp|refine sR ?_)
    refine Stop.of_d (h3 _ _ _) ?_;repeat (first|simp|refine sR ?_)
    refine sT (sG hbox htok htk.old htk.le ?_);simp [packA,←hN]
 ·rw [if_pos e1] at hN;have b1:(S != 0)=true:=by simp [e1]
  refine sC ?_;simp [b1];repeat (first|simp|refine sR ?_)
  refine sT (sH hbox htok ?_);simp [packA,←hN,cdOf,conds,ints,AM.edges,slots,tests,Cd.kind,Cd.kids,Cd.m,Cd.g,Cd.sl,Cd.vars,Cd.te]
def vioB (c:Co) (xt:Mo→Bool) (m:Mo):Bool:=if c.kind=1 then true else !xt m
def vioK (c:Co) (xt:Mo→Bool) (l:List Mo) (i:Nat):List Mo:=(l.take i).filter (vioB c xt)
def vioS (t:Ty) (c:Co) (g:Gr) (xt:Mo→Bool):List Mo × Int :=
 if cnE t c≠0 then ([],cnE t c) else if (allS t c.g g true).2≠0 then ([],(allS t c.g g true).2) else ((allS t c.g g true).1.filter (vioB c xt),0)
theorem vioK_succ {c:Co} {xt:Mo→Bool} {l:List Mo} {i:Nat} (h:i<l.length):vioK c xt l (i+1)=vioK c xt l i++if vioB c xt l[i]=true then [l[i]] else []:=by
 unfold vioK;rw [List.take_succ_eq_append_getElem h,List.filter_append];congr 1
 by_cases e:vioB c xt l[i]=true <;> simp [e]
theorem vioK_len (c:Co) (xt:Mo→Bool) (l:List Mo) (i:Nat):(vioK c xt l i).length≤i:=Nat.le_trans (List.length_filter_le _ _) (by simp; omega)
theorem allS_len (t:Ty) (p g:Gr) (inj:Bool):(allS t p g inj).1.length≤5000:=by
 unfold allS;split
 ·simp
 ·split
  ·simp
  ·simp only; omega
end Go.AM
