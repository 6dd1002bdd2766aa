/-
 Parts of the proof, as merged from many texts: a machine over data, what the functions compute, plain laws.
-/
import Derived.Test.YtainalmfffjnjaaGreatDoorPTU13
import Derived.Test.YtainalmfffjnjaaGreatDoorRows
import Derived.LaidMore
import Derived.ChangeBears2
set_option linter.unusedSimpArgs false
set_option linter.unusedVariables false
namespace Go.AM
open Go Go.Proofs Go.ChangeShapes
structure At.Big (a:At):Prop where
 n:a.name.size≤maxLen
 l:a.names.length≤bigN
 s:∀ x∈a.names,x.size≤maxLen
structure NT.Big (x:NT):Prop where
 n:x.name.size≤maxLen
 l:x.own.length≤bigN
 a:∀ y∈x.own,y.Big
structure Ty.Big (t:Ty):Prop where
 n:t.nodes.length≤bigN
 e:t.edges.length≤bigN
 nn:∀ x∈t.nodes,x.Big
 en:∀ x∈t.edges,x.name.size≤maxLen
structure Xt.Big (x:Xt):Prop where
 mn:x.m.nodes.length≤bigN
 me:x.m.edges.length≤bigN
 g:x.g.Big
structure Co.Big (c:Co):Prop where
 name:c.name.size≤maxLen
 g:c.g.Big
 n:c.exts.length≤bigN
 exts:∀ x∈c.exts,x.Big
def Co.rowD (c:Co):List D:=[.raw (.string c.name),.raw (.int .i64 c.kind),ints c.g.nodes,AM.edges c.g.edges,xts c.exts]
theorem rch50:reachBytes=140737488351232:=rfl
structure Qf where
 f:Fo
 l:List Co
abbrev Qf.av (q:Qf):AV:=.agg [I q.f.kind,Sb q.f.name,.d (fos q.f.kids),.d (cosD q.l)]
structure Qf.Big (q:Qf):Prop where
 f:q.f.Sm
 n:q.l.length≤bigN
 l:∀ c∈q.l,c.Big
theorem list2y {α:Type} {l:List α} (h:l.length=2):l=[l[0]'(by omega),l[1]'(by omega)]:=by
 match l,h with
 | [p,q],_=>rfl
def Rdr.arr2 {P:Program} {T A:TypeId} {α:Type} (r:Rdr P A α) (h:P.underlying T=some (.array 2 A)) (hc:P.cellsOf T=P.cellsOf A+P.cellsOf A):Rdr P T (α × α) where
 enc x:=r.enc x.1++r.enc x.2
 ok x:=r.ok x.1∧r.ok x.2
 len x:=by simp [r.len,hc]
 sound e w base spare held fuel cs x hx:=by
  obtain ⟨xs,n,rfl,rfl,hl,hxs,hat⟩:=DataW.trod_array h hx;have g0:=hat 0 (by decide);have g1:=hat 1 (by decide);have e0:xs[0]?=some (xs[0]'(by omega)):=List.getElem?_eq_getElem (by omega)
  have e1:xs[1]?=some (xs[1]'(by omega)):=List.getElem?_eq_getElem (by omega)
  rw [e0,Nat.zero_mul] at g0;rw [e1,Nat.one_mul] at g1;obtain ⟨y,k1,k2⟩:=r.sound e w base spare held n _ _ g0;obtain ⟨z,m1,m2⟩:=r.sound e w base spare held n _ _ g1;refine ⟨(y,z),?_,fun hli=>?_⟩
  rotate_left
  ·unfold Light at hli k2 m2;have e2:xs=[xs[0]'(by omega),xs[1]'(by omega)]:=list2y hxs
   rw [e2] at hli;simp only [List.map_cons,List.map_nil,DataW.weights,h,DataW.weightsAll,List.all_append,Bool.and_eq_true] at hli;exact ⟨k2 hli.1,m2 hli.2.1⟩
  have hcs:cs=(cs.drop 0).take (P.cellsOf A)++(cs.drop (P.cellsOf A)).take (P.cellsOf A):=by
   have:(cs.drop (P.cellsOf A)).take (P.cellsOf A)=cs.drop (P.cellsOf A):=List.take_of_length_le (by simp; omega)
   rw [this,List.drop_zero,List.take_append_drop]
  rw [hcs];exact k1.append m1
def rdB2:Rdr Tryz.prog 169 (Int × Int):=rdB.arr2 Tryz.underlying169 (by kernel_rfl)
def rdB2s:Rdr Tryz.prog 67 (List (Int × Int)):=rdB2.sliceN 2 Tryz.underlying67 (by kernel_rfl) (by kernel_rfl)
def rdDr50:Rdr Tryz.prog 69 (List Int × List (Int × Int)):=Rdr.struct2 rdBs rdB2s Tryz.underlying69 rfl rfl rfl (by kernel_rfl) (by kernel_rfl)
structure Dr50 where
 cs:List Int
 ar:List (Int × Int)
structure Dr50.Big (d:Dr50):Prop where
 cs:U8s d.cs
 ar:∀ a∈d.ar,(0≤a.1∧a.1<256)∧0≤a.2∧a.2<256
 n:d.cs.length≤200000000000000
 m:d.ar.length≤200000000000000
abbrev Dr50.av (d:Dr50):AV:=.agg [.d (bytes d.cs),.d (prU d.ar)]
theorem by_u81:Tryz.prog.bytesOf 5=1:=by kernel_rfl
theorem by_u82:Tryz.prog.bytesOf 169=2:=by kernel_rfl
set_option maxRecDepth 100000 in
theorem arg_draft50 {ps:Array TypeId} {args:Array Value} {W:World} {base base':Nat} {sp:Nat→Bool} {held:Bool} {H:Type} {enc:TypeId × Value→H} (hval:∀ (j:Nat) t v,ps[j]?=some t→args[j]?=some v→Value.okWide Tryz.prog W .any base t v)
  (j:Nat) (v:Value) (hp:ps[j]?=some 69) (ha:args[j]?=some v) {d:DataW H} {p:List MemPlace} (h:DataW.Trod enc Tryz.prog W base' sp held 69 v d p) (hli:Light Tryz.prog 69 d):∃ x:Dr50,x.Big∧RV G0 W x.av v:=by
 refine Exists.elim (arg_agg hval j 69 v hp ha rdDr50 aggT_69 h hli) fun x hx=>⟨⟨x.1,x.2⟩,?_,hx.2⟩
 obtain ⟨⟨h1,h2⟩,h3,h4⟩:=hx.1;have h2:x.1.length * Tryz.prog.bytesOf 5≤reachBytes:=h2
 have h4:x.2.length * Tryz.prog.bytesOf 169≤reachBytes:=h4
 rw [by_u81,rch50] at h2;rw [by_u82,rch50] at h4;exact ⟨fun c hc=>rdB_ok (h1 c hc),fun a ha=>⟨rdB_ok (h3 a ha).1,rdB_ok (h3 a ha).2⟩,by show x.1.length≤_; omega,by show x.2.length≤_; omega⟩
set_option maxRecDepth 100000 in
theorem arg_codes50 {ps:Array TypeId} {args:Array Value} {W:World} {base base':Nat} {sp:Nat→Bool} {held:Bool} {H:Type} {enc:TypeId × Value→H} (hval:∀ (j:Nat) t v,ps[j]?=some t→args[j]?=some v→Value.okWide Tryz.prog W .any base t v)
  (j:Nat) (v:Value) (hp:ps[j]?=some 66) (ha:args[j]?=some v) {d:DataW H} {p:List MemPlace} (h:DataW.Trod enc Tryz.prog W base' sp held 66 v d p) (hli:Light Tryz.prog 66 d):∃ l:List Int,(U8s l∧l.length≤200000000000000)∧RV G0 W (.d (bytes l)) v:=by
 refine Exists.elim (arg_cell hval j 66 v hp ha rdBs (fun l=>bytes l) aggT_66 (fun _=>rfl) h hli) fun l hl=>⟨l,?_,hl.2⟩
 have h2:l.length * Tryz.prog.bytesOf 5≤reachBytes:=hl.1.2
 rw [by_u81,rch50] at h2;exact ⟨rdBs_ok hl.1,by omega⟩
end Go.AM
namespace Go.Proofs.YtainalmfffjnjaaGreatDoor
open Go Go.AM Go.ChangeShapes
theorem str_of {P:Program} {T:TypeId} (hT:P.underlying T=some .string) {w:World} {base fuel:Nat} {sp:Nat→Bool} {held:Bool} {H:Type} {enc:TypeId × Value→H} {v:Value} {bs:List UInt8} {q:List MemPlace} (h:DataW.trod enc P w base sp held fuel T [v]=some (.lit (.string bs),q)):v=.string ⟨bs.toArray⟩:=by
 cases fuel with
 | zero=>simp [DataW.trod] at h
 | succ n =>
  unfold DataW.trod at h;rw [hT] at h;cases v <;> simp at h
  rw [←h.2.1]
theorem words_ds:(Rows.laid_scarfjoint_temporal_words:DataW Unit)=.slice (wordsL.map fun s=>.lit (.string s.data.toList)) []:=by
 unfold Rows.laid_scarfjoint_temporal_words wordsL;rfl
theorem words_glob {W:World} (h:laidMetH Tryz.prog [("scarfjoint/temporal.words",Rows.laid_scarfjoint_temporal_words)] W):GlobOk G0 W:=by
 obtain ⟨ps,⟨g,t,cs,fuel,p,q,hg,ht,hv,htr,hq,hps⟩,hnd,hcell⟩:=(show laidMet Tryz.prog [("scarfjoint/temporal.words",Rows.laid_scarfjoint_temporal_words)] W from h);obtain rfl:1=g:=Option.some.inj ((show Tryz.prog.globalNamed "scarfjoint/temporal.words" = some 1 by kernel_rfl).symm.trans hg);obtain rfl:130=t:=Option.some.inj ((show (Tryz.prog.globals[1]?).map (·.type)=some 130 by kernel_rfl).symm.trans ht);rw [words_ds] at htr;obtain ⟨a,cap,hcs,hcap,hel⟩:=open_row Tryz.underlying130 (by kernel_rfl) htr;have hmax:cap≤maxLen:=by
  rcases DataW.trod_slice Tryz.underlying130 htr with ⟨_,hx⟩|⟨a',len,cap',elems,rest,n,_,hcs',hx,_,_,hm,_,_,_,_⟩
  ·simp at hx
  ·rw [hcs] at hcs';simp only [List.cons.injEq,Value.slice.injEq,and_true] at hcs';omega
 have hc0:W.cell? ⟨1,0,none⟩=some (.slice (some a) 10 cap):=by
  rw [var?_cell hg hv 0,←Array.getElem?_toList,hcs];rfl
 have hc1:∀ i (hi:i<wordsL.length),W.cell? (a.add i)=some (.string wordsL[i]):=fun i hi=>by
  obtain ⟨v,n,q,h1,h2⟩:=hel i _ (by rw [List.getElem?_map,List.getElem?_eq_getElem hi]; rfl);rw [h1,str_of Tryz.underlying9 h2]
 intro g cs' hgd;unfold globD at hgd;split at hgd
 ·rename_i e;subst e;cases hgd;refine ⟨fun _=>.slice (some a) 10 cap,fun j hj=>⟨G0_ps _,?_⟩,fun j hj=>?_⟩
  ·have:j=0:=by simp at hj; omega
   subst this;exact hc0
  ·have:j=0:=by simp at hj; omega
   subst this;refine RVd.sl (es:=wordsL.map fun s=>[.raw (.string s)]) (fun i _=>.string (wordsL.getD i ⟨#[]⟩)) hcap hmax ?_ (fun _=>⟨a,rfl⟩) ?_ ?_
   ·intro e he;obtain ⟨s,_,rfl⟩:=List.mem_map.1 he;rfl
   ·intro b hb i j hi hj;cases hb;have:j=0:=by omega
    subst this;have hi2:i<wordsL.length:=by simpa using hi
    refine ⟨G0_ps _,?_⟩;rw [Nat.mul_one,Nat.add_zero,hc1 i hi2];simp [hi2]
   ·intro i j hi hj;have hi2:i<wordsL.length:=by simpa using hi
    have:j=0:=by simp at hj; omega
    subst this;simp only [List.getElem_map,List.getElem_cons_zero];rw [show wordsL.getD i ⟨#[]⟩=wordsL[i] by simp [hi2]];exact .raw rfl
 ·cases hgd
end Go.Proofs.YtainalmfffjnjaaGreatDoor
namespace Go.AM
open Go Go.Proofs
theorem endN_pre (nx:List (List Int)) (inn:List Bool):∀ (n:Nat) (a:Int) (p:List Int),∃ r,endN nx inn n a p=p++r
 | 0,a,p=>⟨[],by simp [endN]⟩
 | n+1,a,p=>by
  rw [endN];split
  ·exact ⟨[endS nx inn a],rfl⟩
  ·obtain ⟨r,hr⟩:=endN_pre nx inn n (endS nx inn a) (p++[endS nx inn a]);exact ⟨[endS nx inn a]++r,by rw [hr,List.append_assoc]⟩
theorem pthN_pre (nx:List (List Int)) (far:List Int):∀ (n:Nat) (a:Int) (p:List Int),∃ r,pthN nx far n a p=p++r
 | 0,a,p=>⟨[],by simp [pthN]⟩
 | n+1,a,p=>by
  rw [pthN];obtain ⟨r,hr⟩:=pthN_pre nx far n (pthS nx far a) (p++[pthS nx far a]);exact ⟨[pthS nx far a]++r,by rw [hr,List.append_assoc]⟩
structure PathB (b:Bool) (l:List Int):Prop where
 no:b=false→l=[]
 yes:b=true→∃ r,l=0::r
theorem endR_b (m:Mdl) (thr:List Bool):PathB (at_ (alwaysR m.next thr) 0) (endR m thr):=by
 unfold endR;constructor
 ·intro h;rw [if_neg];rw [show (alwaysR m.next thr).getD 0 false=false from h];decide
 ·intro h;rw [if_pos h];obtain ⟨r,hr⟩:=endN_pre m.next (alwaysR m.next thr) m.next.length 0 [0];exact ⟨r,hr⟩
def nnB (far:List Int):List Bool:=far.map fun v=>decide (0≤v)
theorem nnB_len (far:List Int):(nnB far).length=far.length:=by simp [nnB]
theorem nnB_at {far:List Int} {k:Int} {n:Nat} (hn:far.length=n) (h:inR n k):(nnB far).getD k.toNat false=decide (0≤fAt far k):=by
 obtain ⟨h1,h2⟩:=h;have h3:k.toNat<far.length:=by omega
 simp [nnB,fAt,h3]
theorem nnB_set (far:List Int) (i:Nat) {v:Int} (hv:0≤v):nnB (far.set i v)=(nnB far).set i true:=by
 simp [nnB,List.map_set,hv]
theorem nnB_far0 (g:List Bool):nnB (far0 g)=g:=by
 unfold nnB far0;rw [List.map_map];refine (List.map_congr_left (g:=id) fun b _=>?_).trans (List.map_id g);cases b <;> rfl
theorem farS_b {n:Nat} {thr:List Bool} {k i:Int} {s:List Int × List Int} (hn:s.1.length=n) (hi:inR n i) (h0:0≤fAt s.1 k):(nnB (farS thr k s i).1,(farS thr k s i).2)=bfsS thr (nnB s.1,s.2) i:=by
 unfold farS bfsS;have hb:=nnB_at hn hi;by_cases h:fAt s.1 i<0∧thr.getD i.toNat false=true
 ·rw [if_pos h,if_pos ⟨by rw [show ((nnB s.1,s.2):List Bool × List Int).1=nnB s.1 from rfl,hb,decide_eq_false]; omega,h.2⟩];simp only;rw [nnB_set _ _ (by omega)]
 ·rw [if_neg h,if_neg];rintro ⟨h1,h2⟩;rw [show ((nnB s.1,s.2):List Bool × List Int).1=nnB s.1 from rfl,hb] at h1;have:=of_decide_eq_false h1
  exact h ⟨by omega,h2⟩
theorem farF_b {n:Nat} {nx:List (List Int)} {thr:List Bool} {k:Int} (hk:inR n k):∀ (r:List Int) (s:List Int × List Int),FarI n nx s→0≤fAt s.1 k→(∀ i∈r,inR n i∧k∈nx.getD i.toNat []) →
  (nnB (r.foldl (farS thr k) s).1,(r.foldl (farS thr k) s).2)=r.foldl (bfsS thr) (nnB s.1,s.2)
 | [],s,_,_,_=>rfl
 | i::r,s,h,h0,hr=>by
  obtain ⟨e1,e2⟩:=hr i (by simp);obtain ⟨k1,_,k3⟩:=farS_i (thr:=thr) h hk h0 e1 e2;rw [List.foldl_cons,List.foldl_cons,←farS_b h.len e1 h0];exact farF_b hk r _ k1 k3 fun j hj=>hr j (by simp [hj])
theorem farN_b {n:Nat} {nx pv:List (List Int)} {thr:List Bool} (hcv:∀ k,inR n k→∀ i∈pv.getD k.toNat [],inR n i∧k∈nx.getD i.toNat []):∀ (F:Nat) (far q:List Int),FarI n nx (far,q)→nnB (farN pv thr F far q)=bfs pv thr F (nnB far) q
 | F,far,[],_=>by rw [farN_nil,bfs_nil]
 | 0,far,k::q,_=>rfl
 | F+1,far,k::q,h=>by
  obtain ⟨hk,hk0⟩:=h.q k (by simp);have ht:FarI n nx (far,q):=h.tail
  have hb:=farF_b (thr:=thr) hk (pv.getD k.toNat []) (far,q) ht hk0 (hcv k hk);obtain ⟨hi,_⟩:=farF_i (thr:=thr) hk (pv.getD k.toNat []) (far,q) ht hk0 (hcv k hk);rw [farN,bfs,←hb];exact farN_b hcv F _ _ hi
theorem farR_b {m:Mdl} {n:Nat} (hm:m.Ok n) (hcv:∀ k,inR n k→∀ i∈m.prev.getD k.toNat [],k∈m.next.getD i.toNat []) {thr g:List Bool} (hg:g.length=n):nnB (farR m thr g)=untilR m.prev thr g:=by
 unfold farR untilR;have hI:=far0_i g m.next;rw [hg] at hI;rw [farN_b (n:=n) (nx:=m.next) (fun k hk i hi=>⟨gtD_mem hm.prevR i hi,hcv k hk i hi⟩) _ _ _ hI,nnB_far0]
theorem shortR_b {m:Mdl} {n:Nat} (hm:m.Ok n) (hcv:∀ k,inR n k→∀ i∈m.prev.getD k.toNat [],k∈m.next.getD i.toNat []) {thr g:List Bool} (hg:g.length=n):PathB (at_ (untilR m.prev thr g) 0) (shortR m thr g):=by
 have hb:=farR_b hm hcv (thr:=thr) hg;have hl:(farR m thr g).length=n:=by rw [←nnB_len,hb,until_len (by rw [hg]; exact hm.prevR),hg]
 have h0:=nnB_at hl (k:=0) ⟨Int.le_refl _,by have:=hm.pos; omega⟩;rw [hb] at h0;have h0:at_ (untilR m.prev thr g) 0=decide (0≤fAt (farR m thr g) 0):=h0
 unfold shortR;constructor
 ·intro h;rw [h0] at h;have:=of_decide_eq_false h
  rw [if_pos (by omega)]
 ·intro h;rw [h0] at h;have:=of_decide_eq_true h
  rw [if_neg (by omega)];obtain ⟨r,hr⟩:=pthN_pre m.next (farR m thr g) (fAt (farR m thr g) 0).toNat 0 [0];exact ⟨r,hr⟩
theorem alw_great {nx:List (List Int)} {f:List Bool} (P:Nat→Prop) (hl:f.length=nx.length) (hp:∀ i,P i→i<nx.length∧∃ k:Int,k∈nx.getD i []∧P k.toNat):∀ (F:Nat) (out:List Bool),out.length=nx.length→(∀ i,P i→at_ out i=true)→∀ i,P i→at_ (alwN nx F out) i=true
 | 0,out,_,ho,i,hi=>ho i hi
 | F+1,out,hol,ho,i,hi=>by
  rw [alwN];split
  ·exact ho i hi
  ·refine alw_great P hl hp F _ (by rw [alwSq_len hol,hol]) (fun j hj=>?_) i hi;obtain ⟨h1,k,hk,hk2⟩:=hp j hj;rw [at_alwS (by omega) h1,ho j hj,at_some h1,Bool.true_and];exact List.any_eq_true.2 ⟨k,hk,ho _ hk2⟩
structure RkT (n:Nat) (nx:List (List Int)) (l A:List Bool) (o:List Int):Prop where
 len:o.length=n
 lo:∀ i,i<n → -1≤o.getD i 0
 up:∀ i,i<n→0<o.getD i 0→∀ k∈nx.getD i [],0≤fAt o k∧fAt o k<o.getD i 0
 off:∀ i,i<n→0≤o.getD i 0→at_ A i=false
 on:∀ i,i<n→at_ l i=true→0≤o.getD i 0
theorem rkF_max {n:Nat} {i:Nat} (hi:i<n):∀ (r:List Int) (o:List Int),o.length=n→(∀ k∈r,inR n k∧k.toNat≠i) →
  (r.foldl (rankK i) o).length=n∧(∀ k,k≠i→(r.foldl (rankK i) o).getD k 0=o.getD k 0)∧o.getD i 0≤(r.foldl (rankK i) o).getD i 0∧∀ k∈r,fAt o k+1≤(r.foldl (rankK i) o).getD i 0
 | [],o,h,_=>⟨h,fun _ _=>rfl,Int.le_refl _,fun k hk=>by simp at hk⟩
 | x::r,o,h,hr=>by
  obtain ⟨hx,hxi⟩:=hr x (by simp);have hil:i<o.length:=by omega
  obtain ⟨e1,e2,e3,e4⟩:=rkF_max hi r (rankK i o x) (by simp [rankK,h]) fun k hk=>hr k (by simp [hk])
  have g1:(rankK i o x).getD i 0=max (o.getD i 0) (fAt o x+1):=by unfold rankK; rw [getD_set_eq hil]
  have g2:∀ k,k≠i→(rankK i o x).getD k 0=o.getD k 0:=fun k hk=>by unfold rankK; rw [getD_set_ne hk]
  rw [List.foldl_cons];refine ⟨e1,fun k hk=>(e2 k hk).trans (g2 k hk),by omega,fun k hk=>?_⟩;rcases List.mem_cons.1 hk with rfl|hk
  ·omega
  ·have h1:=e4 k hk;have h2:fAt (rankK i o x) k=fAt o k:=g2 k.toNat (hr k (by simp [hk])).2
   omega
theorem rkS_t {n:Nat} {nx:List (List Int)} {l A:List Bool} (hn:nx.length=n) (hnr:∀ r∈nx,∀ k∈r,inR n k) (hne:∀ r∈nx,r≠[]) (hA:∀ i,i<n→at_ A i=true→at_ (someR nx A) i=true) {o:List Int} (h:RkT n nx l A o) {i:Nat} (hi:i<n):RkT n nx l A (rkS nx o i)∧(rkS nx o i=o∨negs (rkS nx o i)+1=negs o)∧(rkS nx o i=o→0≤o.getD i 0∨∃ k∈nx.getD i [],fAt o k<0):=by
 unfold rkS;by_cases hc:0≤o.getD i 0∨((nx.getD i []).any fun k=>decide (fAt o k<0))=true
 ·rw [if_pos hc];refine ⟨h,.inl rfl,fun _=>?_⟩;rcases hc with hc|hc
  ·exact .inl hc
  ·obtain ⟨k,h1,h2⟩:=List.any_eq_true.1 hc;exact .inr ⟨k,h1,of_decide_eq_true h2⟩
 ·rw [if_neg hc];have hneg:o.getD i 0<0:=by omega
  have hall:∀ k∈nx.getD i [],0≤fAt o k:=fun k hk=>by
   refine Int.not_lt.1 fun hlt=>hc (.inr (List.any_eq_true.2 ⟨k,hk,decide_eq_true hlt⟩))
  have hin:∀ k∈nx.getD i [],inR n k:=gtD_mem hnr
  have hki:∀ k∈nx.getD i [],k.toNat≠i:=fun k hk e=>by have:=hall k hk; unfold fAt at this; rw [e] at this; omega
  obtain ⟨e1,e2,e3,e4⟩:=rkF_max hi (nx.getD i []) o h.len fun k hk=>⟨hin k hk,hki k hk⟩
  have hnei:nx.getD i []≠[]:=by
   have:nx.getD i []=nx[i]:=by simp [show i<nx.length by omega]
   rw [this];exact hne _ (List.getElem_mem _)
  obtain ⟨k0,hk0⟩:∃ k,k∈nx.getD i []:=List.exists_mem_of_ne_nil _ hnei
  have hpos:1≤((nx.getD i []).foldl (rankK i) o).getD i 0:=by have:=e4 k0 hk0; have:=hall k0 hk0; omega
  generalize (nx.getD i []).foldl (rankK i) o=o2 at *;have hf:∀ k:Int,k.toNat≠i→fAt o2 k=fAt o k:=fun k hk=>e2 k.toNat hk
  refine ⟨⟨e1,fun j hj=>?_,fun j hj hj0 k hk=>?_,fun j hj hj0=>?_,fun j hj hl=>?_⟩,.inr ?_,fun he=>?_⟩
  ·by_cases e:j=i
   ·subst e; omega
   ·rw [e2 j e]; exact h.lo j hj
  ·by_cases e:j=i
   ·subst e;rw [hf k (hki k hk)];exact ⟨hall k hk,by have:=e4 k hk; omega⟩
   ·rw [e2 j e] at hj0 ⊢;obtain ⟨u1,u2⟩:=h.up j hj hj0 k hk;have:k.toNat≠i:=fun e5=>by unfold fAt at u1; rw [e5] at u1; omega
    rw [hf k this];exact ⟨u1,u2⟩
  ·by_cases e:j=i
   ·subst e;rw [Bool.eq_false_iff];intro hAt;have:=hA j hj hAt
    rw [at_some (by omega)] at this;obtain ⟨k,hk,hk2⟩:=List.any_eq_true.1 this;have hr:=hin k hk;have:=h.off k.toNat (by have:=hr.1; have:=hr.2; omega) (hall k hk)
    rw [this] at hk2;cases hk2
   ·rw [e2 j e] at hj0;exact h.off j hj hj0
  ·by_cases e:j=i
   ·subst e; omega
   ·rw [e2 j e]; exact h.on j hj hl
  ·exact negs_ext (a:=o) (b:=o2) (i:=i) (by rw [h.len,e1]) (by rw [h.len]; exact hi) (fun k _ hne=>e2 k hne) hneg (by omega)
  ·rw [he] at hpos; omega
theorem rkP_t {n:Nat} {nx:List (List Int)} {l A:List Bool} (hn:nx.length=n) (hnr:∀ r∈nx,∀ k∈r,inR n k) (hne:∀ r∈nx,r≠[]) (hA:∀ i,i<n→at_ A i=true→at_ (someR nx A) i=true) {o:List Int} (h:RkT n nx l A o):∀ i,i≤n→RkT n nx l A (rkP nx o i)∧(rkP nx o i=o∨negs (rkP nx o i)<negs o)
 | 0,_=>⟨h,.inl rfl⟩
 | i+1,hi=>by
  obtain ⟨h1,h2⟩:=rkP_t hn hnr hne hA h i (by omega);obtain ⟨k1,k2,_⟩:=rkS_t hn hnr hne hA h1 (i:=i) (by omega);rw [rkP_succ];refine ⟨k1,?_⟩;rcases k2 with k2|k2
  ·rw [k2]; exact h2
  ·rcases h2 with h2|h2
   ·rw [h2] at k2 ⊢; exact .inr (by omega)
   ·exact .inr (by omega)
theorem rkP_fix {n:Nat} {nx:List (List Int)} {l A:List Bool} (hn:nx.length=n) (hnr:∀ r∈nx,∀ k∈r,inR n k) (hne:∀ r∈nx,r≠[]) (hA:∀ i,i<n→at_ A i=true→at_ (someR nx A) i=true) {o:List Int} (h:RkT n nx l A o):∀ i,i≤n→rkP nx o i=o→∀ j,j<i→0≤o.getD j 0∨∃ k∈nx.getD j [],fAt o k<0
 | 0,_,_,j,hj=>by omega
 | i+1,hi,he,j,hj=>by
  obtain ⟨h1,h2⟩:=rkP_t hn hnr hne hA h i (by omega);obtain ⟨k1,k2,k3⟩:=rkS_t hn hnr hne hA h1 (i:=i) (by omega);rw [rkP_succ] at he;have hp:rkP nx o i=o:=by
   rcases h2 with h2|h2
   ·exact h2
   ·rw [he] at k2;rcases k2 with k2|k2
    ·exact k2.symm
    ·omega
  rw [hp] at k3 he;by_cases e:j=i
  ·subst e; exact k3 he
  ·exact rkP_fix hn hnr hne hA h i (by omega) hp j (by omega)
theorem rkN_t {n:Nat} {nx:List (List Int)} {l A:List Bool} (hn:nx.length=n) (hnr:∀ r∈nx,∀ k∈r,inR n k) (hne:∀ r∈nx,r≠[]) (hA:∀ i,i<n→at_ A i=true→at_ (someR nx A) i=true):∀ (F:Nat) (o:List Int),negs o<F→RkT n nx l A o→RkT n nx l A (rkN nx F o)∧∀ j,j<n→0≤(rkN nx F o).getD j 0∨∃ k∈nx.getD j [],fAt (rkN nx F o) k<0
 | 0,o,hF,_=>by omega
 | F+1,o,hF,h=>by
  rw [rkN];have hl:=h.len;split
  ·rename_i he;rw [hl] at he;exact ⟨h,rkP_fix hn hnr hne hA h n (Nat.le_refl _) he⟩
  ·rename_i he;rw [hl] at he ⊢;obtain ⟨h1,h2⟩:=rkP_t hn hnr hne hA h n (Nat.le_refl _);exact rkN_t hn hnr hne hA F _ (by rcases h2 with h2|h2; exact absurd h2 he; omega) h1
structure RkShow (n:Nat) (nx:List (List Int)) (af:List Bool) (o:List Int):Prop where
 len:o.length=n
 iff:∀ i,i<n→decide (0≤o.getD i 0)=at_ af i
 down:∀ i,i<n→0<o.getD i 0→∀ k∈nx.getD i [],fAt o k<o.getD i 0
theorem rank_show {m:Mdl} {n:Nat} (hm:m.Ok n) (hne:∀ r∈m.next,r≠[]) {l:List Bool} (hl:l.length=n):RkShow n m.next (notR (alwaysR m.next (notR l))) (rankR m l):=by
 obtain ⟨ha1,ha2⟩:=always_fix (f:=notR l) (by rw [notR_len]; exact hl) hm.next hm.nextR;have hA:∀ i,i<n→at_ (alwaysR m.next (notR l)) i=true→at_ (someR m.next (alwaysR m.next (notR l))) i=true:=fun i hi h=>by
  rw [ha2 i hi] at h;exact (Bool.and_eq_true_iff.1 h).2
 have g0:∀ i,i<n→(far0 l).getD i 0=if at_ l i=true then 0 else -1:=fun i hi=>by
  have:=fAt_far0 (g:=l) (i:=(i:Int)) ⟨by omega,by omega⟩
  simpa [fAt] using this
 have h0:RkT n m.next l (alwaysR m.next (notR l)) (far0 l):=by
  refine ⟨by simp [far0,hl],fun i hi=>?_,fun i hi h=>?_,fun i hi h=>?_,fun i hi h=>?_⟩
  ·rw [g0 i hi]; split <;> omega
  ·rw [g0 i hi] at h; split at h <;> omega
  ·rw [g0 i hi] at h;split at h
   ·rename_i hli;rw [ha2 i hi,at_not (by omega),hli];rfl
   ·omega
  ·rw [g0 i hi,if_pos h]; exact Int.le_refl _
 obtain ⟨h1,h2⟩:=rkN_t hm.next hm.nextR hne hA (negs (far0 l)+1) (far0 l) (Nat.lt_succ_self _) h0;have e:rankR m l=rkN m.next (negs (far0 l)+1) (far0 l):=rfl
 rw [e];generalize rkN m.next (negs (far0 l)+1) (far0 l)=R at *;refine ⟨h1.len,fun i hi=>?_,fun i hi h k hk=>(h1.up i hi h k hk).2⟩;rw [at_not (by omega)];by_cases hp:0≤R.getD i 0
 ·rw [decide_eq_true hp,h1.off i hi hp];rfl
 ·rw [decide_eq_false hp];have hg:at_ (alwaysR m.next (notR l)) i=true:=by
   refine alw_great (f:=notR l) (fun j=>j<n∧R.getD j 0<0) (by rw [notR_len,hl,hm.next]) (fun j hj=>?_) _ _ (by rw [notR_len,hl,hm.next]) (fun j hj=>?_) i ⟨hi,by omega⟩
   ·obtain ⟨hj1,hj2⟩:=hj;refine ⟨by rw [hm.next]; exact hj1,?_⟩;rcases h2 j hj1 with h3|⟨k,hk,hk2⟩
    ·omega
    ·have hr:=gtD_mem hm.nextR k hk;exact ⟨k,hk,by have:=hr.1; have:=hr.2; omega,hk2⟩
   ·obtain ⟨hj1,hj2⟩:=hj;rw [at_not (by omega)];cases hb:at_ l j
    ·rfl
    ·have:=h1.on j hj1 hb
     omega
  rw [hg];rfl
theorem arS_keep {N:List (List Int)} {a:Int × Int} {i:Nat} {k:Int} (h:k∈N.getD i []):k∈(arS N a).getD i []:=by
 unfold arS;split
 ·exact h
 ·by_cases e:a.1.toNat=i
  ·subst e;by_cases hi:a.1.toNat<N.length
   ·have:(N.set a.1.toNat (N.getD a.1.toNat []++[a.2])).getD a.1.toNat []=N.getD a.1.toNat []++[a.2]:=by simp [hi]
    rw [this];exact List.mem_append_left _ h
   ·have:N.getD a.1.toNat []=[]:=by rw [List.getD_eq_getElem?_getD,List.getElem?_eq_none (by omega)]; rfl
    rw [this] at h;simp at h
  ·have:(N.set a.1.toNat (N.getD a.1.toNat []++[a.2])).getD i []=N.getD i []:=by simp [List.getElem?_set_ne e]
   rw [this];exact h
theorem arS_new {n:Nat} {N:List (List Int)} {a:Int × Int} (hl:N.length=n) (h1:inR n a.1):a.2∈(arS N a).getD a.1.toNat []:=by
 obtain ⟨g1,g2⟩:=h1;have hi:a.1.toNat<N.length:=by omega
 unfold arS;split
 ·rename_i h;exact of_decide_eq_true h
 ·have:(N.set a.1.toNat (N.getD a.1.toNat []++[a.2])).getD a.1.toNat []=N.getD a.1.toNat []++[a.2]:=by simp [hi]
  rw [this];simp
theorem arP_mem {n:Nat} {A:List (Int × Int)} (hA:∀ a∈A,inR n a.1∧inR n a.2):∀ i,i≤A.length→∀ (j:Nat) (h:j<A.length),j<i→A[j].2∈(arP n A i).getD A[j].1.toNat []
 | 0,_,j,h,hj=>by omega
 | i+1,hi,j,h,hj=>by
  rw [arP_succ hi];by_cases e:j=i
  ·subst e;exact arS_new (arP_ok hA j (by omega)).len (hA _ (List.getElem_mem h)).1
  ·exact arS_keep (arP_mem hA i (by omega) j h (by omega))
theorem nxR_mem {N:List (List Int)} {i:Nat} {k:Int} (h:k∈N.getD i []):k∈(nxR N).getD i []:=by
 by_cases hi:i<N.length
 ·have hi2:i<(nxR N).length:=by simpa using hi
  have e1:N.getD i []=N[i]:=by simp [hi]
  have e2:(nxR N).getD i []=(nxR N)[i]:=by rw [List.getD_eq_getElem?_getD,List.getElem?_eq_getElem hi2]; rfl
  rw [e1] at h;rw [e2,nxR_at hi];unfold nx1;rw [mem_sortI];unfold nx0;rw [if_neg (fun e=>by rw [e] at h; simp at h)];exact h
 ·have:N.getD i []=[]:=by rw [List.getD_eq_getElem?_getD,List.getElem?_eq_none (by omega)]; rfl
  rw [this] at h;simp at h
def exB (k:Int):Bool:=!(k==11)&&!(k==10)
abbrev mdA (cs:List Int) (ar:List (Int × Int)) (x:Fo):List AV:=[tyT.av,spV (spS cs (spN cs)) (spA (spN cs) ar (min ar.length 30)),x.av,.d (cosD cosT)]
structure ShP (cs:List Int) (ar:List (Int × Int)) (x:Fo) (V:List Bool) (v:AV):Prop where
 a:∀ tok nt,DCall Tryz.prog 35 (mdA cs ar x) tok nt (.tup [.d (bools V),I 0]) tok nt
 b:∀ tok nt,DCall Tryz.prog 39 (mdA cs ar x) tok nt v tok nt
 len:V.length=spN cs
 v:(v=.tup [.osl 0 [] .full,B false,I 10]∧at_ V 0=!exB x.kind)∨∃ r,v=.tup [.d (ints (0::r)),B (exB x.kind),I 0]∧at_ V 0=exB x.kind
theorem sh_of (cs:List Int) (ar:List (Int × Int)) {x:Fo} (h:FmP 40 8 x) {q:Qn} (hq:askR (mdD cs ar x) x=some q) {b:Bool} (hb:PathB b (pathQ (mdD cs ar x) q)) (hv:q.verdict=exB x.kind) (hV:at_ (x.holds (mdD cs ar x)) 0=(b==exB x.kind)):∃ V v,ShP cs ar x V v:=by
 obtain ⟨h1,_⟩:=mdD_g cs ar h;have hs:=h.size;have hg:=given50_c tyT _ _ x cosT (gvhD cs ar h (Nat.le_refl _) (Nat.le_refl _));refine ⟨x.holds (mdD cs ar x),traceA (mdD cs ar x) x,fun tok nt=>holdD cs ar h tok nt,fun tok nt=>trace_c (mdD cs ar x) (spN cs) h1.ok h1.cv x (by omega) h1.hok _ _ _ _ _ tok nt (hg tok nt),Fo.holds_len h1.ok (x.size+1) x (Nat.lt_succ_self _) h1.hok,?_⟩;unfold traceA;rw [hq];simp only;cases b with
 | false =>
  rw [if_pos (hb.no rfl),hV];refine .inl ⟨rfl,?_⟩;cases exB x.kind <;> rfl
 | true =>
  obtain ⟨r,hr⟩:=hb.yes rfl;rw [hr,if_neg (by simp),hV,hv];refine .inr ⟨r,rfl,?_⟩;cases exB x.kind <;> rfl
def shX (f g:Fo):List Fo:=[foO 6 [f],foO 7 [f],foO 8 [f,g],foO 11 [f],foO 10 [f]]
theorem sh_p (cs:List Int) (ar:List (Int × Int)) {f g:Fo} (hf:FmP 15 4 f) (hg:FmP 15 4 g):∀ x∈shX f g,(∃ V v,ShP cs ar x V v)∧(x.kind=6∨x.kind=7∨x.kind=8∨x.kind=11∨x.kind=10):=by
 have ln:∀ {x:Fo},FmP 40 8 x→∀ y∈x.kids,(y.holds (mdD cs ar x)).length=spN cs:=fun {x} h y hy=>by
  obtain ⟨h1,_⟩:=mdD_g cs ar h;exact Fo.holds_len h1.ok (y.size+1) y (Nat.lt_succ_self _) (h1.hok.kid hy)
 intro x hx;simp only [shX,List.mem_cons,List.not_mem_nil,or_false] at hx;rcases hx with rfl|rfl|rfl|rfl|rfl
 ·have h:FmP 40 8 (foO 6 [f]):=(fmp1 hf (by decide) (by decide)).mono (by omega) (by omega)
  obtain ⟨h1,_⟩:=mdD_g cs ar h;have l1:=ln h f (by simp [Fo.kids]);refine ⟨sh_of cs ar h (q:=⟨allR (mdD cs ar (foO 6 [f])).next.length,some (f.holds (mdD cs ar (foO 6 [f]))),false,true⟩) (by simp [askR,Fo.kind,kidV,Fo.kids]) (shortR_b h1.ok h1.cv l1) rfl ?_,.inl rfl⟩;rw [holds1];simp [holdV,exB,Fo.kind,l1,h1.ok.next]
 ·have h:FmP 40 8 (foO 7 [f]):=(fmp1 hf (by decide) (by decide)).mono (by omega) (by omega)
  obtain ⟨h1,_⟩:=mdD_g cs ar h;refine ⟨sh_of cs ar h (q:=⟨f.holds (mdD cs ar (foO 7 [f])),none,true,true⟩) (by simp [askR,Fo.kind,kidV,Fo.kids]) (endR_b _ _) rfl ?_,.inr (.inl rfl)⟩;rw [holds1];simp [holdV,exB,Fo.kind]
 ·have h:FmP 40 8 (foO 8 [f,g]):=(fmp2 hf hg (by decide) (by decide)).mono (by omega) (by omega)
  obtain ⟨h1,_⟩:=mdD_g cs ar h;have l1:=ln h g (by simp [Fo.kids]);refine ⟨sh_of cs ar h (q:=⟨f.holds (mdD cs ar (foO 8 [f,g])),some (g.holds (mdD cs ar (foO 8 [f,g]))),false,true⟩) (by simp [askR,Fo.kind,kidV,Fo.kids]) (shortR_b h1.ok h1.cv l1) rfl ?_,.inr (.inr (.inl rfl))⟩;rw [holds2];simp [holdV,exB,Fo.kind]
 ·have h:FmP 40 8 (foO 11 [f]):=(fmp1 hf (by decide) (by decide)).mono (by omega) (by omega)
  obtain ⟨h1,_⟩:=mdD_g cs ar h;have l1:=ln h f (by simp [Fo.kids]);have hp:=h1.ok.pos;have l2:(notR (f.holds (mdD cs ar (foO 11 [f])))).length=spN cs:=by rw [notR_len]; exact l1
  have l3:=until_len (f:=allR (spN cs)) (g:=notR (f.holds (mdD cs ar (foO 11 [f])))) (by rw [l2]; exact h1.ok.prevR);rw [l2] at l3;refine ⟨sh_of cs ar h (q:=⟨allR (mdD cs ar (foO 11 [f])).next.length,some (notR (f.holds (mdD cs ar (foO 11 [f])))),false,false⟩) (by simp [askR,Fo.kind,kidV,Fo.kids]) (shortR_b h1.ok h1.cv l2) rfl ?_,.inr (.inr (.inr (.inl rfl)))⟩;rw [holds1];have e:holdV (mdD cs ar (foO 11 [f])) 11 ⟨#[]⟩ [f.holds (mdD cs ar (foO 11 [f]))]=notR (untilR (mdD cs ar (foO 11 [f])).prev (allR (spN cs)) (notR (f.holds (mdD cs ar (foO 11 [f]))))):=by simp [holdV,l1]
  rw [e,at_not (by omega),h1.ok.next];simp [exB,Fo.kind]
 ·have h:FmP 40 8 (foO 10 [f]):=(fmp1 hf (by decide) (by decide)).mono (by omega) (by omega)
  obtain ⟨h1,_⟩:=mdD_g cs ar h;have l1:=ln h f (by simp [Fo.kids]);have hp:=h1.ok.pos;have l3:=(always_fix (f:=notR (f.holds (mdD cs ar (foO 10 [f])))) (by rw [notR_len]; exact l1) h1.ok.next h1.ok.nextR).1;refine ⟨sh_of cs ar h (q:=⟨notR (f.holds (mdD cs ar (foO 10 [f]))),none,true,false⟩) (by simp [askR,Fo.kind,kidV,Fo.kids]) (endR_b _ _) rfl ?_,.inr (.inr (.inr (.inr rfl)))⟩;rw [holds1];have e:holdV (mdD cs ar (foO 10 [f])) 10 ⟨#[]⟩ [f.holds (mdD cs ar (foO 10 [f]))]=notR (alwaysR (mdD cs ar (foO 10 [f])).next (notR (f.holds (mdD cs ar (foO 10 [f]))))):=by simp [holdV]
  rw [e,at_not (by omega)];simp [exB,Fo.kind]
structure RkP (cs:List Int) (ar:List (Int × Int)) (x:Fo) (V:List Bool) (r:List Int):Prop where
 a:∀ tok nt,DCall Tryz.prog 35 (mdA cs ar x) tok nt (.tup [.d (bools V),I 0]) tok nt
 b:∀ tok nt,DCall Tryz.prog 40 (mdA cs ar x) tok nt (.tup [.d (ints r),I 0]) tok nt
 len:V.length=spN cs
 rlen:r.length=spN cs
 iff:∀ i,i<spN cs→decide (0≤r.getD i 0)=at_ V i
 down:∀ a∈spA (spN cs) ar (min ar.length 30),inR (spN cs) a.fr∧inR (spN cs) a.to∧(0<fAt r a.fr→fAt r a.to<fAt r a.fr)
theorem rk_p (cs:List Int) (ar:List (Int × Int)) {f:Fo} (hf:FmP 15 4 f):∃ V r,RkP cs ar (foO 10 [f]) V r:=by
 have h:FmP 40 8 (foO 10 [f]):=(fmp1 hf (by decide) (by decide)).mono (by omega) (by omega)
 obtain ⟨h1,_⟩:=mdD_g cs ar h;have hs:=h.size;have hn:=spN_r cs;have hg:=given50_c tyT _ _ (foO 10 [f]) cosT (gvhD cs ar h (Nat.le_refl _) (Nat.le_refl _));have l1:(f.holds (mdD cs ar (foO 10 [f]))).length=spN cs:=Fo.holds_len h1.ok (f.size+1) f (Nat.lt_succ_self _) (h1.hok.kid (by simp [Fo.kids]))
 have hk:kidV (mdD cs ar (foO 10 [f])) (foO 10 [f]) 0=f.holds (mdD cs ar (foO 10 [f])):=by simp [kidV,Fo.kids]
 have hr:=fun tok nt=>rank_c (mdD cs ar (foO 10 [f])) (spN cs) h1.ok h1.ne (foO 10 [f]) (by omega) h1.hok rfl _ _ _ _ _ tok nt (hg tok nt)
 rw [hk] at hr;have hsw:=rank_show h1.ok h1.ne l1;have e:(foO 10 [f]).holds (mdD cs ar (foO 10 [f]))=notR (alwaysR (mdD cs ar (foO 10 [f])).next (notR (f.holds (mdD cs ar (foO 10 [f]))))):=by rw [holds1]; simp [holdV]
 have hh:=holdD cs ar h;rw [e] at hh;have hl3:=(always_fix (f:=notR (f.holds (mdD cs ar (foO 10 [f])))) (by rw [notR_len]; exact l1) h1.ok.next h1.ok.nextR).1;refine ⟨_,_,hh,hr,by rw [notR_len]; exact hl3,hsw.len,hsw.iff,fun a ha=>?_⟩;obtain ⟨r1,r2⟩:=spA_r hn.1 a ha;refine ⟨r1,r2,fun h0=>?_⟩;have hlt:a.fr.toNat<spN cs:=by have:=r1.1; have:=r1.2; omega
 refine hsw.down a.fr.toNat hlt h0 a.to ?_;have hA:∀ p∈(spA (spN cs) ar (min ar.length 30)).map Ar50.pr,inR (spS cs (spN cs)).length p.1∧inR (spS cs (spN cs)).length p.2:=by
  intro p hp;obtain ⟨y,hy,rfl⟩:=List.mem_map.1 hp;rw [spS_len];exact spA_r hn.1 y hy
 obtain ⟨j,hj,hja⟩:=List.getElem_of_mem ha;have hm:=arP_mem hA _ (Nat.le_refl _) j (by simpa using hj) (by simpa using hj);simp only [List.getElem_map,hja,Ar50.pr] at hm;exact nxR_mem hm
def stSw (cs:List Int) (ar:List (Int × Int)) (f:Fo) (dl:List Fo) (tok:Tks) (nt nb:Nat) (box:Bxs) (i:Nat):AState :=
 ⟨tl [(65,I i),(64,I 5),(63,.d (.sl 3 (dl.map foW))),(7,.ptr (nb+7) 0 0),(8,.ptr (nb+8) 0 0)],lb nb box [(8,[f.row]),(7,[spR cs ar])],tok,nt⟩
def stSr (cs:List Int) (ar:List (Int × Int)) (V:List Bool) (r:List Int) (tok:Tks) (nt nb:Nat) (box:Bxs) (i:Nat):AState :=
 ⟨tl [(177,I r.length),(178,I i),(20,.d (ints r)),(18,.d (bools V)),(7,.ptr (nb+7) 0 0)],lb nb box [(7,[spR cs ar])],tok,nt⟩
def stSa (A:List Ar50) (r:List Int) (tok:Tks) (nt nb:Nat) (box:Bxs) (i:Nat):AState :=
 ⟨tl [(193,.d (arsD A)),(194,I A.length),(195,I i),(20,.d (ints r))],lb nb box [],tok,nt⟩
set_option maxRecDepth 100000 in
theorem lawTShows_c (cs:List Int) (hc:U8s cs) (ar:List (Int × Int)) (har:∀ a∈ar,(0≤a.1∧a.1<256)∧0≤a.2∧a.2<256) (co:List Int) (hco:U8s co) (mo:List Int) (hmo:U8s mo) (tok:Tks) (nt:Nat) :
  DCall Tryz.prog 8 [.agg [.d (bytes cs),.d (prU ar)],.d (bytes co),.d (bytes mo)] tok nt (B true) tok nt:=by
 intro box nb;have haw:=awake50_c;have hS:=space_c cs hc ar har;refine sI Tryz.func8 Tryz.ntmps8 fun hbox htok=>?_
 refine sR ?_;simp;refine sR ?_;simp;refine Stop.of_d (haw _ _) ?_;simp;by_cases h40:40<co.length
 ·have h40':(40:Int)<(co.length:Int):=by omega
  try (simp [h40,h40'])
  repeat (first|(refine sR ?_; simp [h40,h40'])|(refine sC ?_; simp [h40,h40'])|(refine sX ?_; simp only [AU, ↓reduceIte]))
  refine Stop.of_d (haw _ _) ?_;simp;try (simp)
  repeat (first|(refine sR ?_; simp)|(refine sC ?_; simp)|(refine sX ?_; simp only [AU, ↓reduceIte]))
  refine sT (sH hbox htok ?_);simp [packA]
 ·have h40':¬ (40:Int)<(co.length:Int):=by omega
  by_cases m40:40<mo.length
  ·have m40':(40:Int)<(mo.length:Int):=by omega
   try (simp [h40,h40',m40,m40'])
   repeat (first|(refine sR ?_; simp [h40,h40',m40,m40'])|(refine sC ?_; simp [h40,h40',m40,m40'])|(refine sX ?_; simp only [AU, ↓reduceIte]))
   refine Stop.of_d (haw _ _) ?_;simp;try (simp)
   repeat (first|(refine sR ?_; simp)|(refine sC ?_; simp)|(refine sX ?_; simp only [AU, ↓reduceIte]))
   refine sT (sH hbox htok ?_);simp [packA]
  ·have m40':¬ (40:Int)<(mo.length:Int):=by omega
   have hM:=madeT50_c co hco (by omega);have hf:=fmp_made co;have hM2:=madeT50_c mo hmo (by omega);have hg:=fmp_made mo;generalize (foG 3 co).1=f at *;generalize (foG 3 mo).1=g at *;try (simp [h40,h40',m40,m40'])
   repeat (first|(refine sR ?_; simp [h40,h40',m40,m40'])|(refine sC ?_; simp [h40,h40',m40,m40'])|(refine sX ?_; simp only [AU, ↓reduceIte]))
   refine Stop.of_d (hS _ _) ?_;simp;refine Stop.of_d (hM _ _) ?_;simp;refine Stop.of_d (hM2 _ _) ?_;simp;refine AL.weak (Weaks.mk (l':=[(7,.ptr (nb+7) 0 0),(8,.ptr (nb+8) 0 0),(9,.ptr (nb+9) 0 0)]) (loc':=[(9,[g.row]),(8,[f.row]),(7,[spR cs ar])]) (Nat.le_refl _) rfl (by simp [ToL,lk]) (by simp [BoxL,lk])) ?_;have hsh:=sh_p cs ar hf hg;have hrk:=rk_p cs ar hf;unfold shX at hsh;obtain ⟨x6,k6⟩:∃ g,foO 6 [f]=g:=⟨_,rfl⟩
   obtain ⟨x7,k7⟩:∃ g,foO 7 [f]=g:=⟨_,rfl⟩
   obtain ⟨x8,k8⟩:∃ z,foO 8 [f,g]=z:=⟨_,rfl⟩
   obtain ⟨x11,k11⟩:∃ g,foO 11 [f]=g:=⟨_,rfl⟩
   obtain ⟨x10,k10⟩:∃ g,foO 10 [f]=g:=⟨_,rfl⟩
   rw [k6,k7,k8,k11,k10] at hsh;rw [k10] at hrk;refine sN ?_;refine AL.region5 follows_Tryz (Nat.le_refl _) (by kernel_rfl) (Side.of (by simp)) ?_;simp [FarM,FarN,NB,mks,lds,maker];refine Stop.data ?_;refine Stop.of_d (of1 k6 _ _) ?_;simp;refine Stop.data ?_;refine Stop.of_d (of1 k7 _ _) ?_;simp;refine ⟨rfl,?_⟩;refine Stop.data ?_;refine Stop.of_d (of2 k8 _ _) ?_;simp;refine Stop.data ?_;refine Stop.of_d (of1 k11 _ _) ?_;simp;refine Stop.data ?_;refine Stop.of_d (of1 k10 _ _) ?_;simp;refine ⟨rfl,?_⟩;obtain ⟨dl,hdl⟩:∃ l,[x6,x7,x8,x11,x10]=l:=⟨_,rfl⟩
   have hrows:[foW x6,foW x7,foW x8,foW x11,foW x10]=dl.map foW:=by rw [←hdl]; rfl
   have hdn:dl.length=5:=by rw [←hdl]; rfl
   rw [hdl] at hsh;simp only [foW] at hrows;rw [hrows];clear hrows hdl k6 k7 k8 k11;refine AL.weak (Weaks.mk (l':=[(65,I (0:Nat)),(64,I 5),(63,.d (.sl 3 (dl.map foW))),(7,.ptr (nb+7) 0 0),(8,.ptr (nb+8) 0 0)]) (loc':=[(8,[f.row]),(7,[spR cs ar])]) (Nat.le_refl _) rfl (by simp [ToL,lk]) (by simp [BoxL,lk])) ?_;refine sN ?_;refine AL.loopT (stSw cs ar f dl tok nt nb box) (fun i=>i≤5) (fun i=>5 - i) 0 (Nat.zero_le _) wkA ?_;have hn:=spN_r cs;rintro i S hi hS;simp only [stSw] at hS;subst hS;have hw:=sW (i:=i) (by omega);by_cases hlt:i<5
   ·have hil:i<dl.length:=by omega
    have hlt':(i:Int)<5:=by omega
    obtain ⟨⟨V,v,hV⟩,hkd⟩:=hsh _ (List.getElem_mem hil);obtain ⟨p,hp⟩:∃ p,dl[i]=p:=⟨_,rfl⟩
    rw [hp] at hV hkd;have hgp:(dl.map foW)[i]?=some (foW p):=by simp [hil,hp]
    obtain ⟨hVa,hVb,hVn,hVv⟩:=hV;have hV0:0<V.length:=by omega
    have hva:at_ V 0=V[0]:=by simp [at_,hV0]
    rw [hva] at hVv;have hne:((V.length:Int) != (spN cs:Int))=false:=by simp [hVn]
    try (simp [hlt',hgp,hil,hdn,hlt,hp])
    repeat (first|(refine sR ?_; simp [hlt',hgp,hil,hdn,hlt,hp])|(refine sC ?_; simp [hlt',hgp,hil,hdn,hlt,hp])|(refine sX ?_; simp only [AU, ↓reduceIte]))
    refine Stop.of_d (types50_c _ _) ?_;simp;refine Stop.of_d (constraints50_c _ _) ?_;simp;refine Stop.of_d (hVa _ _) ?_;simp;try (simp)
    repeat (first|(refine sR ?_; simp)|(refine sC ?_; simp)|(refine sX ?_; simp only [AU, ↓reduceIte]))
    refine Stop.of_d (types50_c _ _) ?_;simp;refine Stop.of_d (constraints50_c _ _) ?_;simp;rcases hVv with ⟨rfl,hx⟩|⟨r,rfl,hx⟩
    ·rcases hkd with hk|hk|hk|hk|hk
     all_goals
      rw [hk] at hx;simp [exB] at hx;refine Stop.of_d (hVb _ _) ?_;simp;try (simp [hne,hk,hx,hV0,hw])
      repeat (first|(refine sR ?_; simp [hne,hk,hx,hV0,hw])|(refine sC ?_; simp [hne,hk,hx,hV0,hw])|(refine sX ?_; simp only [AU, ↓reduceIte]))
      refine sE ?_;exact ⟨i+1,hlt,by omega,wkA⟩
    ·rcases hkd with hk|hk|hk|hk|hk
     all_goals
      rw [hk] at hx;rw [hk] at hVb;simp [exB] at hx hVb;have hr1:((r.length:Int)+1==0)=false:=by rw [beq_eq_false_iff_ne]; omega
      refine Stop.of_d (hVb _ _) ?_;simp;try (simp [hne,hk,hx,hV0,hw,hr1])
      repeat (first|(refine sR ?_; simp [hne,hk,hx,hV0,hw,hr1])|(refine sC ?_; simp [hne,hk,hx,hV0,hw,hr1])|(refine sX ?_; simp only [AU, ↓reduceIte]))
      refine sE ?_;exact ⟨i+1,hlt,by omega,wkA⟩
   ·have:i=5:=by omega
    subst this;obtain ⟨V,r,hR⟩:=hrk;obtain ⟨hRa,hRb,hVn,hrn,hif,hdn2⟩:=hR;have hne2:((r.length:Int) != (V.length:Int))=false:=by simp [hVn,hrn]
    try (simp)
    repeat (first|(refine sR ?_; simp)|(refine sC ?_; simp)|(refine sX ?_; simp only [AU, ↓reduceIte]))
    refine Stop.of_d (types50_c _ _) ?_;simp;refine Stop.data ?_;refine Stop.of_d (of1 k10 _ _) ?_;simp;refine Stop.of_d (constraints50_c _ _) ?_;simp;refine Stop.of_d (hRa _ _) ?_;simp;try (simp)
    repeat (first|(refine sR ?_; simp)|(refine sC ?_; simp)|(refine sX ?_; simp only [AU, ↓reduceIte]))
    refine Stop.of_d (types50_c _ _) ?_;simp;refine Stop.data ?_;refine Stop.of_d (of1 k10 _ _) ?_;simp;refine Stop.of_d (constraints50_c _ _) ?_;simp;refine Stop.of_d (hRb _ _) ?_;simp;try (simp [hne2])
    repeat (first|(refine sR ?_; simp [hne2])|(refine sC ?_; simp [hne2])|(refine sX ?_; simp only [AU, ↓reduceIte]))
    refine AL.weak (Weaks.mk (l':=[(177,I r.length),(178,I (0:Nat)),(20,.d (ints r)),(18,.d (bools V)),(7,.ptr (nb+7) 0 0)]) (loc':=[(7,[spR cs ar])]) (Nat.le_refl _) rfl (by simp [ToL,lk]) (by simp [BoxL,lk])) ?_;refine sN ?_;refine AL.loopT (stSr cs ar V r tok nt nb box) (fun i=>i≤r.length) (fun i=>r.length - i) 0 (Nat.zero_le _) wkA ?_;rintro i S hi hS;simp only [stSr] at hS;subst hS;have hw:=sW (i:=i) (by omega);by_cases hlt:i<r.length
    ·have hlt':(i:Int)<(r.length:Int):=by omega
     have hvl:i<V.length:=by omega
     have h1:=hif i (by omega);have e1:r.getD i 0=r[i]:=by simp [hlt]
     have e2:at_ V i=V[i]:=by simp [at_,hvl]
     rw [e1,e2] at h1;cases hv:V[i]
     ·rw [hv] at h1;have h0:=of_decide_eq_false h1;try (simp [hlt,hlt',hvl,hv,h0,hw])
      repeat (first|(refine sR ?_; simp [hlt,hlt',hvl,hv,h0,hw])|(refine sC ?_; simp [hlt,hlt',hvl,hv,h0,hw])|(refine sX ?_; simp only [AU, ↓reduceIte]))
      refine sE ?_;exact ⟨i+1,hlt,by omega,wkA⟩
     ·rw [hv] at h1;have h0:=of_decide_eq_true h1;try (simp [hlt,hlt',hvl,hv,h0,hw])
      repeat (first|(refine sR ?_; simp [hlt,hlt',hvl,hv,h0,hw])|(refine sC ?_; simp [hlt,hlt',hvl,hv,h0,hw])|(refine sX ?_; simp only [AU, ↓reduceIte]))
      refine sE ?_;exact ⟨i+1,hlt,by omega,wkA⟩
    ·have:i=r.length:=by omega
     subst this;clear hw hlt hi;obtain ⟨A,hA⟩:∃ A,spA (spN cs) ar (min ar.length 30)=A:=⟨_,rfl⟩
     have hAl:A.length≤30:=by rw [←hA]; simp [spA]; omega
     rw [hA] at hdn2;simp only [spR,hA];try (simp)
     repeat (first|(refine sR ?_; simp)|(refine sC ?_; simp)|(refine sX ?_; simp only [AU, ↓reduceIte]))
     refine AL.weak (Weaks.mk (l':=[(193,.d (arsD A)),(194,I A.length),(195,I (0:Nat)),(20,.d (ints r))]) (loc':=[]) (Nat.le_refl _) rfl (by simp [ToL,lk]) (by simp [BoxL,lk])) ?_;refine sN ?_;refine AL.loopT (stSa A r tok nt nb box) (fun i=>i≤A.length) (fun i=>A.length - i) 0 (Nat.zero_le _) wkA ?_;rintro i S hi hS;simp only [stSa] at hS;subst hS;have hw:=sW (i:=i) (by omega);by_cases hlt:i<A.length
     ·have hlt':(i:Int)<(A.length:Int):=by omega
      obtain ⟨⟨f1,f2⟩,⟨g1,g2⟩,hd⟩:=hdn2 _ (List.getElem_mem hlt);have hg:(A.map Ar50.cells)[i]?=some A[i].cells:=by simp [hlt]
      have f3:A[i].fr.toNat<r.length:=by omega
      have g3:A[i].to.toNat<r.length:=by omega
      have f4:A[i].fr<(r.length:Int):=by omega
      have g4:A[i].to<(r.length:Int):=by omega
      have e1:fAt r A[i].fr=r[A[i].fr.toNat]:=by simp [fAt,f3]
      have e2:fAt r A[i].to=r[A[i].to.toNat]:=by simp [fAt,g3]
      rw [e1,e2] at hd;by_cases h0:0<r[A[i].fr.toNat]
      ·have h5:=hd h0;have h6:¬ r[A[i].fr.toNat]≤r[A[i].to.toNat]:=by omega
       try (simp [hlt,hlt',hg,f1,f3,f4,g1,g3,g4,h0,h5,h6,hw])
       repeat (first|(refine sR ?_; simp [hlt,hlt',hg,f1,f3,f4,g1,g3,g4,h0,h5,h6,hw])|(refine sC ?_; simp [hlt,hlt',hg,f1,f3,f4,g1,g3,g4,h0,h5,h6,hw])|(refine sX ?_; simp only [AU, ↓reduceIte]))
       refine sE ?_;exact ⟨i+1,hlt,by omega,wkA⟩
      ·try (simp [hlt,hlt',hg,f1,f3,f4,g1,g3,g4,h0,hw])
       repeat (first|(refine sR ?_; simp [hlt,hlt',hg,f1,f3,f4,g1,g3,g4,h0,hw])|(refine sC ?_; simp [hlt,hlt',hg,f1,f3,f4,g1,g3,g4,h0,hw])|(refine sX ?_; simp only [AU, ↓reduceIte]))
       refine sE ?_;exact ⟨i+1,hlt,by omega,wkA⟩
     ·have:i=A.length:=by omega
      subst this;try (simp)
      repeat (first|(refine sR ?_; simp)|(refine sC ?_; simp)|(refine sX ?_; simp only [AU, ↓reduceIte]))
      refine sT (sH hbox htok ?_);simp [packA]
end Go.AM
