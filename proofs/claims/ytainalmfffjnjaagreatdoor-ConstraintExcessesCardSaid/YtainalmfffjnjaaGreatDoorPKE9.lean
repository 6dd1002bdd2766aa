/-
 Parts of the proof, as merged from many texts: a machine over data, what the functions compute, plain laws.
-/
import Derived.Test.YtainalmfffjnjaaGreatDoorPKE8
import Derived.Deep.AppendLies
set_option linter.unusedSimpArgs false
set_option linter.unusedVariables false
namespace Go.AM
open Go
theorem backL_succ (l:List Int) (k:Nat):backL l (k+1)=backL l k++[indexI l k]:=by simp [backL,List.range_succ]
def backS (l:List Int) (k j:Nat):List Int:=backL l k++[indexI (l.take j) k]
theorem backS_len (l:List Int) (k j:Nat):(backS l k j).length=k+1:=by simp [backS,backL]
theorem backS_zero (l:List Int) (k:Nat):backS l k 0=backL l k++[-1]:=by simp [backS,indexI]
theorem backS_all (l:List Int) (k:Nat):backS l k l.length=backL l (k+1):=by simp [backS,backL_succ]
theorem indexI_none {l:List Int} {v:Int} (h:v∉l):indexI l v = -1:=by
 rcases indexI_spec l v with ⟨h1,_⟩|⟨k,_,h3,h4⟩
 ·exact h1
 ·exact absurd (h4 ▸ getD_mem h3) h
theorem take_mem {l:List Int} {j:Nat} (h:j<l.length) {v:Int}:v∈l.take (j+1)↔v∈l.take j∨v=l.getD j 0:=by
 rw [←List.take_append_getElem h,List.mem_append,List.mem_singleton];simp [h]
theorem index_no {l:List Int} {j:Nat} (h:j<l.length) {v:Int} (hv:l.getD j 0≠v) (hn:l.Nodup):indexI (l.take (j+1)) v=indexI (l.take j) v:=by
 by_cases hm:v∈l.take j
 ·obtain ⟨a1,a2,a3⟩:=indexI_in hm;obtain ⟨b1,b2,b3⟩:=indexI_in ((take_mem h).2 (.inl hm));have hnd:(l.take (j+1)).Nodup:=hn.sublist (List.take_sublist _ _)
  have hl:(l.take j).length≤(l.take (j+1)).length:=by simp; omega
  have e:(l.take (j+1)).getD (indexI (l.take j) v).toNat 0=v:=by
   have q:(indexI (l.take j) v).toNat<(l.take j).length:=by omega
   have q1:(indexI (l.take j) v).toNat<j:=by simp at q; omega
   have q2:(l.take (j+1)).getD (indexI (l.take j) v).toNat 0=(l.take j).getD (indexI (l.take j) v).toNat 0:=by
    simp only [List.getD_eq_getElem?_getD,List.getElem?_take];rw [if_pos (by omega),if_pos q1]
   rw [q2]; exact a3
  have:=getD_inj hnd (show (indexI (l.take j) v).toNat<(l.take (j+1)).length by omega) (show (indexI (l.take (j+1)) v).toNat<(l.take (j+1)).length by omega) (e.trans b3.symm)
  omega
 ·rw [indexI_none hm,indexI_none fun hm2=>by
   rcases (take_mem h).1 hm2 with h1|h1
   ·exact hm h1
   ·exact hv h1.symm]
theorem index_yes {l:List Int} {j:Nat} (h:j<l.length) (hn:l.Nodup):indexI (l.take (j+1)) (l.getD j 0)=j:=by
 have hnd:(l.take (j+1)).Nodup:=hn.sublist (List.take_sublist _ _)
 have hj:j<(l.take (j+1)).length:=by simp; omega
 have e:(l.take (j+1)).getD j 0=l.getD j 0:=by
  simp only [List.getD_eq_getElem?_getD,List.getElem?_take];rw [if_pos (by omega)]
 have:=indexI_gd hnd hj
 rwa [e] at this
theorem backS_no {l:List Int} {k j:Nat} (h:j<l.length) (hv:l.getD j 0≠k) (hn:l.Nodup):backS l k (j+1)=backS l k j:=by rw [backS,backS,index_no h hv hn]
theorem backS_yes {l:List Int} {k j:Nat} (h:j<l.length) (hv:l.getD j 0=k) (hn:l.Nodup):backS l k (j+1)=(backS l k j).set k j:=by
 have h2:=index_yes h hn;rw [hv] at h2;have hl:(backL l k).length=k:=by simp [backL]
 rw [backS,backS,h2,List.set_append_right _ _ (by omega),hl];simp
end Go.AM
namespace Go.Proofs.YtainalmfffjnjaaGreatDoorX.back
open Go Go.Proofs Go.RowKit Go.AM
theorem info3:(Tryz.prog.info? 3).map (fun i=>(i.zero,i.size,i.bytes))=some (some (.int .i64 0),1,8):=by kernel_rfl
set_option maxHeartbeats 2000000 in
set_option maxRecDepth 100000 in
theorem any (b off n c m:Nat) (zs:List Int) (w:World) (hz:zs.length=n) (hn:n≤1000000) (hm:m≤1000000) (hd:zs.Nodup) (hb:b<w.heap.size) (hc:∀ j,j<zs.length→w.cell? ⟨b,off+j,none⟩=some (.int .i64 (zs.getD j 0))) :
  Calls Tryz.prog 146 #[.slice (some ⟨b,off,none⟩) n c,.int .i64 m] w fun e w'=>∃ v,e=.returned v∧w'.ownsRow w.heap.size 3 1 v m ((backL zs m).map (Value.int .i64))∧Below w.heap.size w w':=by
 obtain ⟨i0,hi,hz0,hz1,hz2⟩:=info_parts info3
 go_enter Tryz.func146,Tryz.ntmps146
 go_wp2
 go_loopw [5,6] (fun v i wr=>∃ k:Nat,k≤m∧i=.int .i64 k∧wr.ownsRow w.heap.size 3 1 v k ((backL zs k).map (Value.int .i64))∧Below w.heap.size w wr) (fun _ i _=>m - (intOf i).toNat)
 case atStart=>exact ⟨0,Nat.zero_le _,rfl,World.ownsRow_nil _ _ _ _,Below.refl _ _⟩
 case round =>
  obtain ⟨k,hk,rfl,hown,hnx⟩:=hrel
  go_wp2_with (first
   | (at_builtin; refine wpList_append_own _ rfl _ _ 26 rfl w.heap.size 3 i0 (.int .i64 0) 1 8 Tryz.underlying26 hi hz0 hz1 hz2 rfl (by decide) _ _ _ rfl (hown.alloc _) ⟨wr.heap.size,0,none⟩ 1 1 [.int .i64 (-1)] rfl rfl ?c1 ?c2 ?c3 ?c4 ?c5 ?_)
   | go_in)
  case c1 =>
   intro j u hj
   match j,hj with
   | 0,hj=>simp at hj; subst hj; simp [Addr.add]
  case c2=>intro u hu; simp at hu; subst hu; rfl
  case c3=>unfold maxLen; omega
  case c4=>omega
  case c5=>have:=hnx.size; simp; omega
  ·intro v' w1 hown' hgrow hne;have hk':k<m:=by assumption
   obtain ⟨g,cap,rfl,hg1,hg2⟩:=hown'.form (by omega);have hnx1:Below w.heap.size w w1:=(hnx.alloc (by have:=hnx.size; omega) _).grown hgrow (by have:=hnx.size; simp; omega) (fun q hq=>(hown.lt q hq).1)
   rw [show List.map (Value.int .i64) (backL zs k)++[Value.int .i64 (-1)]=(backS zs k 0).map (Value.int .i64) by rw [backS_zero]; simp] at hown';clear hgrow hown hnx hne
   go_wp2
   go_loopw [7] (fun i wr=>∃ j:Nat,j≤n∧i=.int .i64 j∧wr.ownsRow w.heap.size 3 1 (.slice (some ⟨g,0,none⟩) (k+1) cap) (k+1) ((backS zs k j).map (Value.int .i64))∧Below w.heap.size w wr) (fun i _=>n - (intOf i).toNat)
   case atStart=>exact ⟨0,Nat.zero_le _,rfl,hown',hnx1⟩
   case round =>
    clear hown' hnx1;obtain ⟨j,hj,rfl,hown,hnx⟩:=hrel;have hcx:j<n→wr.cell? ⟨b,off+j,none⟩=some (.int .i64 (zs.getD j 0)):=fun h=>(hnx.cell (by exact hb)).trans (hc j (by omega))
    have hst:=hown.stored k (.int .i64 j);have hfz:=hown.frozenAt k;have hck:wr.cell? ⟨g,k,none⟩=some (.int .i64 ((backS zs k j).getD k 0)):=by
     rw [hown.cellAt k (by omega),List.getElem?_map,List.getElem?_eq_getElem (by rw [backS_len]; omega)];simp [show k<(backS zs k j).length by rw [backS_len]; omega]
    go_wp2
    ·have hlt:j<n:=by assumption
     have hjl:j<zs.length:=by omega
     have h:(zs[j]==(k:Int))=true:=by assumption
     have e:zs.getD j 0=(k:Int):=by
      have:=beq_iff_eq.1 h
      simpa [hjl] using this
     refine ⟨⟨j+1,by omega,by simp,?_,hnx.setCell hg1 _⟩,by simp [intOf]; omega⟩;rw [backS_yes hjl e hd,List.map_set];exact hst.1
    ·have hlt:j<n:=by assumption
     have hjl:j<zs.length:=by omega
     have h:(zs[j]==(k:Int))=false:=by assumption
     have e:zs.getD j 0≠(k:Int):=by
      have:=beq_eq_false_iff_ne.1 h
      simpa [hjl] using this
     refine ⟨⟨j+1,by omega,by simp,?_,hnx⟩,by simp [intOf]; omega⟩;rw [backS_no hjl e hd];exact hown
    ·have hlt:¬ j<n:=by assumption
     have hjn:j=zs.length:=by omega
     rw [hjn,backS_all] at hown;exact ⟨⟨k+1,by omega,by simp,hown,hnx⟩,by simp [intOf]; omega⟩
  ·go_ret
   have hk':¬ k<m:=by assumption
   obtain rfl:k=m:=by omega
   exact ⟨_,rfl,hown,hnx⟩
end Go.Proofs.YtainalmfffjnjaaGreatDoorX.back
namespace Go.Proofs.YtainalmfffjnjaaGreatDoorX.back
open Go Go.Proofs Go.RowKit Go.AM
set_option maxHeartbeats 2000000 in
set_option maxRecDepth 100000 in
theorem zero (A:Option Addr) (c m:Nat) (w:World) (hm:m≤1000000) :
  Calls Tryz.prog 146 #[.slice A 0 c,.int .i64 m] w fun e w'=>∃ v,e=.returned v∧w'.ownsRow w.heap.size 3 1 v m ((backL [] m).map (Value.int .i64))∧Below w.heap.size w w':=by
 obtain ⟨i0,hi,hz0,hz1,hz2⟩:=info_parts info3
 go_enter Tryz.func146,Tryz.ntmps146
 go_wp2
 go_loopw [5,6] (fun v i wr=>∃ k:Nat,k≤m∧i=.int .i64 k∧wr.ownsRow w.heap.size 3 1 v k ((backL [] k).map (Value.int .i64))∧Below w.heap.size w wr) (fun _ i _=>m - (intOf i).toNat)
 case atStart=>exact ⟨0,Nat.zero_le _,rfl,World.ownsRow_nil _ _ _ _,Below.refl _ _⟩
 case round =>
  obtain ⟨k,hk,rfl,hown,hnx⟩:=hrel
  go_wp2_with (first
   | (at_builtin; refine wpList_append_own _ rfl _ _ 26 rfl w.heap.size 3 i0 (.int .i64 0) 1 8 Tryz.underlying26 hi hz0 hz1 hz2 rfl (by decide) _ _ _ rfl (hown.alloc _) ⟨wr.heap.size,0,none⟩ 1 1 [.int .i64 (-1)] rfl rfl ?c1 ?c2 ?c3 ?c4 ?c5 ?_)
   | go_in)
  case c1 =>
   intro j u hj
   match j,hj with
   | 0,hj=>simp at hj; subst hj; simp [Addr.add]
  case c2=>intro u hu; simp at hu; subst hu; rfl
  case c3=>unfold maxLen; omega
  case c4=>omega
  case c5=>have:=hnx.size; simp; omega
  ·intro v' w1 hown' hgrow hne;have hk':k<m:=by assumption
   have hnx1:Below w.heap.size w w1:=(hnx.alloc (by have:=hnx.size; omega) _).grown hgrow (by have:=hnx.size; simp; omega) (fun q hq=>(hown.lt q hq).1)
   rw [show List.map (Value.int .i64) (backL [] k)++[Value.int .i64 (-1)]=(backL [] (k+1)).map (Value.int .i64) by rw [backL_succ]; simp [indexI]] at hown';clear hgrow hown hnx hne
   go_wp2
   go_loopw [7] (fun i wr=>i=.int .i64 0∧wr=w1) (fun i _=>0)
   case atStart=>exact ⟨rfl,rfl⟩
   case round =>
    obtain ⟨rfl,rfl⟩:=hrel
    go_wp2
    exact ⟨⟨k+1,by omega,by simp,hown',hnx1⟩,by simp [intOf]; omega⟩
  ·go_ret
   have hk':¬ k<m:=by assumption
   obtain rfl:k=m:=by omega
   exact ⟨_,rfl,hown,hnx⟩
end Go.Proofs.YtainalmfffjnjaaGreatDoorX.back
namespace Go.AM
open Go Go.Proofs Go.RowKit
def upP (ps:List Int) (i:Nat):List Int:=if _h:0≤ps.getD i 0∧(ps.getD i 0).toNat<i then (i:Int)::upP ps (ps.getD i 0).toNat else [(i:Int)]
termination_by i
decreasing_by exact _h.2
def upI (ps:List Int) (a:Int):List Int:=if a<0 then [] else upP ps a.toNat
theorem upI_neg {ps:List Int} {a:Int} (h:a<0):upI ps a=[]:=if_pos h
theorem upI_up {ps:List Int} {a:Int} (h:0≤a) (hp:ps.getD a.toNat 0<a):upI ps a=a::upI ps (ps.getD a.toNat 0):=by
 rw [upI,if_neg (by omega),upP];by_cases h0:0≤ps.getD a.toNat 0
 ·rw [dif_pos ⟨h0,by omega⟩,upI,if_neg (by omega),Int.toNat_of_nonneg h]
 ·rw [dif_neg (fun h2=>h0 h2.1),upI,if_pos (by omega),Int.toNat_of_nonneg h]
theorem upP_len (ps:List Int):∀ n i,i<n→(upP ps i).length≤i+1
 | 0,i,h=>absurd h (Nat.not_lt_zero _)
 | n+1,i,h=>by
  rw [upP];split
  ·rename_i h1;have:=upP_len ps n _ (show (ps.getD i 0).toNat<n by omega)
   simp only [List.length_cons];omega
  ·simp
theorem upI_len (ps:List Int) (a:Int):(upI ps a).length≤(a+1).toNat:=by
 unfold upI;split
 ·simp
 ·have:=upP_len ps _ _ (Nat.lt_succ_self a.toNat)
  omega
end Go.AM
namespace Go.Proofs.YtainalmfffjnjaaGreatDoorX.line
open Go Go.Proofs Go.RowKit Go.AM Go.Sort
theorem own_le {w:World} {base base':Nat} {e:TypeId} {size:Nat} {v:Value} {n:Nat} {xs:List Value} (h:w.ownsRow base e size v n xs) (hb:base'≤base):w.ownsRow base' e size v n xs :=
 ⟨h.1,h.2.imp id fun ⟨g,cap,cur,a,b,c⟩=>⟨g,cap,cur,a,Nat.le_trans hb b,c⟩⟩
theorem rev {base n:Nat} {v:Value} {l:List Int} {w0 w:World} (hown:w.ownsRow base 3 1 v n (l.map (Value.int .i64))) (hb:Below base w0 w) (hl:l.length≤1000000) :
  Calls Tryz.prog 277 #[v] w fun e w'=>e=.returned (.tuple #[])∧w'.ownsRow base 3 1 v n (l.reverse.map (Value.int .i64))∧Below base w0 w':=by
 rcases hown.2 with ⟨rfl,e0⟩|⟨g,cap,cur,rfl,hg1,hg2,hg3,hg4,hg5,hg6⟩
 ·refine (Tryz.slices_Reverse_int_empty _ _ _).mono ?_;rintro e w3 ⟨rfl,rfl⟩;subst e0;have:l=[]:=List.length_eq_zero_iff.1 (by simpa using hown.1)
  subst this;exact ⟨rfl,hown,hb⟩
 ·obtain ⟨g',cap',hv,hgb,hgl,hncap,hcm,hlen,hH⟩:=Lib.holds_of_ownsRow hown (by simp);cases hv;have hrev:=Tryz.slices_Reverse_int g 0 cap l _ hH (by omega);rw [hlen] at hrev;refine hrev.mono ?_;rintro e w3 ⟨rfl,q,rfl⟩;have hh:=Lib.ownsRow_putRow (q:=q) (ys:=l.reverse) hown (by simpa using hlen) (Nat.le_refl _);rw [List.take_of_length_le (by simp [hlen])] at hh;exact ⟨rfl,hh,Lib.below_putRow hb hg1⟩
set_option maxHeartbeats 2000000 in
set_option maxRecDepth 100000 in
theorem any (b off n c:Nat) (u:Value) (a0:Int) (ps:List Int) (w:World) (hz:ps.length=n) (hn:n≤1000000) (ha:a0<n) (hp:∀ j,j<n→ps.getD j 0<j) (hb:b<w.heap.size) (hc:∀ j,j<n→w.cell? ⟨b,off+j * 4+1,none⟩=some (.int .i64 (ps.getD j 0))) :
  Calls Tryz.prog 236 #[.agg #[.slice (some ⟨b,off,none⟩) n c,u],.int .i64 a0] w fun e w'=>∃ v,e=.returned v∧w'.ownsRow w.heap.size 3 1 v (upI ps a0).length ((upI ps a0).reverse.map (Value.int .i64))∧Below w.heap.size w w':=by
 obtain ⟨i0,hi,hz0,hz1,hz2'⟩:=info_parts YtainalmfffjnjaaGreatDoorX.back.info3
 go_enter Tryz.func236,Tryz.ntmps236
 go_wp2
 have hsz:(w.alloc (Obj.cells #[Value.slice (some { block:=b,off:=off }) n c,u] 25)).heap.size=w.heap.size+1:=by unfold World.alloc; exact Array.size_push _
 have hz2:(w.alloc (Obj.cells #[Value.slice (some { block:=b,off:=off }) n c,u] 25)).cell? ⟨w.heap.size,0,none⟩=some (Value.slice (some { block:=b,off:=off }) n c):=by rw [World.cell?_alloc_at _ _ _ _ rfl]; rfl
 have hcc:∀ j,j<n→(w.alloc (Obj.cells #[Value.slice (some { block:=b,off:=off }) n c,u] 25)).cell? ⟨b,off+j * 4+1,none⟩=some (.int .i64 (ps.getD j 0)):=fun j hj=>((Below.refl _ w).alloc (Nat.le_refl _) _ |>.cell (by exact hb)).trans (hc j hj)
 have hbel:Below w.heap.size w (w.alloc (Obj.cells #[Value.slice (some { block:=b,off:=off }) n c,u] 25)):=(Below.refl _ w).alloc (Nat.le_refl _) _
 generalize w.alloc (Obj.cells #[Value.slice (some { block:=b,off:=off }) n c,u] 25)=w1 at *
 go_loopw [1,5] (fun x v wr=>∃ (a:Int) (l:List Int),x=.int .i64 a∧a<n∧l++upI ps a=upI ps a0∧wr.ownsRow w1.heap.size 3 1 v l.length (l.map (Value.int .i64))∧Below w1.heap.size w1 wr) (fun x _ _=>(intOf x+1).toNat)
 case atStart=>exact ⟨a0,[],rfl,ha,rfl,World.ownsRow_nil _ _ _ _,Below.refl _ _⟩
 case round =>
  obtain ⟨a,l,rfl,hal,hl,hown,hnx⟩:=hrel;have hll:l.length≤n:=by
   have h1:=congrArg List.length hl;have h2:=upI_len ps a0;rw [List.length_append] at h1;omega
  have hr2:=(hnx.cell (p:=⟨w.heap.size,0,none⟩) (by simp; omega)).trans hz2
  go_wp2_with (first
   | (at_builtin; refine wpList_append_own _ rfl _ _ 26 rfl w1.heap.size 3 i0 (.int .i64 0) 1 8 Tryz.underlying26 hi hz0 hz1 hz2' rfl (by decide) _ _ _ rfl (hown.alloc _) ⟨wr.heap.size,0,none⟩ 1 1 [.int .i64 a] rfl rfl ?c1 ?c2 ?c3 ?c4 ?c5 ?_)
   | (go_at_call 277; refine (rev hown hnx (by omega)).mono ?_; rintro e w3 ⟨rfl,hown3,hnx3⟩)
   | go_in)
  case c1 =>
   intro j u hj
   match j,hj with
   | 0,hj=>simp at hj; subst hj; simp [Addr.add]
  case c2=>intro u hu; simp at hu; subst hu; rfl
  case c3=>unfold maxLen; omega
  case c4=>omega
  case c5=>have:=hnx.size; simp; omega
  ·intro v' w2 hown' hgrow hne;have h0:0≤a:=by assumption
   obtain ⟨k,rfl⟩:=Int.eq_ofNat_of_zero_le h0;have hnx1:Below w1.heap.size w1 w2:=(hnx.alloc (by have:=hnx.size; omega) _).grown hgrow (by have:=hnx.size; simp; omega) (fun q hq=>(hown.lt q hq).1)
   have hr3:=(hnx1.cell (p:=⟨w.heap.size,0,none⟩) (by simp; omega)).trans hz2;have hr4:=(hnx1.cell (p:=⟨b,off+k * 4+1,none⟩) (by simp; omega)).trans (hcc k (by omega));have hup:=upI_up (ps:=ps) h0 (by have:=hp k (by omega); simpa using this);rw [hup,Int.toNat_natCast] at hl;clear hgrow hown hnx hne
   go_wp2
   refine ⟨⟨ps.getD k 0,l++[(k:Int)],rfl,by have:=hp k (by omega); omega,by rw [List.append_assoc]; exact hl,by simpa [hsz] using hown',hnx1⟩,?_⟩;have:=hp k (by omega)
   simp at this;simp [intOf];omega
  ·go_ret
   have h0:a<0:=by assumption
   rw [upI_neg h0,List.append_nil] at hl;rw [←hl];exact ⟨_,rfl,own_le hown3 (by omega),hbel.trans (hnx3.mono (by omega))⟩
end Go.Proofs.YtainalmfffjnjaaGreatDoorX.line
namespace Go.AM
open Go Go.Proofs Go.RowKit
abbrev Ty.pars (t:Ty):List Int:=t.nodes.map NT.par
theorem pars_getD (t:Ty) {j:Nat} (h:j<t.nodes.length):t.pars.getD j 0=(t.nd j).par:=by simp [Ty.pars,Ty.nd,h]
theorem rvd_pars {c:Addr→Option Value} {ps:Addr→Prop} {l:List NT} {v:Value} (h:RVd c ps (nts l) v) :
  ∃ A cap,v=.slice A l.length cap∧l.length≤cap∧cap≤maxLen∧(l≠[]→∃ a,A=some a)∧∀ a,A=some a→∀ i (hi:i<l.length),c (a.add (i * 4))=some (.string l[i].name)∧c (a.add (i * 4+1))=some (.int .i64 l[i].par):=by
 unfold nts at h;generalize hes:l.map NT.cells=es at h;cases h with
 | @sl _ _ A cap u hcap hmax hsz hA hc hr =>
  have hl:es.length=l.length:=by rw [←hes]; simp
  refine ⟨A,cap,by rw [hl],by omega,hmax,fun hne=>hA (by intro e; rw [e] at hl; exact hne (List.length_eq_zero_iff.1 hl.symm)),fun a ha i hi=>⟨?_,?_⟩⟩
  ·have g:=(hc a ha i 0 (by omega) (by decide)).2;have r:=hr i 0 (by omega) (by rw [hsz _ (List.getElem_mem _)]; decide);have e1:es[i][0]'(by rw [hsz _ (List.getElem_mem _)]; decide)=D.raw (.string l[i].name):=by
    subst hes;simp
   rw [e1] at r;have e2:u i 0=.string l[i].name:=by
    generalize hu:u i 0=x at r;cases r;rfl
   rw [←e2]; exact g
  ·have g:=(hc a ha i 1 (by omega) (by decide)).2;have r:=hr i 1 (by omega) (by rw [hsz _ (List.getElem_mem _)]; decide);have e1:es[i][1]'(by rw [hsz _ (List.getElem_mem _)]; decide)=D.raw (.int .i64 l[i].par):=by
    subst hes;simp
   rw [e1] at r;have e2:u i 1=.int .i64 l[i].par:=by
    generalize hu:u i 1=x at r;cases r;rfl
   rw [←e2]; exact g
theorem line_c (t:Ty) (ht:t.nodes.length≤1000000) (a:Int) (h0:0≤a) (ha:a<t.nodes.length) (hp:∀ j,j<t.nodes.length→(t.nd j).par<j) (tok:Tks) (nt:Nat):DCall Tryz.prog 236 [t.av,I a] tok nt (.d (ints (upI t.pars a).reverse)) tok nt:=by
 intro box nb;refine ⟨Enters.mk Tryz.func236 rfl (by kernel_rfl),fun G w vals hm hr=>?_⟩;obtain ⟨hlen,hrv⟩:=hr
 match vals,hlen with
 | [v,x],_ =>
  have h0:=hrv 0 (by simp) (by simp);have h1:=hrv 1 (by simp) (by simp);simp only [List.getElem_cons_zero,List.getElem_cons_succ] at h0 h1;cases h1 with
  | d h1 =>
  cases h1 with
  | raw h1 =>
  cases h0 with
  | @agg _ vs hl h2 h3 =>
   match vs,hl with
   | [v1,v2],_ =>
    have h4:=h2 0 (by simp) (by simp);simp only [List.getElem_cons_zero] at h4;cases h4 with
    | d h4 =>
     obtain ⟨A,cap,rfl,hcap,hmax,hA,hc⟩:=rvd_pars h4;have e:t.nodes≠[]:=by intro e; rw [e] at ha; simp at ha; omega
     obtain ⟨a1,rfl⟩:=hA e;have hp0:0<t.nodes.length:=List.length_pos_iff.2 e
     have hc':=hc a1 rfl
     have hs:a1.spot=none:=by
      cases hsp:a1.spot with
      | none=>rfl
      | some q =>
       exfalso
       have:=(hc' 0 hp0).1
       simp only [World.cell?,Addr.add,hsp,Option.isSome_some, ↓reduceIte] at this;split at this <;> simp at this
     obtain ⟨b,off,sp⟩:=a1;simp only at hs;subst hs;have hcc:∀ j,j<t.nodes.length→w.cell? ⟨b,off+j * 4+1,none⟩=some (.int .i64 (t.pars.getD j 0)):=fun j hj=>by
      have h1:=(hc' j hj).2;rw [pars_getD t hj,nd_at hj];unfold Addr.add at h1;split at h1
      ·rename_i e; omega
      ·rw [show off+j * 4+1=off+(j * 4+1) by omega]; exact h1
     have hbw:b<w.heap.size:=lt_of_cell (hcc 0 hp0)
     refine (YtainalmfffjnjaaGreatDoorX.line.any b off t.nodes.length cap v2 a t.pars w (by simp) ht (by omega) (fun j hj=>by rw [pars_getD t hj]; exact hp j hj) hbw hcc).mono ?_;rintro e w' ⟨v,rfl,hown,hb⟩;refine ⟨v,_,_,G,rfl,⟨rfl,rfl⟩,rfl,relM_below hm hb,.d (rvd_owns hm (by rw [List.length_reverse]; exact hown)),le_below hm hb,fun k hk=>⟨hk,rfl⟩⟩
theorem Ty.Fit.hM {t:Ty} (h:t.Fit) (i:Nat):(t.nd i).own.length≤1000:=by
 by_cases hi:i<t.nodes.length
 ·rw [nd_at hi]; exact (h.a _ (List.getElem_mem hi)).1
 ·simp [Ty.nd,List.getElem?_eq_none (Nat.le_of_not_lt hi)];exact Nat.zero_le _
theorem given1_c (t:Ty) (n:Int) (box:Bxs) (nb k:Nat) (tok:Tks) (nt:Nat) (h1:box k=some [[.d (nts t.nodes),.d (ets t.edges)]]) :
  ACalls Tryz.prog 235 [I n,.ptr k 0 0] ⟨box,nb,tok,nt⟩ fun v m=>v=B (!insB t n)∧m=⟨box,nb,tok,nt⟩:=by
 by_cases h0:n<0
 ·rw [show insB t n=false by simp only [insB,decide_eq_false_iff_not]; omega];refine sI Tryz.func235 Tryz.ntmps235 fun hbox htok=>?_
  have k1n:=key_lt hbox h1;repeat (first|simp [lb_out k1n,h1,h0]|refine sR ?_)
  refine sT (sH hbox htok ?_);simp [packA]
 ·by_cases h2:(t.nodes.length:Int)≤n
  ·rw [show insB t n=false by simp only [insB,decide_eq_false_iff_not]; omega];refine sI Tryz.func235 Tryz.ntmps235 fun hbox htok=>?_
   have k1n:=key_lt hbox h1;repeat (first|simp [lb_out k1n,h1,h0,h2]|refine sR ?_)
   refine sT (sH hbox htok ?_);simp [packA]
  ·rw [show insB t n=true by simp only [insB,decide_eq_true_eq]; omega];refine sI Tryz.func235 Tryz.ntmps235 fun hbox htok=>?_
   have k1n:=key_lt hbox h1;repeat (first|simp [lb_out k1n,h1,h0,h2]|refine sR ?_)
   refine sT (sH hbox htok ?_);simp [packA]
def givE (t:Ty) (l:List Int):Int:=if tyE t=0 then (if anyB (fun a=>!insB t a) l=true then 6 else 0) else tyE t
theorem given_c (t:Ty) (ht:t.Fit) (l:List Int) (hl:l.length≤1000000) (tok:Tks) (nt:Nat):DCall Tryz.prog 171 [t.av,.d (ints l)] tok nt (I (givE t l)) tok nt:=by
 intro box nb;have h1:=valid_c4 t ht ht.hM;obtain ⟨N,hN⟩:∃ N,givE t l=N:=⟨_,rfl⟩
 rw [hN];unfold givE at hN;generalize tyE t=E at *;generalize tyN t=Z at *;refine sI Tryz.func171 Tryz.ntmps171 fun hbox htok=>?_
 repeat (first|simp|refine sR ?_)
 refine Stop.of_d (h1 _ _) ?_;repeat (first|simp|refine sR ?_)
 by_cases e1:E=0
 ·rw [if_pos e1] at hN;obtain ⟨p,hpp⟩:∃ p:Int→Bool,(fun a=>!insB t a)=p:=⟨_,rfl⟩
  have h2:=fun y box nb k hbk=>given1_c t y box nb k tok nt hbk
  have hpy:∀ y:Int,(!insB t y)=p y:=fun y=>by rw [←hpp]
  simp only [hpy] at h2;rw [hpp] at hN;refine sC ?_;simp [e1];repeat (first|simp|refine sR ?_)
  refine Stop.of_b (containsFunc_c l 235 [.ptr (nb+2) 0 0] p hl _ _ _ _ (fun c hc=>by rw [List.mem_singleton.1 hc]; simp [lb_at]) (fun y hy box' nb' he=>h2 y box' nb' _ (he _ _ (by simp [lb_at])))) ?_;simp;cases e2:anyB p l
  ·rw [e2,if_neg (by simp)] at hN;repeat (first|simp|refine sR ?_)
   refine sC ?_;repeat (first|simp|refine sR ?_)
   refine sT (sH hbox htok ?_);simp [packA,←hN]
  ·rw [e2,if_pos rfl] at hN;repeat (first|simp|refine sR ?_)
   refine sC ?_;repeat (first|simp|refine sR ?_)
   refine sT (sH hbox htok ?_);simp [packA,←hN]
 ·rw [if_neg e1] at hN;have b1:(E != 0)=true:=by simp [e1]
  refine sC ?_;simp [b1];repeat (first|simp|refine sR ?_)
  refine sT (sH hbox htok ?_);simp [packA,←hN]
def isB (t:Ty) (a b:Int):Bool:=decide (b∈upI t.pars a)
theorem is_c (t:Ty) (ht:t.Fit) (a b:Int) (h0:0≤a) (ha:a<t.nodes.length) (hp:∀ j,j<t.nodes.length→(t.nd j).par<j) (tok:Tks) (nt:Nat):DCall Tryz.prog 172 [t.av,I a,I b] tok nt (B (isB t a b)) tok nt:=by
 intro box nb;have hc:=line_c t (by have:=ht.n; omega) a h0 ha hp;have hlen:=upI_len t.pars a;have htn:=ht.n;obtain ⟨N,hN⟩:∃ N,isB t a b=N:=⟨_,rfl⟩
 rw [hN];unfold isB at hN;have hN2:decide (b∈(upI t.pars a).reverse)=N:=by rw [←hN]; simp
 have hl2:(upI t.pars a).reverse.length≤1000000:=by rw [List.length_reverse]; omega
 generalize (upI t.pars a).reverse=L at *;have hk:=contains_c L b hl2;rw [hN2] at hk;refine sI Tryz.func172 Tryz.ntmps172 fun hbox htok=>?_
 repeat (first|simp|refine sR ?_)
 refine Stop.of_d (hc _ _) ?_;repeat (first|simp|refine sR ?_)
 refine Stop.of_d (hk _ _) ?_;repeat (first|simp|refine sR ?_)
 refine sT (sH hbox htok ?_);simp [packA]
theorem tyE_par {t:Ty} (h:tyE t=0):∀ j,j<t.nodes.length→(t.nd j).par<j:=by
 unfold tyE at h;split at h
 ·cases h
 ·split at h
  ·cases h
  ·split at h
   ·cases h
   ·split at h
    ·rename_i h1;exact absurd h h1
    ·rename_i h1;exact fun j hj=>nodE_par (firstE_allZ _ (Decidable.not_not.1 h1) j hj)
def fitB (t:Ty) (e a b:Int):Bool :=
 if givE t [a,b]=0 then (if 0≤e then (if e<t.edges.length then (if isB t a (t.ed e.toNat).fr=true then isB t b (t.ed e.toNat).to else false) else false) else false) else false
theorem givE_in {t:Ty} {l:List Int} (h:givE t l=0):tyE t=0∧∀ a∈l,0≤a∧a<t.nodes.length:=by
 unfold givE at h;split at h
 ·rename_i h1;split at h
  ·cases h
  ·rename_i h2;refine ⟨h1,fun a ha=>?_⟩;simp only [anyB,List.any_eq_true,not_exists,not_and] at h2;have:=h2 a ha
   simpa [insB] using this
 ·rename_i h1;exact absurd h h1
theorem fits_c4 (t:Ty) (ht:t.Fit) (e a b:Int) (tok:Tks) (nt:Nat):DCall Tryz.prog 137 [t.av,I e,I a,I b] tok nt (B (fitB t e a b)) tok nt:=by
 intro box nb;have h1:=given_c t ht [a,b] (by simp);have hin:=@givE_in t [a,b];obtain ⟨N,hN⟩:∃ N,fitB t e a b=N:=⟨_,rfl⟩
 rw [hN];unfold fitB at hN;generalize givE t [a,b]=E at *;refine sI Tryz.func137 Tryz.ntmps137 fun hbox htok=>?_
 repeat (first|simp|refine sR ?_)
 refine ⟨rfl,?_⟩;refine Stop.data ?_;refine Stop.of_d (h1 _ _) ?_;simp;by_cases e1:E=0
 ·obtain ⟨htE,hin⟩:=hin e1;have ha:=hin a (by simp);have hb:=hin b (by simp);rw [if_pos e1] at hN;by_cases e2:0≤e
  ·have e2':¬ e<0:=by omega
   rw [if_pos e2] at hN;by_cases e3:e<t.edges.length
   ·have e3':¬ (t.edges.length:Int)≤e:=by omega
    rw [if_pos e3] at hN;obtain ⟨k,rfl⟩:=Int.eq_ofNat_of_zero_le e2;have hk:k<t.edges.length:=by omega
    rw [Int.toNat_natCast,ed_at hk] at hN;have c1:=is_c t ht a t.edges[k].fr ha.1 ha.2 (tyE_par htE);have c2:=is_c t ht b t.edges[k].to hb.1 hb.2 (tyE_par htE);repeat (first|simp [e1,e2',e3',hk]|refine sR ?_)
    refine sC ?_;simp [e1,e2',e3',hk];repeat (first|simp [hk]|refine sR ?_)
    refine Stop.of_d (c1 _ _) ?_;simp;cases f1:isB t a t.edges[k].fr
    ·rw [f1,if_neg (by simp)] at hN;repeat (first|simp|refine sR ?_)
     refine sT (sH hbox htok ?_);simp [packA,←hN]
    ·rw [f1,if_pos rfl] at hN;repeat (first|simp [hk]|refine sR ?_)
     refine Stop.of_d (c2 _ _) ?_;repeat (first|simp|refine sR ?_)
     refine sT (sH hbox htok ?_);simp [packA,←hN]
   ·have e3':(t.edges.length:Int)≤e:=by omega
    rw [if_neg e3] at hN;repeat (first|simp [e1,e2',e3']|refine sR ?_|refine sC ?_)
    refine sT (sH hbox htok ?_);simp [packA,←hN]
  ·have e2':e<0:=by omega
   rw [if_neg e2] at hN;repeat (first|simp [e1,e2']|refine sR ?_|refine sC ?_)
   refine sT (sH hbox htok ?_);simp [packA,←hN]
 ·rw [if_neg e1] at hN;have b1:(E != 0)=true:=by simp [e1]
  repeat (first|simp [b1]|refine sR ?_|refine sC ?_)
  refine sT (sH hbox htok ?_);simp [packA,←hN]
theorem below1Neg_c (t:Ty) (a b:Int) (h0:a<0) (hb:0≤b) (tok:Tks) (nt:Nat):DCall Tryz.prog 168 [t.av,I a,I b] tok nt (B false) tok nt:=by
 intro box nb;have h0':¬ 0≤a:=by omega
 have e:(a==b)=false:=by simp; omega
 refine sI Tryz.func168 Tryz.ntmps168 fun hbox htok=>?_
 repeat (first|simp [e,h0']|refine sR ?_)
 refine sT (sH hbox htok ?_);simp [packA]
theorem below1_c (t:Ty) (b:Int) (hb:0≤b) (hp:∀ j,j<t.nodes.length→(t.nd j).par<j):∀ (n:Nat) (a:Int),a<n→a<t.nodes.length→∀ (tok:Tks) (nt:Nat),DCall Tryz.prog 168 [t.av,I a,I b] tok nt (B (isB t a b)) tok nt
  | 0,a,ha,_,tok,nt=>by
    rw [show isB t a b=false by rw [isB,upI_neg (by omega)]; simp];exact below1Neg_c t a b (by omega) hb tok nt
  | n+1,a,ha,hl,tok,nt=>by
    by_cases h0:a<0
    · rw [show isB t a b=false by rw [isB,upI_neg h0]; simp]
      exact below1Neg_c t a b h0 hb tok nt
    · obtain ⟨k,rfl⟩:=Int.eq_ofNat_of_zero_le (show 0≤a by omega)
      have hk:k<t.nodes.length:=by omega
      have hpk:=hp k hk;have hup:=upI_up (ps:=t.pars) (a:=(k:Int)) (by omega) (by rw [Int.toNat_natCast,pars_getD t hk]; exact hpk);rw [Int.toNat_natCast,pars_getD t hk] at hup;have ih:=below1_c t b hb hp n (t.nd k).par (by omega) (by omega);intro box nb;by_cases e:(k:Int)=b
      · have e':((k:Int)==b)=true:=by simp [e]
        rw [show isB t k b=true by rw [isB,hup]; simp [e]];refine sI Tryz.func168 Tryz.ntmps168 fun hbox htok=>?_
        repeat (first|simp [e']|refine sR ?_)
        refine sT (sH hbox htok ?_);simp [packA]
      · have e':((k:Int)==b)=false:=by simp [e]
        have hB:isB t k b=isB t (t.nd k).par b:=by
         rw [isB,hup,isB]; simp only [List.mem_cons,decide_eq_decide]; constructor
         · rintro (h|h)
           · exact absurd h.symm e
           · exact h
         · exact .inr
        rw [hB];rw [nd_at hk] at ih ⊢;refine sI Tryz.func168 Tryz.ntmps168 fun hbox htok=>?_
        repeat (first|simp [e',hk]|refine sR ?_)
        refine Stop.of_d (ih _ _) ?_;repeat (first|simp|refine sR ?_)
        refine sT (sH hbox htok ?_);simp [packA]
theorem given04_c (t:Ty) (ht:t.Fit) (a b:Int) (tok:Tks) (nt:Nat):DCall Tryz.prog 166 [t.av,I a,I b] tok nt (I (givE t [a,b])) tok nt:=by
 intro box nb;have htn:=ht.n;have h1:=valid04_c t ht ht.hM;have i1:=in04_c a 0 ((t.nodes.length:Int) - 1);have i2:=in04_c b 0 ((t.nodes.length:Int) - 1);have hins:∀ n:Int,inZ n 0 ((t.nodes.length:Int) - 1)=insB t n:=fun n=>by simp only [inZ,insB]; congr 1; simp only [eq_iff_iff]; omega
 rw [hins] at i1 i2;have hw0:IntKind.i64.wrap ((t.nodes.length:Int) - 1)=(t.nodes.length:Int) - 1:=by rw [wrap_in (by omega) (by omega)]
 obtain ⟨N,hN⟩:∃ N,givE t [a,b]=N:=⟨_,rfl⟩
 rw [hN];unfold givE at hN;simp only [anyB,List.any_cons,List.any_nil,Bool.or_false] at hN;generalize tyE t=E at *;generalize tyN t=Z at *;refine sI Tryz.func166 Tryz.ntmps166 fun hbox htok=>?_
 repeat (first|simp|refine sR ?_)
 refine Stop.of_d (h1 _ _) ?_;repeat (first|simp|refine sR ?_)
 by_cases e1:E=0
 ·rw [if_pos e1] at hN;cases e2:insB t a
  ·rw [e2] at i1 hN;rw [if_pos (by simp)] at hN;refine sC ?_;simp [e1];repeat (first|simp [hw0]|refine sR ?_)
   refine Stop.of_d (i1 _ _) ?_;repeat (first|simp|refine sR ?_)
   refine sC ?_;repeat (first|simp|refine sR ?_)
   refine sT (sH hbox htok ?_);simp [packA,←hN]
  ·cases e3:insB t b
   ·rw [e2] at i1;rw [e3] at i2;rw [e2,e3,if_pos (by simp)] at hN;refine sC ?_;simp [e1];repeat (first|simp [hw0]|refine sR ?_)
    refine Stop.of_d (i1 _ _) ?_;simp;repeat (first|simp [hw0]|refine sR ?_)
    refine Stop.of_d (i2 _ _) ?_;repeat (first|simp|refine sR ?_)
    refine sC ?_;repeat (first|simp|refine sR ?_)
    refine sT (sH hbox htok ?_);simp [packA,←hN]
   ·rw [e2] at i1;rw [e3] at i2;rw [e2,e3,if_neg (by simp)] at hN;refine sC ?_;simp [e1];repeat (first|simp [hw0]|refine sR ?_)
    refine Stop.of_d (i1 _ _) ?_;simp;repeat (first|simp [hw0]|refine sR ?_)
    refine Stop.of_d (i2 _ _) ?_;repeat (first|simp|refine sR ?_)
    refine sC ?_;repeat (first|simp|refine sR ?_)
    refine sT (sH hbox htok ?_);simp [packA,←hN]
 ·rw [if_neg e1] at hN;have b1:(E != 0)=true:=by simp [e1]
  refine sC ?_;simp [b1];repeat (first|simp|refine sR ?_)
  refine sT (sH hbox htok ?_);simp [packA,←hN]
theorem edgE_in {t:Ty} {i:Nat} (h:edgE t i=0):0≤(t.ed i).fr∧0≤(t.ed i).to:=by
 unfold edgE at h;split at h
 ·cases h
 ·split at h
  ·cases h
  ·unfold edR at h;split at h
   ·cases h
   ·split at h
    ·cases h
    ·rename_i h1 h2;simp only [insB,decide_eq_false_iff_not] at h1 h2;omega
theorem tyE_edge {t:Ty} (h:tyE t=0):∀ j,j<t.edges.length→0≤(t.ed j).fr∧0≤(t.ed j).to:=by
 unfold tyE at h;split at h
 ·cases h
 ·split at h
  ·cases h
  ·split at h
   ·cases h
   ·split at h
    ·rename_i h1;exact absurd h h1
    ·exact fun j hj=>edgE_in (firstE_allZ _ h j hj)
theorem fits04_c (t:Ty) (ht:t.Fit) (e a b:Int) (tok:Tks) (nt:Nat):DCall Tryz.prog 98 [t.av,I e,I a,I b] tok nt (B (fitB t e a b)) tok nt:=by
 intro box nb;have hte:=ht.e;have h1:=given04_c t ht a b;have i1:=in04_c e 0 ((t.edges.length:Int) - 1);have hw0:IntKind.i64.wrap ((t.edges.length:Int) - 1)=(t.edges.length:Int) - 1:=by rw [wrap_in (by omega) (by omega)]
 have hin:=@givE_in t [a,b];obtain ⟨N,hN⟩:∃ N,fitB t e a b=N:=⟨_,rfl⟩
 rw [hN];unfold fitB at hN;generalize givE t [a,b]=E at *;refine sI Tryz.func98 Tryz.ntmps98 fun hbox htok=>?_
 repeat (first|simp|refine sR ?_)
 refine Stop.of_d (h1 _ _) ?_;simp;by_cases e1:E=0
 ·obtain ⟨htE,hin⟩:=hin e1;have ha:=hin a (by simp);have hb:=hin b (by simp);rw [if_pos e1] at hN;by_cases e2:0≤e
  ·rw [if_pos e2] at hN;by_cases e3:e<t.edges.length
   ·have ei:inZ e 0 ((t.edges.length:Int) - 1)=true:=by simp only [inZ,decide_eq_true_eq]; omega
    rw [ei] at i1;rw [if_pos e3] at hN;obtain ⟨k,rfl⟩:=Int.eq_ofNat_of_zero_le e2;have hk:k<t.edges.length:=by omega
    have hfr:=tyE_edge htE k hk;rw [ed_at hk] at hfr;rw [Int.toNat_natCast,ed_at hk] at hN;have c1:=below1_c t t.edges[k].fr hfr.1 (tyE_par htE) t.nodes.length a ha.2 ha.2;have c2:=below1_c t t.edges[k].to hfr.2 (tyE_par htE) t.nodes.length b hb.2 hb.2;repeat (first|simp [e1,hw0]|refine sR ?_)
    refine Stop.of_d (i1 _ _) ?_;repeat (first|simp [hk]|refine sR ?_|refine sC ?_)
    refine Stop.of_d (c1 _ _) ?_;simp;cases f1:isB t a t.edges[k].fr
    ·rw [f1,if_neg (by simp)] at hN;repeat (first|simp|refine sR ?_)
     refine sT (sH hbox htok ?_);simp [packA,←hN]
    ·rw [f1,if_pos rfl] at hN;repeat (first|simp [hk]|refine sR ?_)
     refine Stop.of_d (c2 _ _) ?_;repeat (first|simp|refine sR ?_)
     refine sT (sH hbox htok ?_);simp [packA,←hN]
   ·have ei:inZ e 0 ((t.edges.length:Int) - 1)=false:=by simp only [inZ,decide_eq_false_iff_not]; omega
    rw [ei] at i1;rw [if_neg e3] at hN;repeat (first|simp [e1,hw0]|refine sR ?_)
    refine Stop.of_d (i1 _ _) ?_;repeat (first|simp|refine sR ?_)
    refine sC ?_;repeat (first|simp|refine sR ?_)
    refine sT (sH hbox htok ?_);simp [packA,←hN]
  ·have ei:inZ e 0 ((t.edges.length:Int) - 1)=false:=by simp only [inZ,decide_eq_false_iff_not]; omega
   rw [ei] at i1;rw [if_neg e2] at hN;repeat (first|simp [e1,hw0]|refine sR ?_)
   refine Stop.of_d (i1 _ _) ?_;repeat (first|simp|refine sR ?_)
   refine sC ?_;repeat (first|simp|refine sR ?_)
   refine sT (sH hbox htok ?_);simp [packA,←hN]
 ·rw [if_neg e1] at hN;have b1:(E != 0)=true:=by simp [e1]
  repeat (first|simp [b1]|refine sR ?_|refine sC ?_)
  refine sT (sH hbox htok ?_);simp [packA,←hN]
def leafB (t:Ty) (k:Int):Bool:=!anyB (fun n=>n.par==k) t.nodes
def allP {α:Type} (p:α→Bool) (l:List α):Bool:=l.all p
theorem all_no {α:Type} {p:α→Bool} {l:List α} {i:Nat} (h:i<l.length) (hp:p l[i]=false):allP p l=false:=by
 unfold allP;rw [←Bool.not_eq_true,List.all_eq_true];intro h2;have:=h2 _ (List.getElem_mem h)
 rw [hp] at this;cases this
theorem all_more {α:Type} {p:α→Bool} {l:List α} {i:Nat} (h:i<l.length) (h1:allP p (l.take i)=true) (hp:p l[i]=true):allP p (l.take (i+1))=true:=by
 unfold allP at *;rw [List.take_succ_eq_append_getElem h,List.all_append,h1];simp [hp]
def lvN (t:Ty) (n:Int):Bool:=if (t.nodes.length:Int)≤n then false else leafB t n
def lvE (t:Ty) (g:Gr) (e:E):Bool:=fitB t e.ty (g.nodes.getD e.fr.toNat 0) (g.nodes.getD e.to.toNat 0)
def lvsB (t:Ty) (g:Gr):Bool:=if allP (lvN t) g.nodes=true then allP (lvE t g) g.edges else false
structure Xt where
 m:Mo
 g:Gr
structure Co where
 name:ByteArray
 kind:Int
 g:Gr
 exts:List Xt
abbrev Xt.cells (x:Xt):List D:=[ints x.m.nodes,ints x.m.edges,ints x.g.nodes,AM.edges x.g.edges]
abbrev xts (l:List Xt):D:=.sl 4 (l.map Xt.cells)
abbrev Xt.av (x:Xt):AV:=.agg [.d (ints x.m.nodes),.d (ints x.m.edges),.d (ints x.g.nodes),.d (AM.edges x.g.edges)]
abbrev Co.row (c:Co):List AV:=[Sb c.name,I c.kind,.d (ints c.g.nodes),.d (AM.edges c.g.edges),.d (xts c.exts)]
abbrev Co.av (c:Co):AV:=.agg c.row
structure Xt.Fit (x:Xt):Prop where
 m:x.m.Fit
 g:x.g.Fit
structure Co.Fit (c:Co):Prop where
 name:c.name.size≤200000000000000
 g:c.g.Fit
 n:c.exts.length≤1000000
 exts:∀ x∈c.exts,x.Fit
def lrgB (g:Gr):Bool:=if 6<g.nodes.length then true else decide (8<g.edges.length)
def xtE (p:Gr) (x:Xt):Int:=if validM p x.g x.m≠0 then validM p x.g x.m else if lrgB x.g=true then 3 else if injM p x.g x.m=true then 0 else 1
def xtAt (c:Co) (i:Nat):Int:=match c.exts[i]? with|some x=>xtE c.g x|none=>0
theorem xtAt_at {c:Co} {i:Nat} (h:i<c.exts.length):xtAt c i=xtE c.g c.exts[i]:=by simp [xtAt,h]
def kdE (c:Co):Int :=
 if c.kind=1 then if c.exts=[] then 0 else 1 else if c.kind=2 then if c.exts=[] then 7 else if 6<c.exts.length then 3 else 0 else 1
def shpE (c:Co):Int :=
 if nameB c.name=false then 2 else if kdE c≠0 then kdE c else if validG c.g≠0 then validG c.g else if lrgB c.g=true then 3 else firstE (xtAt c) c.exts.length
def lvX (t:Ty) (c:Co):Bool:=if lvsB t c.g=true then allP (fun x:Xt=>lvsB t x.g) c.exts else false
def cnE (t:Ty) (c:Co):Int:=if tyE t≠0 then tyE t else if shpE c≠0 then shpE c else if lvX t c=true then 0 else 13
theorem shpE_zero {c:Co} (h:shpE c=0):nameB c.name=true∧kdE c=0∧validG c.g=0∧lrgB c.g=false∧∀ x∈c.exts,validM c.g x.g x.m=0∧lrgB x.g=false∧injM c.g x.g x.m=true:=by
 unfold shpE at h;split at h
 ·cases h
 rename_i h1;split at h
 ·rename_i h2; exact absurd h h2
 rename_i h2;split at h
 ·rename_i h3; exact absurd h h3
 rename_i h3;split at h
 ·cases h
 rename_i h4;refine ⟨by simpa using h1,by simpa using h2,by simpa using h3,by simpa using h4,fun x hx=>?_⟩;obtain ⟨i,hi,rfl⟩:=List.getElem_of_mem hx;have h5:=firstE_allZ _ h i hi;rw [xtAt_at hi] at h5;unfold xtE at h5;split at h5
 ·rename_i h6; exact absurd h5 h6
 rename_i h6;split at h5
 ·cases h5
 rename_i h7;split at h5
 ·rename_i h8; exact ⟨by simpa using h6,by simpa using h7,h8⟩
 ·cases h5
theorem leafK1_c (x:NT) (y:Int) (box:Bxs) (nb k:Nat) (tok:Tks) (nt:Nat) (h1:box k=some [[I y]]) :
  ACalls Tryz.prog 170 [x.av,.ptr k 0 0] ⟨box,nb,tok,nt⟩ fun v m=>v=B (x.par==y)∧m=⟨box,nb,tok,nt⟩:=by
 refine sI Tryz.func170 Tryz.ntmps170 fun hbox htok=>?_
 have k1n:=key_lt hbox h1;repeat (first|simp [lb_out k1n,h1]|refine sR ?_)
 refine sT (sH hbox htok ?_);simp [packA]
theorem leafK_c (t:Ty) (ht:t.nodes.length≤1000000) (k:Int) (tok:Tks) (nt:Nat):DCall Tryz.prog 101 [t.av,I k] tok nt (B (leafB t k)) tok nt:=by
 intro box nb;obtain ⟨p,hpp⟩:∃ p:NT→Bool,(fun n=>n.par==k)=p:=⟨_,rfl⟩
 have h2:=fun y box nb q hbk=>leafK1_c y k box nb q tok nt hbk
 have hpy:∀ y:NT,(y.par==k)=p y:=fun y=>by rw [←hpp]
 simp only [hpy] at h2;unfold leafB;rw [hpp];refine sI Tryz.func101 Tryz.ntmps101 fun hbox htok=>?_
 repeat (first|simp|refine sR ?_)
 refine Stop.of_b (containsFuncN_c t.nodes 170 [.ptr (nb+3) 0 0] p ht _ _ _ _ (fun c hc=>by rw [List.mem_singleton.1 hc]; simp [lb_at]) (fun y hy box' nb' he=>h2 y box' nb' _ (he _ _ (by simp [lb_at])))) ?_;repeat (first|simp|refine sR ?_)
 refine sT (sH hbox htok ?_);simp [packA]
theorem leavesK1_c (t:Ty) (ht:t.Fit) (g:Gr) (e:E) (h0:0≤e.fr∧e.fr<g.nodes.length) (h2:0≤e.to∧e.to<g.nodes.length) (box:Bxs) (nb k1 k2:Nat) (tok:Tks) (nt:Nat) (h1:box k1=some [[.d (nts t.nodes),.d (ets t.edges)]]) (h3:box k2=some [[.d (ints g.nodes),.d (AM.edges g.edges)]]) :
  ACalls Tryz.prog 136 [.agg [I e.ty,I e.fr,I e.to],.ptr k1 0 0,.ptr k2 0 0] ⟨box,nb,tok,nt⟩ fun v m=>v=B (!lvE t g e)∧m=⟨box,nb,tok,nt⟩:=by
 obtain ⟨ty,fr,to'⟩:=e;simp only at h0 h2;obtain ⟨a,rfl⟩:=Int.eq_ofNat_of_zero_le h0.1;obtain ⟨b,rfl⟩:=Int.eq_ofNat_of_zero_le h2.1;have ha:a<g.nodes.length:=by omega
 have hb:b<g.nodes.length:=by omega
 have hc:=fits_c4 t ht ty g.nodes[a] g.nodes[b];have hL:lvE t g ⟨ty,a,b⟩=fitB t ty g.nodes[a] g.nodes[b]:=by simp [lvE,ha,hb]
 rw [hL];generalize fitB t ty g.nodes[a] g.nodes[b]=R at *;refine sI Tryz.func136 Tryz.ntmps136 fun hbox htok=>?_
 have k1n:=key_lt hbox h1;have k2n:=key_lt hbox h3;repeat (first|simp [lb_out k1n,lb_out k2n,h1,h3,ha,hb]|refine sR ?_)
 refine Stop.of_d (hc _ _) ?_;repeat (first|simp|refine sR ?_)
 refine sT (sH hbox htok ?_);simp [packA]
def stKv (t:Ty) (g:Gr) (nb:Nat) (box:Bxs) (tok:Tks) (nt:Nat) (i:Nat):AState :=
 ⟨tl [(10,I i),(9,I g.nodes.length),(8,.d (ints g.nodes)),(3,.ptr (nb+3) 0 0),(2,.ptr (nb+2) 0 0)],lb nb box [(3,[[.d (ints g.nodes),.d (AM.edges g.edges)]]),(2,[[.d (nts t.nodes),.d (ets t.edges)]])],tok,nt⟩
theorem leavesK_c (t:Ty) (ht:t.Fit) (g:Gr) (hg:g.Fit) (hv:∀ e∈g.edges,0≤e.fr∧e.fr<g.nodes.length∧0≤e.to∧e.to<g.nodes.length) (tok:Tks) (nt:Nat):DCall Tryz.prog 67 [t.av,g.av] tok nt (B (lvsB t g)) tok nt:=by
 intro box nb;have hgn:=hg.n;have hge:=hg.e;have htn:=ht.n;obtain ⟨N,hN⟩:∃ N,lvsB t g=N:=⟨_,rfl⟩
 rw [hN];unfold lvsB at hN;refine sI Tryz.func67 Tryz.ntmps67 fun hbox htok=>?_
 repeat (first|simp|refine sR ?_)
 refine sN ?_;refine AL.loopT (stKv t g nb box tok nt) (fun i=>i≤g.nodes.length∧allP (lvN t) (g.nodes.take i)=true) (fun i=>g.nodes.length - i) 0 ⟨Nat.zero_le _,by simp [allP]⟩ wkA ?_;rintro i S' ⟨hi,hok⟩ hS;simp only [stKv] at hS;subst hS;have hw:=sW (i:=i) (by omega);repeat (first|simp|refine sR ?_|refine sC ?_)
 refine ⟨fun hlt=>?_,fun hge=>?_⟩
 ·have hno:=fun h=>all_no (p:=lvN t) hlt h
  have hyes:=fun h=>all_more (p:=lvN t) hlt hok h
  have hl:lvN t g.nodes[i]=if (t.nodes.length:Int)≤g.nodes[i] then false else leafB t g.nodes[i]:=rfl
  have hc:=leafK_c t (by omega) g.nodes[i];by_cases e1:(t.nodes.length:Int)≤g.nodes[i]
  ·rw [if_pos e1] at hl;rw [hno hl,if_neg (by simp)] at hN;repeat (first|simp [hlt,e1]|refine sR ?_)
   refine sC ?_;simp [e1];repeat (first|simp|refine sR ?_)
   refine sT (sH hbox htok ?_);simp [packA,←hN]
  ·rw [if_neg e1] at hl;repeat (first|simp [hlt,e1]|refine sR ?_)
   refine Stop.of_d (hc _ _) ?_;simp;cases e2:leafB t g.nodes[i]
   ·rw [e2] at hl;rw [hno hl,if_neg (by simp)] at hN;repeat (first|simp|refine sR ?_)
    refine sC ?_;repeat (first|simp|refine sR ?_)
    refine sT (sH hbox htok ?_);simp [packA,←hN]
   ·rw [e2] at hl;repeat (first|simp [hw]|refine sR ?_|refine sC ?_)
    refine sE ?_;exact ⟨i+1,⟨hlt,hyes hl⟩,by omega,wkA⟩
 ·refine sX ?_;simp only [AU, ↓reduceIte];have:i=g.nodes.length:=by omega
  subst this;rw [List.take_length] at hok;rw [if_pos hok] at hN;obtain ⟨p,hpp⟩:∃ p:E→Bool,(fun e=>!lvE t g e)=p:=⟨_,rfl⟩
  have h2:=fun y (hy:y∈g.edges) box nb k1 k2 hk1 hk2=>leavesK1_c t ht g y ⟨(hv y hy).1,(hv y hy).2.1⟩ ⟨(hv y hy).2.2.1,(hv y hy).2.2.2⟩ box nb k1 k2 tok nt hk1 hk2
  have hpy:∀ y:E,(!lvE t g y)=p y:=fun y=>by rw [←hpp]
  simp only [hpy] at h2;have hN2:(!anyB p g.edges)=N:=by
   rw [←hN,←hpp,allP,anyB,List.any_eq_not_all_not,Bool.not_not];simp
  repeat (first|simp|refine sR ?_)
  have hcap:∀ c∈[AV.ptr (nb+2) 0 0,AV.ptr (nb+3) 0 0],OkIn (fun k=>(lb nb box [(3,[[.d (ints g.nodes),.d (AM.edges g.edges)]]),(2,[[.d (nts t.nodes),.d (ets t.edges)]])]) k≠none) (fun _=>True) c:=by
   intro c hc;simp only [List.mem_cons,List.not_mem_nil,or_false] at hc;rcases hc with h|h
   ·rw [h]; simp [lb_at]
   ·rw [h]; simp [lb_at]
  refine Stop.of_b (containsFuncE_c g.edges 136 [.ptr (nb+2) 0 0,.ptr (nb+3) 0 0] p hg.e _ _ _ _ hcap (fun y hy box' nb' he=>h2 y hy box' nb' _ _ (he _ _ (by simp [lb_at])) (he _ _ (by simp [lb_at])))) ?_;repeat (first|simp|refine sR ?_)
  refine sT (sH hbox htok ?_);simp [packA,←hN2]
def stKr (t:Ty) (k:Int) (nb:Nat) (box:Bxs) (tok:Tks) (nt:Nat) (i:Nat):AState :=
 ⟨tl [(5,I i),(1,I k),(2,.ptr (nb+2) 0 0)],lb nb box [(2,[[.d (nts t.nodes),.d (ets t.edges)]])],tok,nt⟩
theorem leafS_c (t:Ty) (ht:t.nodes.length≤1000000) (k:Int) (tok:Tks) (nt:Nat):DCall Tryz.prog 43 [t.av,I k] tok nt (B (leafB t k)) tok nt:=by
 intro box nb;obtain ⟨N,hN⟩:∃ N,leafB t k=N:=⟨_,rfl⟩
 rw [hN];have hN2:allP (fun n=>!(n.par==k)) t.nodes=N:=by rw [←hN,allP,leafB,anyB,List.any_eq_not_all_not,Bool.not_not]
 clear hN;refine sI Tryz.func43 Tryz.ntmps43 fun hbox htok=>?_
 repeat (first|simp|refine sR ?_)
 refine sN ?_;refine AL.loopT (stKr t k nb box tok nt) (fun i=>i≤t.nodes.length∧allP (fun n=>!(n.par==k)) (t.nodes.take i)=true) (fun i=>t.nodes.length - i) 0 ⟨Nat.zero_le _,by simp [allP]⟩ wkA ?_;rintro i S' ⟨hi,hok⟩ hS;simp only [stKr] at hS;subst hS;have hw:=sW (i:=i) (by omega);repeat (first|simp|refine sR ?_|refine sC ?_)
 refine ⟨fun hlt=>?_,fun hge=>?_⟩
 ·have hno:=fun h=>all_no (p:=fun n:NT=>!(n.par==k)) hlt h
  have hyes:=fun h=>all_more (p:=fun n:NT=>!(n.par==k)) hlt hok h
  cases e1:t.nodes[i].par==k
  ·repeat (first|simp [hlt,e1]|refine sR ?_)
   refine sC ?_;simp [e1];repeat (first|simp [hw]|refine sR ?_)
   refine sE ?_;exact ⟨i+1,⟨hlt,hyes (by simp only [e1]; rfl)⟩,by omega,wkA⟩
  ·rw [hno (by simp only [e1]; rfl)] at hN2;repeat (first|simp [hlt,e1]|refine sR ?_)
   refine sC ?_;simp [e1];repeat (first|simp|refine sR ?_)
   refine sT (sH hbox htok ?_);simp [packA,←hN2]
 ·refine sX ?_;simp only [AU, ↓reduceIte];have:i=t.nodes.length:=by omega
  subst this;rw [List.take_length] at hok;rw [hok] at hN2;repeat (first|simp|refine sR ?_)
  refine sT (sH hbox htok ?_);simp [packA,←hN2]
def stIX (xs:List Xt) (f:FuncId) (caps:List AV) (nb:Nat) (box:Bxs) (tok:Tks) (nt:Nat) (i:Nat):AState:=⟨tl [(0,.d (xts xs)),(1,.fn (.func f) caps),(7,I xs.length),(8,I i)],lb nb box [],tok,nt⟩
theorem indexFuncX_c (xs:List Xt) (f:FuncId) (caps:List AV) (p:Xt→Bool) (hx:xs.length≤1000000) (box:Bxs) (nb:Nat) (tok:Tks) (nt:Nat) (hc:∀ c∈caps,OkIn (fun k=>box k≠none) (fun _=>True) c)
  (hf:∀ x∈xs,∀ box' nb',Ext box box'→ACalls Tryz.prog f (x.av::caps) ⟨box',nb',tok,nt⟩ fun v m=>v=B (p x)∧m=⟨box',nb',tok,nt⟩) :
  ACalls Tryz.prog 138 [.d (xts xs),.fn (.func f) caps] ⟨box,nb,tok,nt⟩ fun v m=>v=I (if anyB p xs=true then (xs.findIdx p:Nat) else -1)∧m=⟨box,nb,tok,nt⟩:=by
 refine sI Tryz.func138 Tryz.ntmps138 fun hbox htok=>?_
 repeat (first|simp|refine sR ?_)
 refine sN ?_;refine AL.loopT (stIX xs f caps nb box tok nt) (fun i=>i≤xs.length∧∀ x∈xs.take i,p x=false) (fun i=>xs.length - i) 0 ⟨Nat.zero_le _,by simp⟩ (Weaks.mk (Nat.le_refl _) rfl (by simp [ToL]; exact .same (okFn hc hbox [] (by simp) rfl _)) trivial) ?_;rintro i S' ⟨hi,htk⟩ hS;simp only [stIX] at hS;subst hS;have hw:=sW (i:=i) (by omega);repeat (first|simp|refine sR ?_|refine sC ?_)
 refine ⟨fun hlt=>?_,fun hge=>?_⟩
 ·have hfx:=hf xs[i] (List.getElem_mem _);have hpx:p xs[i]=true→anyB p xs=true∧(xs.findIdx p=i):=fun he=>any_takeG hlt htk he
  have hmore:p xs[i]=false→∀ x∈xs.take (i+1),p x=false:=fun he x hx=>by
   rw [List.take_succ_eq_append_getElem hlt] at hx;rcases List.mem_append.1 hx with hx|hx
   ·exact htk x hx
   ·simp at hx; rw [hx]; exact he
  repeat (first|simp [hlt]|refine sR ?_)
  generalize xs[i]=x at *;refine Stop.of_b (hfx _ _ ((Ext.refl box).lb hbox [])) ?_;simp;cases he:p x
  ·refine sC ?_;simp;repeat (first|simp [hw]|refine sR ?_)
   refine sE ?_;refine ⟨i+1,⟨hlt,?_⟩,by omega,Weaks.mk (Nat.le_refl _) rfl (by simp [ToL]; exact .same (okFn hc hbox [] (by simp) rfl _)) trivial⟩;exact hmore he
  ·obtain ⟨h1,h2⟩:=hpx he;refine sC ?_;repeat (first|simp|refine sR ?_)
   refine sT (sH hbox htok ?_);simp [packA,h1,h2]
 ·have hn:anyB p xs=false:=by
   rw [List.take_of_length_le hge] at htk;simpa [anyB] using htk
  refine sX ?_;simp only [AU, ↓reduceIte];repeat (first|simp|refine sR ?_)
  refine sT (sH hbox htok ?_);simp [packA,hn]
theorem containsFuncX_c (xs:List Xt) (f:FuncId) (caps:List AV) (p:Xt→Bool) (hx:xs.length≤1000000) (box:Bxs) (nb:Nat) (tok:Tks) (nt:Nat) (hc:∀ c∈caps,OkIn (fun k=>box k≠none) (fun _=>True) c)
  (hf:∀ x∈xs,∀ box' nb',Ext box box'→ACalls Tryz.prog f (x.av::caps) ⟨box',nb',tok,nt⟩ fun v m=>v=B (p x)∧m=⟨box',nb',tok,nt⟩) :
  ACalls Tryz.prog 68 [.d (xts xs),.fn (.func f) caps] ⟨box,nb,tok,nt⟩ fun v m=>v=B (anyB p xs)∧m=⟨box,nb,tok,nt⟩:=by
 obtain ⟨A,hany⟩:∃ A,anyB p xs=A:=⟨_,rfl⟩
 have hi:=fun b nb' h1 h2=>indexFuncX_c xs f caps p hx b nb' tok nt h1 h2
 rw [hany];simp only [hany] at hi;refine sI Tryz.func68 Tryz.ntmps68 fun hbox htok=>?_
 repeat (first|simp|refine sR ?_)
 refine Stop.of_b (hi (lb nb box []) _ (fun c h=>(hc c h).mono (fun k hk=>by rw [hbox]; exact hk) fun _ h=>h) (fun x hx' box' nb' he=>hf x hx' box' nb' (by rw [hbox] at he; exact he))) ?_;simp;cases A
 ·repeat (first|simp|refine sR ?_)
  refine sT (sH hbox htok ?_);simp [packA]
 ·have h0:(0:Int)≤(xs.findIdx p:Nat):=by omega
  repeat (first|simp|refine sR ?_)
  refine sT (sH hbox htok ?_);simp [packA,h0]
theorem lrgK_c (g:Gr) (hg:g.Fit) (tok:Tks) (nt:Nat):DCall Tryz.prog 123 [g.av] tok nt (B (lrgB g)) tok nt:=by
 intro box nb;have hn:=hg.n;have he:=hg.e;obtain ⟨N,hN⟩:∃ N,lrgB g=N:=⟨_,rfl⟩
 rw [hN];unfold lrgB at hN;by_cases e1:6<g.nodes.length
 ·have e1':(6:Int)<g.nodes.length:=by omega
  rw [if_pos e1] at hN;refine sI Tryz.func123 Tryz.ntmps123 fun hbox htok=>?_
  try (simp [e1,e1'])
  repeat (first|(refine sR ?_; simp [e1,e1'])|(refine sC ?_; simp [e1,e1'])|(refine sX ?_; simp only [AU, ↓reduceIte]))
  refine sT (sH hbox htok ?_);simp [packA,←hN]
 ·have e1':¬ (6:Int)<g.nodes.length:=by omega
  rw [if_neg e1] at hN;by_cases e2:8<g.edges.length
  ·have e2':(8:Int)<g.edges.length:=by omega
   rw [decide_eq_true e2] at hN;refine sI Tryz.func123 Tryz.ntmps123 fun hbox htok=>?_
   try (simp [e1,e1',e2,e2'])
   repeat (first|(refine sR ?_; simp [e1,e1',e2,e2'])|(refine sC ?_; simp [e1,e1',e2,e2'])|(refine sX ?_; simp only [AU, ↓reduceIte]))
   refine sT (sH hbox htok ?_);simp [packA,←hN,e2']
  ·have e2':¬ (8:Int)<g.edges.length:=by omega
   rw [decide_eq_false e2] at hN;refine sI Tryz.func123 Tryz.ntmps123 fun hbox htok=>?_
   try (simp [e1,e1',e2,e2'])
   repeat (first|(refine sR ?_; simp [e1,e1',e2,e2'])|(refine sC ?_; simp [e1,e1',e2,e2'])|(refine sX ?_; simp only [AU, ↓reduceIte]))
   refine sT (sH hbox htok ?_);simp [packA,←hN,e2']
theorem kd_cases (c:Co):(c.kind=1∧c.exts=[]∧kdE c=0)∨(c.kind=1∧c.exts≠[]∧kdE c=1)∨(c.kind=2∧c.exts=[]∧kdE c=7)∨(c.kind=2∧c.exts≠[]∧6<c.exts.length∧kdE c=3)∨(c.kind=2∧c.exts≠[]∧¬ 6<c.exts.length∧kdE c=0)∨(c.kind≠1∧c.kind≠2∧kdE c=1):=by
 unfold kdE;by_cases h1:c.kind=1
 ·by_cases h2:c.exts=[] <;> simp [h1,h2]
 ·by_cases h2:c.kind=2
  ·by_cases h3:c.exts=[]
   ·simp [h2,h3]
   ·by_cases h4:6<c.exts.length <;> simp [h2,h3,h4]
  ·simp [h1,h2]
def stSx (c:Co) (nb:Nat) (box:Bxs) (tok:Tks) (nt:Nat) (i:Nat):AState :=
 ⟨tl [(59,I i),(58,I c.exts.length),(57,.d (xts c.exts)),(1,.ptr (nb+1) 0 0)],lb nb box [(1,[c.row])],tok,nt⟩
theorem shpK_c (c:Co) (hc:c.Fit) (tok:Tks) (nt:Nat):DCall Tryz.prog 60 [c.av] tok nt (I (shpE c)) tok nt:=by
 intro box nb;have h1:=isName_c c.name hc.name;have h2:=graphValid_c c.g hc.g;have h3:=lrgK_c c.g hc.g;have hxn:=hc.n;obtain ⟨N,hN⟩:∃ N,shpE c=N:=⟨_,rfl⟩
 rw [hN];unfold shpE at hN;generalize nameB c.name=B1 at *;generalize validG c.g=E2 at *;generalize lrgB c.g=B3 at *;cases B1
 ·rw [if_pos rfl] at hN;refine sI Tryz.func60 Tryz.ntmps60 fun hbox htok=>?_
  repeat (first|simp|refine sR ?_)
  refine Stop.of_d (h1 _ _) ?_;simp;try (simp)
  repeat (first|(refine sR ?_; simp)|(refine sC ?_; simp)|(refine sX ?_; simp only [AU, ↓reduceIte]))
  refine sT (sH hbox htok ?_);simp [packA,←hN]
 ·rw [if_neg (by simp)] at hN;have xp:=fun (h:c.exts≠[])=>List.length_pos_iff.2 h
  rcases kd_cases c with ⟨k1,x1,kd⟩|⟨k1,x1,kd⟩|⟨k1,x1,kd⟩|⟨k1,x1,x2,kd⟩|⟨k1,x1,x2,kd⟩|⟨k1,k2,kd⟩
  ·rw [if_neg (by rw [kd]; decide)] at hN;refine sI Tryz.func60 Tryz.ntmps60 fun hbox htok=>?_
   repeat (first|simp|refine sR ?_)
   refine Stop.of_d (h1 _ _) ?_;simp;try (simp [k1,x1])
   repeat (first|(refine sR ?_; simp [k1,x1])|(refine sC ?_; simp [k1,x1])|(refine sX ?_; simp only [AU, ↓reduceIte]))
   refine Stop.of_d (h2 _ _) ?_;repeat (first|simp|refine sR ?_)
   by_cases v0:E2=0
   ·rw [if_neg (by simp [v0])] at hN;refine sC ?_;simp [v0];repeat (first|simp|refine sR ?_)
    refine Stop.of_d (h3 _ _) ?_;simp;cases B3
    ·rw [if_neg (by simp)] at hN;repeat (first|simp|refine sR ?_)
     refine sC ?_;repeat (first|simp|refine sR ?_)
     refine sN ?_;refine AL.loopT (stSx c nb box tok nt) (fun i=>i≤c.exts.length∧firstE (xtAt c) i=0) (fun i=>c.exts.length - i) 0 ⟨Nat.zero_le _,rfl⟩ wkA ?_;rintro i S' ⟨hi,hok⟩ hS;simp only [stSx] at hS;subst hS;have hw:=sW (i:=i) (by omega);repeat (first|simp|refine sR ?_|refine sC ?_)
     refine ⟨fun hlt=>?_,fun hge=>?_⟩
     ·have hx:=hc.exts _ (List.getElem_mem hlt);have hR:xtAt c i≠0→firstE (xtAt c) c.exts.length=xtAt c i:=fun h0=>firstE_stop hok h0 _ hlt
      have hnx:xtAt c i=0→firstE (xtAt c) (i+1)=0:=fun h0=>by simp only [firstE,hok,h0, ↓reduceIte]
      have hd:xtAt c i=xtE c.g c.exts[i]:=xtAt_at hlt
      unfold xtE at hd;have c1:=valid51_c c.g c.exts[i].g c.exts[i].m hc.g hx.g;have c2:=lrgK_c c.exts[i].g hx.g;have c3:=injective56_c c.g c.exts[i].g c.exts[i].m hc.g hx.g hx.m;generalize xtAt c i=E at *;repeat (first|simp [hlt]|refine sR ?_)
      refine Stop.of_d (c1 _ _) ?_;repeat (first|simp|refine sR ?_)
      by_cases f1:validM c.g c.exts[i].g c.exts[i].m=0
      ·rw [if_neg (by simp [f1])] at hd;simp only [f1];refine sC ?_;repeat (first|simp|refine sR ?_)
       refine Stop.of_d (c2 _ _) ?_;simp;cases f2:lrgB c.exts[i].g
       ·rw [f2,if_neg (by simp)] at hd;repeat (first|simp|refine sR ?_)
        refine sC ?_;repeat (first|simp|refine sR ?_)
        refine Stop.of_d (c3 _ _) ?_;simp;cases f3:injM c.g c.exts[i].g c.exts[i].m
        ·rw [f3,if_neg (by simp)] at hd;rw [hR (by rw [hd]; decide),hd] at hN;repeat (first|simp|refine sR ?_)
         refine sC ?_;repeat (first|simp|refine sR ?_)
         refine sT (sH hbox htok ?_);simp [packA,←hN]
        ·rw [f3,if_pos rfl] at hd;repeat (first|simp [hw]|refine sR ?_|refine sC ?_)
         refine sE ?_;exact ⟨i+1,⟨hlt,hnx hd⟩,by omega,wkA⟩
       ·rw [f2,if_pos rfl] at hd;rw [hR (by rw [hd]; decide),hd] at hN;repeat (first|simp|refine sR ?_)
        refine sC ?_;repeat (first|simp|refine sR ?_)
        refine sT (sH hbox htok ?_);simp [packA,←hN]
      ·rw [if_pos f1] at hd;have b1:(validM c.g c.exts[i].g c.exts[i].m != 0)=true:=by simp [f1]
       rw [hR (by rw [hd]; exact f1),hd] at hN;simp only [b1];refine sC ?_;repeat (first|simp|refine sR ?_)
       refine sT (sH hbox htok ?_);simp [packA,←hN]
     ·refine sX ?_;simp only [AU, ↓reduceIte];have:i=c.exts.length:=by omega
      subst this;rw [hok] at hN;repeat (first|simp|refine sR ?_)
      refine sT (sH hbox htok ?_);simp [packA,←hN]
    ·rw [if_pos rfl] at hN;repeat (first|simp|refine sR ?_)
     refine sC ?_;repeat (first|simp|refine sR ?_)
     refine sT (sH hbox htok ?_);simp [packA,←hN]
   ·have b0:(E2 != 0)=true:=by simp [v0]
    rw [if_pos v0] at hN;refine sC ?_;simp [v0,b0];repeat (first|simp|refine sR ?_)
    refine sT (sH hbox htok ?_);simp [packA,←hN]
  ·rw [if_pos (by rw [kd]; decide),kd] at hN;have x1':=xp x1
   refine sI Tryz.func60 Tryz.ntmps60 fun hbox htok=>?_
   repeat (first|simp|refine sR ?_)
   refine Stop.of_d (h1 _ _) ?_;simp;try (simp [k1,x1,x1'])
   repeat (first|(refine sR ?_; simp [k1,x1,x1'])|(refine sC ?_; simp [k1,x1,x1'])|(refine sX ?_; simp only [AU, ↓reduceIte]))
   refine sT (sH hbox htok ?_);simp [packA,←hN]
  ·rw [if_pos (by rw [kd]; decide),kd] at hN;refine sI Tryz.func60 Tryz.ntmps60 fun hbox htok=>?_
   repeat (first|simp|refine sR ?_)
   refine Stop.of_d (h1 _ _) ?_;simp;try (simp [k1,x1])
   repeat (first|(refine sR ?_; simp [k1,x1])|(refine sC ?_; simp [k1,x1])|(refine sX ?_; simp only [AU, ↓reduceIte]))
   refine sT (sH hbox htok ?_);simp [packA,←hN]
  ·rw [if_pos (by rw [kd]; decide),kd] at hN;have x2':(6:Int)<c.exts.length:=by omega
   refine sI Tryz.func60 Tryz.ntmps60 fun hbox htok=>?_
   repeat (first|simp|refine sR ?_)
   refine Stop.of_d (h1 _ _) ?_;simp;try (simp [k1,x1,x2,x2'])
   repeat (first|(refine sR ?_; simp [k1,x1,x2,x2'])|(refine sC ?_; simp [k1,x1,x2,x2'])|(refine sX ?_; simp only [AU, ↓reduceIte]))
   refine sT (sH hbox htok ?_);simp [packA,←hN]
  ·rw [if_neg (by rw [kd]; decide)] at hN;have x2':¬ (6:Int)<c.exts.length:=by omega
   refine sI Tryz.func60 Tryz.ntmps60 fun hbox htok=>?_
   repeat (first|simp|refine sR ?_)
   refine Stop.of_d (h1 _ _) ?_;simp;try (simp [k1,x1,x2,x2'])
   repeat (first|(refine sR ?_; simp [k1,x1,x2,x2'])|(refine sC ?_; simp [k1,x1,x2,x2'])|(refine sX ?_; simp only [AU, ↓reduceIte]))
   refine Stop.of_d (h2 _ _) ?_;repeat (first|simp|refine sR ?_)
   by_cases v0:E2=0
   ·rw [if_neg (by simp [v0])] at hN;refine sC ?_;simp [v0];repeat (first|simp|refine sR ?_)
    refine Stop.of_d (h3 _ _) ?_;simp;cases B3
    ·rw [if_neg (by simp)] at hN;repeat (first|simp|refine sR ?_)
     refine sC ?_;repeat (first|simp|refine sR ?_)
     refine sN ?_;refine AL.loopT (stSx c nb box tok nt) (fun i=>i≤c.exts.length∧firstE (xtAt c) i=0) (fun i=>c.exts.length - i) 0 ⟨Nat.zero_le _,rfl⟩ wkA ?_;rintro i S' ⟨hi,hok⟩ hS;simp only [stSx] at hS;subst hS;have hw:=sW (i:=i) (by omega);repeat (first|simp|refine sR ?_|refine sC ?_)
     refine ⟨fun hlt=>?_,fun hge=>?_⟩
     ·have hx:=hc.exts _ (List.getElem_mem hlt);have hR:xtAt c i≠0→firstE (xtAt c) c.exts.length=xtAt c i:=fun h0=>firstE_stop hok h0 _ hlt
      have hnx:xtAt c i=0→firstE (xtAt c) (i+1)=0:=fun h0=>by simp only [firstE,hok,h0, ↓reduceIte]
      have hd:xtAt c i=xtE c.g c.exts[i]:=xtAt_at hlt
      unfold xtE at hd;have c1:=valid51_c c.g c.exts[i].g c.exts[i].m hc.g hx.g;have c2:=lrgK_c c.exts[i].g hx.g;have c3:=injective56_c c.g c.exts[i].g c.exts[i].m hc.g hx.g hx.m;generalize xtAt c i=E at *;repeat (first|simp [hlt]|refine sR ?_)
      refine Stop.of_d (c1 _ _) ?_;repeat (first|simp|refine sR ?_)
      by_cases f1:validM c.g c.exts[i].g c.exts[i].m=0
      ·rw [if_neg (by simp [f1])] at hd;simp only [f1];refine sC ?_;repeat (first|simp|refine sR ?_)
       refine Stop.of_d (c2 _ _) ?_;simp;cases f2:lrgB c.exts[i].g
       ·rw [f2,if_neg (by simp)] at hd;repeat (first|simp|refine sR ?_)
        refine sC ?_;repeat (first|simp|refine sR ?_)
        refine Stop.of_d (c3 _ _) ?_;simp;cases f3:injM c.g c.exts[i].g c.exts[i].m
        ·rw [f3,if_neg (by simp)] at hd;rw [hR (by rw [hd]; decide),hd] at hN;repeat (first|simp|refine sR ?_)
         refine sC ?_;repeat (first|simp|refine sR ?_)
         refine sT (sH hbox htok ?_);simp [packA,←hN]
        ·rw [f3,if_pos rfl] at hd;repeat (first|simp [hw]|refine sR ?_|refine sC ?_)
         refine sE ?_;exact ⟨i+1,⟨hlt,hnx hd⟩,by omega,wkA⟩
       ·rw [f2,if_pos rfl] at hd;rw [hR (by rw [hd]; decide),hd] at hN;repeat (first|simp|refine sR ?_)
        refine sC ?_;repeat (first|simp|refine sR ?_)
        refine sT (sH hbox htok ?_);simp [packA,←hN]
      ·rw [if_pos f1] at hd;have b1:(validM c.g c.exts[i].g c.exts[i].m != 0)=true:=by simp [f1]
       rw [hR (by rw [hd]; exact f1),hd] at hN;simp only [b1];refine sC ?_;repeat (first|simp|refine sR ?_)
       refine sT (sH hbox htok ?_);simp [packA,←hN]
     ·refine sX ?_;simp only [AU, ↓reduceIte];have:i=c.exts.length:=by omega
      subst this;rw [hok] at hN;repeat (first|simp|refine sR ?_)
      refine sT (sH hbox htok ?_);simp [packA,←hN]
    ·rw [if_pos rfl] at hN;repeat (first|simp|refine sR ?_)
     refine sC ?_;repeat (first|simp|refine sR ?_)
     refine sT (sH hbox htok ?_);simp [packA,←hN]
   ·have b0:(E2 != 0)=true:=by simp [v0]
    rw [if_pos v0] at hN;refine sC ?_;simp [v0,b0];repeat (first|simp|refine sR ?_)
    refine sT (sH hbox htok ?_);simp [packA,←hN]
  ·rw [if_pos (by rw [kd]; decide),kd] at hN;have b1:(c.kind==1)=false:=by simp [k1]
   have b2:(c.kind==2)=false:=by simp [k2]
   have b3:(c.kind != 1)=true:=by simp [k1]
   have b4:(c.kind != 2)=true:=by simp [k2]
   refine sI Tryz.func60 Tryz.ntmps60 fun hbox htok=>?_
   repeat (first|simp|refine sR ?_)
   refine Stop.of_d (h1 _ _) ?_;simp;try (simp [k1,k2,b1,b2,b3,b4])
   repeat (first|(refine sR ?_; simp [k1,k2,b1,b2,b3,b4])|(refine sC ?_; simp [k1,k2,b1,b2,b3,b4])|(refine sX ?_; simp only [AU, ↓reduceIte]))
   refine sT (sH hbox htok ?_);simp [packA,←hN]
theorem validK1_c (t:Ty) (ht:t.Fit) (x:Xt) (hx:x.g.Fit) (hv:∀ e∈x.g.edges,0≤e.fr∧e.fr<x.g.nodes.length∧0≤e.to∧e.to<x.g.nodes.length) (box:Bxs) (nb k1:Nat) (tok:Tks) (nt:Nat) (h1:box k1=some [[.d (nts t.nodes),.d (ets t.edges)]]) :
  ACalls Tryz.prog 69 [x.av,.ptr k1 0 0] ⟨box,nb,tok,nt⟩ fun v m=>v=B (!lvsB t x.g)∧m=⟨box,nb,tok,nt⟩:=by
 have hc:=leavesK_c t ht x.g hx hv;generalize lvsB t x.g=R at *;refine sI Tryz.func69 Tryz.ntmps69 fun hbox htok=>?_
 have k1n:=key_lt hbox h1;repeat (first|simp [lb_out k1n,h1]|refine sR ?_)
 refine Stop.of_d (hc _ _) ?_;repeat (first|simp|refine sR ?_)
 refine sT (sH hbox htok ?_);simp [packA]
theorem validK_c (t:Ty) (ht:t.Fit) (c:Co) (hc:c.Fit) (tok:Tks) (nt:Nat):DCall Tryz.prog 17 [t.av,c.av] tok nt (I (cnE t c)) tok nt:=by
 intro box nb;have h1:=valid_c4 t ht ht.hM;have h2:=shpK_c c hc;have hv:=@shpE_zero c;obtain ⟨N,hN⟩:∃ N,cnE t c=N:=⟨_,rfl⟩
 rw [hN];unfold cnE at hN;generalize tyE t=E at *;generalize tyN t=Z at *;generalize shpE c=S at *;refine sI Tryz.func17 Tryz.ntmps17 fun hbox htok=>?_
 repeat (first|simp|refine sR ?_)
 refine Stop.of_d (h1 _ _) ?_;repeat (first|simp|refine sR ?_)
 by_cases e1:E=0
 ·rw [if_neg (by simp [e1])] at hN;refine sC ?_;simp [e1];repeat (first|simp|refine sR ?_)
  refine Stop.of_d (h2 _ _) ?_;repeat (first|simp|refine sR ?_)
  by_cases e2:S=0
  ·rw [if_neg (by simp [e2])] at hN;obtain ⟨_,_,v1,_,v2⟩:=hv e2;have l1:=leavesK_c t ht c.g hc.g (validG_edges v1);have l2:=fun x (hx:x∈c.exts)=>validK1_c t ht x (hc.exts x hx).g (validG_edges (validM_VM (v2 x hx).1).vb)
   unfold lvX at hN;refine sC ?_;simp [e2];repeat (first|simp|refine sR ?_)
   refine Stop.of_d (l1 _ _) ?_;simp;cases e3:lvsB t c.g
   ·rw [e3,if_neg (by simp)] at hN;repeat (first|simp|refine sR ?_)
    refine sC ?_;repeat (first|simp|refine sR ?_)
    refine sT (sH hbox htok ?_);simp [packA,←hN]
   ·rw [e3,if_pos rfl] at hN;obtain ⟨p,hpp⟩:∃ p:Xt→Bool,(fun x:Xt=>!lvsB t x.g)=p:=⟨_,rfl⟩
    have hpy:∀ y:Xt,(!lvsB t y.g)=p y:=fun y=>by rw [←hpp]
    simp only [hpy] at l2;have hN2:(!anyB p c.exts)=allP (fun x:Xt=>lvsB t x.g) c.exts:=by
     rw [←hpp,allP,anyB,List.any_eq_not_all_not,Bool.not_not];simp
    rw [←hN2] at hN;repeat (first|simp|refine sR ?_)
    refine Stop.of_b (containsFuncX_c c.exts 69 [.ptr (nb+2) 0 0] p hc.n _ _ _ _ (fun c hc=>by rw [List.mem_singleton.1 hc]; simp [lb_at]) (fun y hy box' nb' he=>l2 y hy box' nb' _ _ _ (he _ _ (by simp [lb_at])))) ?_;simp;cases e4:anyB p c.exts
    ·rw [e4,Bool.not_false,if_pos rfl] at hN;repeat (first|simp|refine sR ?_)
     refine sC ?_;repeat (first|simp|refine sR ?_)
     refine sT (sH hbox htok ?_);simp [packA,←hN]
    ·rw [e4,Bool.not_true,if_neg (by simp)] at hN;repeat (first|simp|refine sR ?_)
     refine sC ?_;repeat (first|simp|refine sR ?_)
     refine sT (sH hbox htok ?_);simp [packA,←hN]
  ·rw [if_pos e2] at hN;have b2:(S != 0)=true:=by simp [e2]
   refine sC ?_;simp [b2];repeat (first|simp|refine sR ?_)
   refine sT (sH hbox htok ?_);simp [packA,←hN]
 ·rw [if_pos e1] at hN;have b1:(E != 0)=true:=by simp [e1]
  refine sC ?_;simp [b1];repeat (first|simp|refine sR ?_)
  refine sT (sH hbox htok ?_);simp [packA,←hN]
variable {P:Program}
section
variable (R:AV→AV→Prop)
def CvR (r r':List AV):Prop:=r.length=r'.length∧∀ i (h1:i<r.length) (h2:i<r'.length),R r[i] r'[i]
def CvRs (r r':List (List AV)):Prop:=r.length=r'.length∧∀ i (h1:i<r.length) (h2:i<r'.length),CvR R r[i] r'[i]
def CvL:List (Nat × AV)→List (Nat × AV)→Prop
 | [],[]=>True
 | (i,x)::a,(j,y)::b=>i=j∧R x y∧CvL a b
 | _,_=>False
def CvB:List (Nat × List (List AV))→List (Nat × List (List AV))→Prop
 | [],[]=>True
 | (i,x)::a,(j,y)::b=>i=j∧CvRs R x y∧CvB a b
 | _,_=>False
end
section
variable {R:AV→AV→Prop}
theorem CvL.at (h0:R .bot .bot):∀ {l l':List (Nat × AV)},CvL R l l'→∀ i,R (tl l i) (tl l' i)
 | [],[],_,i=>h0
 | (i,x)::a,(j,y)::b,h,q=>by
  obtain ⟨rfl,h1,h2⟩:=h;rw [tl_cons,tl_cons];split
  ·exact h1
  ·exact CvL.at h0 h2 q
 | [],_::_,h,_=>h.elim
 | _::_,[],h,_=>h.elim
theorem CvB.at:∀ {l l':List (Nat × List (List AV))},CvB R l l'→∀ i,(lk l i=none∧lk l' i=none)∨∃ r r',lk l i=some r∧lk l' i=some r'∧CvRs R r r'
 | [],[],_,i=>.inl ⟨rfl,rfl⟩
 | (i,x)::a,(j,y)::b,h,q=>by
  obtain ⟨rfl,h1,h2⟩:=h;rw [lk_cons,lk_cons];split
  ·exact .inr ⟨x,y,rfl,rfl,h1⟩
  ·exact CvB.at h2 q
 | [],_::_,h,_=>h.elim
 | _::_,[],h,_=>h.elim
theorem CvRs.flat:∀ {r r':List (List AV)},CvRs R r r'→CvR R r.flatten r'.flatten
 | [],[],_=>⟨rfl,fun i h=>by simp at h⟩
 | x::a,y::b,h=>by
  have h0:=h.2 0 (by simp) (by simp);have ih:CvR R a.flatten b.flatten:=CvRs.flat ⟨by simpa using h.1,fun i h1 h2=>h.2 (i+1) (by simpa using h1) (by simpa using h2)⟩
  simp only [List.getElem_cons_zero] at h0;refine ⟨by simp [h0.1,ih.1],fun i h1 h2=>?_⟩;have hl:=h0.1;have hi2:=ih.1;simp only [List.flatten_cons] at h1 h2 ⊢;rw [List.length_append] at h1 h2;by_cases hi:i<x.length
  ·have e1:(x++a.flatten)[i]'(by rw [List.length_append]; omega)=x[i]:=List.getElem_append_left hi
   have e2:(y++b.flatten)[i]'(by rw [List.length_append]; omega)=y[i]'(by omega):=List.getElem_append_left (by omega)
   rw [e1,e2];exact h0.2 i hi _
  ·have e1:(x++a.flatten)[i]'(by rw [List.length_append]; omega)=a.flatten[i - x.length]'(by omega):=List.getElem_append_right (by omega)
   have e2:(y++b.flatten)[i]'(by rw [List.length_append]; omega)=b.flatten[i - y.length]'(by omega):=List.getElem_append_right (by omega)
   rw [e1,e2];have:=ih.2 (i - x.length) (by omega) (by omega)
   simp only [hl] at this ⊢;exact this
 | [],_::_,h=>by have:=h.1; simp at this
 | _::_,[],h=>by have:=h.1; simp at this
theorem CvR.vs {G:Gh} {w:World} (hto:∀ x y v,R x y→RV G w x v→RV G w y v) {xs ys:List AV} {vs:List Value} (h:CvR R xs ys) (hr:RVs G w xs vs):RVs G w ys vs :=
 ⟨h.1.symm.trans hr.1,fun i h1 h2=>hto _ _ _ (h.2 i (by rw [h.1]; exact h1) h1) (hr.2 i _ h2)⟩
theorem RelM.rows {G:Gh} {w:World} {base nb nt:Nat} {out:Bxs} {loc loc':List (Nat × List (List AV))} {tok:Nat→Bool} (hto:∀ x y v,R x y→RV G w x v→RV G w y v) (hb:CvB R loc loc')
  (hm:RelM G ⟨lb base out loc,nb,tok,nt⟩ w):RelM G ⟨lb base out loc',nb,tok,nt⟩ w:=by
 constructor
 case box =>
  intro k rows b z hk hbx;simp only at hk;by_cases hkb:k<base
  ·rw [lb_out hkb] at hk;exact hm.box k rows b z (by simp only; rw [lb_out hkb]; exact hk) hbx
  ·have hkk:k=base+(k - base):=by omega
   rw [hkk,lb_at] at hk;rcases hb.at (k - base) with ⟨_,h2⟩|⟨r0,r',h1,h2,h3⟩
   ·rw [h2] at hk; cases hk
   ·rw [h2] at hk;cases hk;obtain ⟨g1,cs,e,g2,g3,g4,g5⟩:=hm.box k r0 b z (by simp only; rw [hkk,lb_at]; exact h1) hbx;refine ⟨g1,cs,e,g2,fun q hq=>?_,h3.flat.vs hto g4,g5⟩;obtain ⟨i,hi,rfl⟩:=List.getElem_of_mem hq;have hi0:i<r0.length:=by rw [h3.1]; exact hi
    rw [←(h3.2 i hi0 hi).1];exact g3 _ (List.getElem_mem _)
 case nobox =>
  intro k hk;refine hm.nobox k ?_;simp only at hk ⊢;by_cases hkb:k<base
  ·rw [lb_out hkb] at hk ⊢; exact hk
  ·have hkk:k=base+(k - base):=by omega
   rw [hkk,lb_at] at hk ⊢;rcases hb.at (k - base) with ⟨h1,_⟩|⟨r0,r',_,h2,_⟩
   ·exact h1
   ·rw [h2] at hk; cases hk
 case inj=>exact hm.inj
 case nb =>
  intro k hk;have h0:=hm.nb k hk;simp only at h0 ⊢;by_cases hkb:k<base
  ·rw [lb_out hkb] at h0 ⊢; exact h0
  ·have hkk:k=base+(k - base):=by omega
   rw [hkk,lb_at] at h0 ⊢;rcases hb.at (k - base) with ⟨_,h2⟩|⟨r0,r',h1,_,_⟩
   ·exact h2
   ·rw [h1] at h0; cases h0
 case nt=>exact hm.nt
 case toks=>exact hm.toks
 case tokb=>exact hm.tokb
 case tinj=>exact hm.tinj
 case tnt=>exact hm.tnt
 case glob=>exact hm.glob
 case fresh=>exact hm.fresh
end
inductive OpTo (t sz:Nat):AV→AV→Prop
 | bot {x}:OpTo t sz x .bot
 | same {x}:OpTo t sz x x
 | nil {n}:OpTo t sz (.osl n [] .full) (.stk t sz [])
theorem OpTo.rv {G:Gh} {w:World} {t sz:Nat} (ht:t<G.nt) (hk:G.tk t=some none) {x y:AV} {v:Value} (h:OpTo t sz x y) (hr:RV G w x v):RV G w y v:=by
 cases h with
 | bot=>exact .bot
 | same=>exact hr
 | nil =>
  cases hr with
  | osl _ ho =>
   obtain ⟨A,rfl,_⟩:=ho;refine .stk ⟨ht,A,0,rfl,Nat.le_refl _,Nat.zero_le _,fun x hx=>?_⟩;rw [hk] at hx;cases hx;rfl
theorem Trans.opn {cx:Cx} {nt0 nt:Nat} {l l':List (Nat × AV)} {out:Bxs} {loc loc':List (Nat × List (List AV))} {tok:Nat→Bool} (sz:Nat)
  (hl:CvL (OpTo nt sz) l l') (hb:CvB (OpTo nt sz) loc loc') :
  Trans cx nt0 ⟨tl l,lb cx.base out loc,tok,nt⟩ ⟨tl l',lb cx.base out loc',upd tok nt true,nt+1⟩:=by
 intro G0 w0 G a w he hn0 hS hL;have hm:=hS.mem;have hgnt:G.nt=nt:=hm.nt
 have hle:=Le.newtok (G:=G) (w:=w) none;have hm':=hm.newtok none (fun g h=>by cases h)
 have h1:nt<(G.newtok none).nt:=by simp only [Gh.newtok]; omega
 have h2:(G.newtok none).tk nt=some none:=by simp only [Gh.newtok]; rw [←hgnt,upd_same]
 refine ⟨G.newtok none,⟨hS.defers,hS.size,fun i=>(hl.at .bot i).rv h1 h2 ((hS.tmps i).mono hle),hm'.rows (fun x y v h hr=>h.rv h1 h2 hr) hb⟩,?_⟩;refine hL.step ⟨hle,fun k hkb hg=>⟨hg,?_⟩⟩;simp only;rw [lb_out hkb,lb_out hkb]
section
variable {t sz:Nat}
@[simp] theorem opTo_bot (x:AV):OpTo t sz x .bot:=.bot
@[simp] theorem opTo_same (x:AV):OpTo t sz x x:=.same
@[simp] theorem opTo_nil (n:Nat):OpTo t sz (.osl n [] .full) (.stk t sz []):=.nil
end
@[simp] theorem to_stk {p:Nat→Prop} {fz:Option (Nat × Nat × List (List D))} (t sz:Nat) (es:List (List D)):To p (fun _=>True) fz (.stk t sz es) (.stk t sz es):=.same (.stk trivial)
@[simp] theorem to_que {p:Nat→Prop} {fz:Option (Nat × Nat × List (List D))} (t sz:Nat) (es:List (List D)):To p (fun _=>True) fz (.que t sz es) (.que t sz es):=.same (.que trivial)
@[simp] theorem okIn_que {p q:Nat→Prop} {t sz:Nat} {es:List (List D)}:OkIn p q (.que t sz es)↔q t:=⟨fun h=>by cases h; assumption,.que⟩
@[simp] theorem okIn_stk {p q:Nat→Prop} {t sz:Nat} {es:List (List D)}:OkIn p q (.stk t sz es)↔q t:=⟨fun h=>by cases h; assumption,.stk⟩
theorem cvR_nil {R:AV→AV→Prop}:CvR R [] []:=⟨rfl,fun i h=>by simp at h⟩
theorem cvR_cons {R:AV→AV→Prop} {x y:AV} {a b:List AV} (h:R x y) (r:CvR R a b):CvR R (x::a) (y::b):=⟨by simp [r.1],fun i h1 h2=>by
 cases i with
 | zero=>exact h
 | succ i=>exact r.2 i (by simpa using h1) (by simpa using h2)⟩
theorem cvRs_one {R:AV→AV→Prop} {r r':List AV} (h:CvR R r r'):CvRs R [r] [r']:=⟨rfl,fun i h1 h2=>by
 have:i=0:=by simp at h1; omega
 subst this;exact h⟩
theorem cvRs_same {R:AV→AV→Prop} (hr:∀ x,R x x) (r:List (List AV)):CvRs R r r:=⟨rfl,fun i _ _=>⟨rfl,fun j _ _=>hr _⟩⟩
variable {P:Program}
inductive CellD (tok:Tks):AV→D→Prop
 | d {x}:CellD tok (.d x) x
 | osl {sz es o}:CellD tok (.osl sz es o) (.sl sz es)
 | stk {t sz es} (h:tok t=true):CellD tok (.stk t sz es) (.sl sz es)
def CellDs (tok:Tks):List AV→List D→Prop
 | [],[]=>True
 | x::a,y::b=>CellD tok x y∧CellDs tok a b
 | _,_=>False
theorem CellDs.at {tok:Nat→Bool}:∀ {a:List AV} {b:List D},CellDs tok a b→a.length=b.length∧∀ i (h1:i<a.length) (h2:i<b.length),CellD tok a[i] b[i]
 | [],[],_=>⟨rfl,fun i h=>by simp at h⟩
 | x::a,y::b,h=>by
  obtain ⟨h1,h2⟩:=CellDs.at h.2;refine ⟨by simp [h1],fun i g1 g2=>?_⟩;cases i with
  | zero=>exact h.1
  | succ i=>exact h2 i (by simpa using g1) (by simpa using g2)
 | [],_::_,h=>h.elim
 | _::_,[],h=>h.elim
inductive Lent (box:Bxs) (tok:Tks):AV→AV→Prop
 | same {x} (h:OkIn (fun _=>False) (fun _=>True) x):Lent box tok x x
 | stk {t sz es} (h:tok t=true):Lent box tok (.stk t sz es) (.d (.sl sz es))
 | ptr {k row ds} (hk:box k=some [row]) (h:CellDs tok row ds):Lent box tok (.ptr k 0 0) (.cptr ds 0)
 | fn {f} {caps caps':List AV} (hl:caps.length=caps'.length) (h:∀ i (h1:i<caps.length) (h2:i<caps'.length),Lent box tok caps[i] caps'[i]):Lent box tok (.fn f caps) (.fn f caps')
def LentL (box:Bxs) (tok:Tks):List AV→List AV→Prop
 | [],[]=>True
 | x::a,y::b=>Lent box tok x y∧LentL box tok a b
 | _,_=>False
theorem Lent.ext {box box':Bxs} {tok:Nat→Bool} (he:Ext box box') {x y:AV} (h:Lent box tok x y):Lent box' tok x y:=by
 induction h with
 | same h=>exact .same h
 | stk h=>exact .stk h
 | ptr hk h=>exact .ptr (he _ _ hk) h
 | fn hl _ ih=>exact .fn hl ih
theorem LentL.ext {box box':Bxs} {tok:Nat→Bool} (he:Ext box box'):∀ {a b:List AV},LentL box tok a b→LentL box' tok a b
 | [],[],_=>trivial
 | x::a,y::b,h=>⟨h.1.ext he,LentL.ext he h.2⟩
 | [],_::_,h=>h.elim
 | _::_,[],h=>h.elim
def Gh.lb (G:Gh) (b:Nat):Prop:=(∃ k sz,G.bx k=some (b,sz))∨∃ t,G.tk t=some (some b)∧G.kind b=.ex
def Gh.lt (G:Gh) (t:Nat):Prop:=∃ g,G.tk t=some (some g)∧G.kind g=.ex
open Classical in
noncomputable def Gh.lent (G:Gh):Gh:={ bx:=fun _=>none,kind:=fun b=>if G.lb b then .whole else G.kind b,tk:=fun t=>if G.lt t then none else G.tk t,nt:=G.nt }
open Classical in
noncomputable def Gh.back (G G1:Gh):Gh:={ bx:=G.bx,kind:=fun b=>if G.lb b then G.kind b else G1.kind b,tk:=fun t=>if G.lt t then G.tk t else G1.tk t,nt:=G1.nt }
theorem lent_ps {G:Gh} {a:Addr} (h:G.ps a):G.lent.ps a:=by
 unfold Gh.ps at h ⊢;simp only [Gh.lent];by_cases e:G.lb a.block
 ·simp [e]
 ·simp only [e, ↓reduceIte]; exact h
theorem lent_tk {G:Gh} {t:Nat} {x:Option Nat} (h:G.lent.tk t=some x):G.tk t=some x∧¬ G.lt t:=by
 simp only [Gh.lent] at h;split at h
 ·cases h
 ·rename_i hn; exact ⟨h,hn⟩
theorem lent_cell {G:Gh} {m:AMem} {w:World} (hm:RelM G m w) {x:AV} {y:D} {v:Value} (hc:CellD m.tok x y) (h:RV G w x v):RVd w.cell? G.lent.ps y v:=by
 have hcm:∀ (a:Addr) (u:Value),G.ps a→w.cell? a=some u→G.lent.ps a∧w.cell? a=some u:=fun a u h1 h2=>⟨lent_ps h1,h2⟩
 cases hc with
 | d=>cases h with|d h1=>exact h1.mono hcm
 | osl=>cases h with|osl h1 _=>exact h1.mono hcm
 | @stk t sz es ht =>
  cases h with
  | stk hs =>
   obtain ⟨_,A,cap,rfl,hcap,hmax,hst⟩:=hs;obtain ⟨_,y,hy⟩:=hm.toks t ht;have hst:=hst y hy;cases y with
   | none =>
    have hes:es=[]:=List.eq_nil_of_length_eq_zero (by have:cap=0:=hst; omega)
    subst hes;exact .sl (es:=[]) (fun _ _=>default) (Nat.zero_le _) hmax (by simp) (by simp) (fun a _ i j hi _=>by simp at hi) (fun i j hi _=>by simp at hi)
   | some g =>
    obtain ⟨hA,vs,sp,e,h1,h2,h3,h4,h5⟩:=hst;refine RVd.of_flat hcap hmax ⟨h4.len,fun a ha q u hq=>?_,h4.one,fun _=>⟨_,hA⟩,h4.each,fun i j hi hj=>?_⟩
    ·rw [hA] at ha;cases ha;rw [add_none];refine ⟨?_,?_⟩
     ·have hl:G.lb g:=.inr ⟨t,hy,h1⟩
      simp [Gh.ps,Gh.lent,hl]
     ·rw [cell_of_row w g _ _ e (0,0) h2,Nat.zero_add];simp only [List.getElem?_toArray];rw [List.getElem?_append_left (List.getElem?_eq_some_iff.1 hq).1];exact hq
    ·obtain ⟨u,hu,hr⟩:=h4.read i j hi hj;exact ⟨u,hu,hr.mono hcm⟩
theorem lb_kind {G:Gh} {m:AMem} {w:World} (hm:RelM G m w) {b:Nat} (h:G.lb b):b<w.heap.size∧(G.kind b=.box∨G.kind b=.ex):=by
 rcases h with ⟨k,sz,h⟩|⟨t,h1,h2⟩
 ·have:=hm.blt h
  exact ⟨this.1,.inl this.2⟩
 ·obtain ⟨f,cur,e,_,h3⟩:=hm.tokb t b h1;exact ⟨heap_lt h3,.inr h2⟩
theorem RV.lent {G:Gh} {m:AMem} {w:World} (hm:RelM G m w) {x:AV} {v:Value} (h:RV G w x v) (ho:OkIn (fun _=>False) (fun _=>True) x):RV G.lent w x v:=by
 have hc:∀ (a:Addr) (u:Value),G.ps a→w.cell? a=some u→G.lent.ps a∧w.cell? a=some u:=fun a u h1 h2=>⟨lent_ps h1,h2⟩
 have hk:∀ g f c,G.kind g=.part f c→G.lent.kind g=G.kind g:=fun g f c hg=>by
  simp only [Gh.lent];rw [if_neg fun e=>by rcases (lb_kind hm e).2 with h|h <;> rw [hg] at h <;> cases h]
 have hown:∀ {sz n:Nat} {o:Own} {v:Value},OwnR G sz n o v→OwnR G.lent sz n o v:=by
  intro sz n o v h2;cases o with
  | full=>exact h2
  | tok t =>
   refine ⟨h2.1,fun y hy=>?_⟩;have:=h2.2 y (lent_tk hy).1
   cases y with
   | none=>exact this
   | some g =>
    obtain ⟨cap,hv,hg⟩:=this;exact ⟨cap,hv,(hk g _ _ hg).trans hg⟩
 induction h with
 | bot=>exact .bot
 | d h1=>exact .d (h1.mono hc)
 | osl h1 h2=>exact .osl (h1.mono hc) (hown h2)
 | ptr h1=>cases ho with|ptr h=>exact h.elim
 | here h1 h2=>cases ho with|here h=>exact h.elim
 | buf h1 h2 h3 h4=>exact .buf (h1.mono hc) (hown h2) (fun e=>h3 (lent_tk e).1) (fun g hg=>h4 g (lent_tk hg).1)
 | cptr a u h1 h2=>exact .cptr a u (fun j hj=>hc _ _ (h1 j hj).1 (h1 j hj).2) fun j hj=>(h2 j hj).mono hc
 | msl h1=>cases ho with|msl h=>exact h.elim
 | fn hl _ ih=>cases ho with|fn h=>exact .fn hl fun i h1 h2=>ih i h1 h2 (h _ (List.getElem_mem h1))
 | agg hl _ hone ih=>cases ho with|agg h=>exact .agg hl (fun i h1 h2=>ih i h1 h2 (h _ (List.getElem_mem h1))) hone
 | tup hl _ ih=>cases ho with|tup h=>exact .tup hl fun i h1 h2=>ih i h1 h2 (h _ (List.getElem_mem h1))
 | ex h1 =>
  obtain ⟨r1,r0,r2⟩:=h1;refine .ex ⟨r1,r0,fun y hy=>?_⟩;obtain ⟨hy1,hn⟩:=lent_tk hy;obtain ⟨g,cap,cs,e,rfl,h2,h3,h4,h5,_⟩:=r2 y hy1;exact absurd ⟨g,hy1,h5⟩ hn
 | stk h1 =>
  obtain ⟨r1,A,cap,hv,hc1,hmx,r2⟩:=h1;refine .stk ⟨r1,A,cap,hv,hc1,hmx,fun y hy=>?_⟩;obtain ⟨hy1,hn⟩:=lent_tk hy;have h0:=r2 y hy1;cases y with
  | none=>exact h0
  | some g =>
   obtain ⟨hA,vs,sp,e,h5,_⟩:=h0;exact absurd ⟨g,hy1,h5⟩ hn
 | que h1 h2=>exact .que (h1.mono hc) (h2.imp h2.1 fun x hx=>⟨(lent_tk hx).1,fun g _ f c he=>(hk g f c he).trans he⟩)
 | mp h1 =>
  obtain ⟨r1,r0,r,hv,r2⟩:=h1;refine .mp ⟨r1,r0,r,hv,fun y hy=>?_⟩;obtain ⟨hy1,hn⟩:=lent_tk hy;obtain ⟨rfl,h5,_⟩:=r2 y hy1;exact absurd ⟨r,hy1,h5⟩ hn
 | mpd h1=>exact .mpd (h1.imp hc fun r _ hk1=>⟨by simp only [Gh.lent]; split; rfl; exact hk1,rfl⟩)
theorem Lent.rv {G:Gh} {m:AMem} {w:World} (hm:RelM G m w) {x y:AV} {v:Value} (hb:Lent m.box m.tok x y) (h:RV G w x v):RV G.lent w y v:=by
 induction hb generalizing v with
 | fn hl _ ih =>
  cases h with
  | fn hl' hh=>exact .fn (hl.symm.trans hl') fun i h1 h2=>ih i (by omega) h1 (hh i (by omega) h2)
 | same ho=>exact h.lent hm ho
 | stk ht=>exact .d (lent_cell hm (.stk ht) h)
 | @ptr k row ds hk hd =>
  generalize hx:AV.ptr k 0 0=x at h;cases h with
  | @ptr k' i off b sz hbx =>
   cases hx;obtain ⟨hkind,cs,e,hheap,hrows,hR,hone⟩:=hm.box k [row] b sz hk hbx;have hR:RVs G w row cs.toList:=by simpa using hR
   obtain ⟨hl,hat⟩:=hd.at;have hlb:G.lb b:=.inl ⟨k,sz,hbx⟩
   have:=RV.cptr (G:=G.lent) (w:=w) (cs:=ds) (off:=0) ⟨b,0,none⟩ (fun j=>cs.getD j default) (fun j hj=>?_) (fun j hj=>?_)
   ·rw [add_none] at this;simpa using this
   ·rw [add_none];refine ⟨by simp [Gh.ps,Gh.lent,hlb],?_⟩;rw [cell_of_row w b _ _ e (0,0) hheap,Nat.zero_add];have hjl:j<cs.size:=by have:=hR.1; simp at this; omega
    simp [hjl]
   ·have hjl:j<cs.size:=by have:=hR.1; simp at this; omega
    have h1:=lent_cell hm (hat j (by omega) hj) (hR.2 j (by omega) (by simpa using hjl));simpa [hjl] using h1
  | _=>cases hx
theorem LentL.rvs {G:Gh} {m:AMem} {w:World} (hm:RelM G m w):∀ {xs ys:List AV} {vs:List Value},LentL m.box m.tok xs ys→RVs G w xs vs→RVs G.lent w ys vs
 | [],[],vs,_,h=>⟨by have:=h.1; simpa using this,fun i h=>by simp at h⟩
 | x::a,y::b,vs,hb,h=>by
  obtain ⟨v,us,rfl,h1,h2⟩:=h.uncons;exact RVs.cons (hb.1.rv hm h1) (LentL.rvs hm hb.2 h2)
 | [],_::_,_,h,_=>h.elim
 | _::_,[],_,h,_=>h.elim
theorem RCall.lends {f:FuncId} {args args':List AV} {box:Bxs} {tok:Nat→Bool} {nt:Nat} {u:Value} (hu:u.oneCell'=true)
  (h:∀ tok,DCall P f args' tok nt (.d (.raw u)) tok nt) (hb:LentL box tok args args'):RCall P f args box tok nt (.d (.raw u)) tok nt:=by
 classical
 intro box' nb hext;have hb':=hb.ext hext
 refine ⟨(h tok (fun _=>none) nb).1,fun G w vals hm hr=>?_⟩;obtain ⟨_,hc⟩:=h (fun t=>tok t&&decide (¬ G.lt t)) (fun _=>none) nb;have hlbk:=fun {b} (hb:G.lb b)=>lb_kind hm hb
 have hnl:∀ t g,G.tk t=some (some g)→¬ G.lt t→¬ G.lb g:=fun t g ht hn hl=>by
  rcases hl with ⟨k,sz,hk⟩|⟨t2,h1,h2⟩
  ·obtain ⟨f',cur,e,h1,_⟩:=hm.tokb t g ht;rw [(hm.blt hk).2] at h1;rcases h1 with ⟨h1,_⟩|h1 <;> cases h1
  ·exact hn ⟨g,ht,h2⟩
 have hm1:RelM G.lent ⟨fun _=>none,nb,fun t=>tok t&&decide (¬ G.lt t),nt⟩ w:=by
  constructor
  case box=>intro k rows b sz h1; cases h1
  case nobox=>intro k _; rfl
  case inj=>intro k k' b sz sz' h1; cases h1
  case nb=>intro k _; rfl
  case nt=>exact hm.nt
  case toks =>
   intro t ht;simp only [Bool.and_eq_true,decide_eq_true_eq] at ht;obtain ⟨h1,x,h2⟩:=hm.toks t ht.1;exact ⟨h1,x,by simp only [Gh.lent]; rw [if_neg ht.2]; exact h2⟩
  case tokb =>
   intro t g ht;obtain ⟨h1,h2⟩:=lent_tk ht;obtain ⟨f',cur,e,h3,h4⟩:=hm.tokb t g h1;refine ⟨f',cur,e,?_,h4⟩;simp only [Gh.lent];rw [if_neg (hnl t g h1 h2)];exact h3
  case tinj=>exact fun t t' g h1 h2=>hm.tinj t t' g (lent_tk h1).1 (lent_tk h2).1
  case tnt=>exact fun t x h1=>hm.tnt t x (lent_tk h1).1
  case glob=>exact hm.glob.mono (fun a u h1 h2=>⟨lent_ps h1,h2⟩) fun g _ hk=>⟨by simp only [Gh.lent]; split; rfl; exact hk,rfl⟩
  case fresh =>
   intro b hb1;simp only [Gh.lent];split
   ·rfl
   ·exact hm.fresh b hb1
 refine Calls.mono (hc G.lent w vals hm1 (hb'.rvs hm hr)) ?_;rintro e w' ⟨v,av,m',G1,rfl,⟨rfl,rfl⟩,h3,h4,h5,h6,h7⟩;have hv:v=u:=by cases h5 with|d h=>cases h; rfl
 subst hv;have hkeep:∀ b,G.lb b→G1.kind b=.whole∧w'.heap[b]?=w.heap[b]?:=fun b hb1=>h6.whole b (hlbk hb1).1 (by simp [Gh.lent,hb1])
 have hltb:∀ t,G.lt t→∃ g,G.tk t=some (some g)∧G.kind g=.ex∧G.lb g:=fun t ⟨g,h1,h2⟩=>⟨g,h1,h2,.inr ⟨t,h1,h2⟩⟩
 have hle:Le G w (G.back G1) w':=by
  refine ⟨h6.os,h6.tape,h6.output,h6.size,fun b hb1 hk=>?_,fun b f' c hk=>?_,fun _ _ h=>h,h6.nt,fun t ht=>?_,?_⟩
  ·have hn:¬ G.lb b:=fun e=>by rcases (hlbk e).2 with h|h <;> rw [hk] at h <;> cases h
   obtain ⟨a1,a2⟩:=h6.whole b hb1 (by simp only [Gh.lent]; rw [if_neg hn]; exact hk);exact ⟨by simp only [Gh.back]; rw [if_neg hn]; exact a1,a2⟩
  ·have hn:¬ G.lb b:=fun e=>by rcases (hlbk e).2 with h|h <;> rw [hk] at h <;> cases h
   obtain ⟨⟨f2,a1,a2⟩,a3⟩:=h6.part b f' c (by simp only [Gh.lent]; rw [if_neg hn]; exact hk);exact ⟨⟨f2,a1,by simp only [Gh.back]; rw [if_neg hn]; exact a2⟩,a3⟩
  ·by_cases hl:G.lt t
   ·refine .inr ⟨by simp only [Gh.back]; rw [if_pos hl],fun g hg=>?_⟩;obtain ⟨g',h1,h2,h3⟩:=hltb t hl;rw [hg] at h1;cases h1;exact ⟨by simp only [Gh.back]; rw [if_pos h3],fun _=>(hkeep g h3).2⟩
   ·have e1:(G.back G1).tk t=G1.tk t:=by simp only [Gh.back]; rw [if_neg hl]
    have e2:G.lent.tk t=G.tk t:=by simp only [Gh.lent]; rw [if_neg hl]
    rcases h6.tk t ht with a1|⟨a1,a2⟩
    ·exact .inl (e1.trans a1)
    ·refine .inr ⟨(e1.trans a1).trans e2,fun g hg=>?_⟩;have hn:=hnl t g hg hl;obtain ⟨b1,b2⟩:=a2 g (e2.trans hg);simp only [Gh.lent] at b1 b2;rw [if_neg hn] at b1 b2;exact ⟨by simp only [Gh.back]; rw [if_neg hn]; exact b1,b2⟩
  ·exact h6.ty
 refine ⟨v,_,_,G.back G1,rfl,⟨rfl,rfl⟩,rfl,?_,.d (.raw hu),hle,fun k hk=>⟨hk,rfl⟩⟩;have hG1:∀ t g,¬ G.lt t→(G.back G1).tk t=some (some g)→G1.tk t=some (some g)∧¬ G.lb g:=fun t g hl ht=>by
  have e1:G1.tk t=some (some g):=by simp only [Gh.back] at ht; rw [if_neg hl] at ht; exact ht
  refine ⟨e1,fun hpg=>?_⟩;obtain ⟨f',cur,e,g1,_⟩:=h4.tokb t g e1;rw [(hkeep g hpg).1] at g1;rcases g1 with ⟨g1,_⟩|g1 <;> cases g1
 have hG0:∀ t,G.lt t→(G.back G1).tk t=G.tk t:=fun t hl=>by simp only [Gh.back]; rw [if_pos hl]
 constructor
 case box =>
  intro k rows b sz hk hb1;obtain ⟨g1,cs,e,g2,g3,g4,g5⟩:=hm.box k rows b sz hk hb1;have hpk:G.lb b:=.inl ⟨k,sz,hb1⟩
  exact ⟨by simp only [Gh.back]; rw [if_pos hpk]; exact g1,cs,e,(hkeep b hpk).2.trans g2,g3,g4.mono hle,g5⟩
 case nobox=>exact hm.nobox
 case inj=>exact hm.inj
 case nb=>exact hm.nb
 case nt=>exact h4.nt
 case toks =>
  intro t ht;obtain ⟨h1,x,h2⟩:=hm.toks t ht;refine ⟨h1,?_⟩;by_cases hl:G.lt t
  ·exact ⟨x,(hG0 t hl).trans h2⟩
  ·obtain ⟨_,y,h3⟩:=h4.toks t (by simp only [Bool.and_eq_true,decide_eq_true_eq]; exact ⟨ht,hl⟩);exact ⟨y,by simp only [Gh.back]; rw [if_neg hl]; exact h3⟩
 case tokb =>
  intro t g ht;by_cases hl:G.lt t
  ·rw [hG0 t hl] at ht;obtain ⟨g',h1,h2,h3⟩:=hltb t hl;rw [ht] at h1;cases h1;obtain ⟨f',cur,e,g1,g2⟩:=hm.tokb t g ht;exact ⟨f',cur,e,by simp only [Gh.back]; rw [if_pos h3]; exact g1,(hkeep g h3).2.trans g2⟩
  ·obtain ⟨h1,hn⟩:=hG1 t g hl ht;obtain ⟨f',cur,e,g1,g2⟩:=h4.tokb t g h1;exact ⟨f',cur,e,by simp only [Gh.back]; rw [if_neg hn]; exact g1,g2⟩
 case tinj =>
  intro t t' g ht ht';by_cases hl:G.lt t <;> by_cases hl':G.lt t'
  ·rw [hG0 t hl] at ht; rw [hG0 t' hl'] at ht';exact hm.tinj t t' g ht ht'
  ·rw [hG0 t hl] at ht;obtain ⟨g',h1,_,h3⟩:=hltb t hl;rw [ht] at h1;cases h1;exact absurd h3 (hG1 t' g hl' ht').2
  ·rw [hG0 t' hl'] at ht';obtain ⟨g',h1,_,h3⟩:=hltb t' hl';rw [ht'] at h1;cases h1;exact absurd h3 (hG1 t g hl ht).2
  ·exact h4.tinj t t' g (hG1 t g hl ht).1 (hG1 t' g hl' ht').1
 case tnt =>
  intro t x ht;by_cases hl:G.lt t
  ·rw [hG0 t hl] at ht;have:=hm.tnt t x ht
   have e1:=hm.nt; have e2:=h4.nt;simp only [Gh.back];simp only at e1 e2;omega
  ·simp only [Gh.back] at ht;rw [if_neg hl] at ht;exact h4.tnt t x ht
 case glob=>exact hm.glob.mono hle.cells fun g hg hk=>hle.whole g hg hk
 case fresh =>
  intro b hb1;have:=h6.size
  have hn:¬ G.lb b:=fun hpb1=>by have:=(hlbk hpb1).1; omega
  simp only [Gh.back];rw [if_neg hn];exact h4.fresh b hb1
variable {P:Program}
theorem Le.reKind {G:Gh} {w:World} {g:Nat} (k:BK) (hk:G.kind g=.ex) (ht:∀ t,G.tk t≠some (some g)):Le G w (G.setKind g k) w where
 os:=rfl
 tape:=rfl
 output:=rfl
 size:=Nat.le_refl _
 whole b _ h:=⟨by simp only [Gh.setKind]; rw [upd_other _ _ (fun e=>by subst e; rw [hk] at h; cases h)]; exact h,rfl⟩
 part b f c h:=⟨⟨f,Nat.le_refl _,by simp only [Gh.setKind]; rw [upd_other _ _ (fun e=>by subst e; rw [hk] at h; cases h)]; exact h⟩,fun _ _ _=>rfl⟩
 bx _ _ h:=h
 nt:=Nat.le_refl _
 tk t _:=.inr ⟨rfl,fun j hj=>⟨by simp only [Gh.setKind]; exact upd_other _ _ (fun e=>by subst e; exact ht t hj),fun _=>rfl⟩⟩
 ty _ cs T f h:=⟨cs,f,h⟩
theorem RelM.reKind {G:Gh} {m:AMem} {w:World} (h:RelM G m w) {g:Nat} (k:BK) (hk:G.kind g=.ex) (ht:∀ t,G.tk t≠some (some g)) (hg:g<w.heap.size):RelM (G.setKind g k) m w:=by
 have hle:=Le.reKind (w:=w) k hk ht;constructor
 case box =>
  intro q rows b sz hq hb;obtain ⟨h1,cs,e,h2,h3,h4,h5⟩:=h.box q rows b sz hq hb;refine ⟨?_,cs,e,h2,h3,h4.mono hle,h5⟩;simp only [Gh.setKind];rw [upd_other _ _ (fun e=>by subst e; rw [hk] at h1; cases h1)];exact h1
 case nobox=>exact h.nobox
 case inj=>exact h.inj
 case nb=>exact h.nb
 case nt=>exact h.nt
 case toks=>exact h.toks
 case tokb =>
  intro t j hj;obtain ⟨f0,cur0,e0,h1,h2⟩:=h.tokb t j hj;refine ⟨f0,cur0,e0,?_,h2⟩;simp only [Gh.setKind];rw [upd_other _ _ (fun e=>by subst e; exact ht t hj)];exact h1
 case tinj=>exact h.tinj
 case tnt=>exact h.tnt
 case glob=>exact h.glob.mono hle.cells fun g hg hk=>hle.whole g hg hk
 case fresh =>
  intro b hb;simp only [Gh.setKind];rw [upd_other _ _ (by omega)];exact h.fresh b hb
theorem kill_not {G:Gh} {m:AMem} {w:World} (hm:RelM G m w) {t g:Nat} (hx:G.tk t=some (some g)):∀ q,(G.kill (.tok t)).tk q≠some (some g):=by
 intro q hq;simp only [Gh.kill] at hq;by_cases e:q=t
 ·subst e; simp [upd_same] at hq
 ·rw [upd_other _ _ e] at hq;exact e (hm.tinj q t g hq hx)
inductive SdTo (t:Nat):AV→AV→Prop
 | bot {x}:SdTo t x .bot
 | same {x}:SdTo t x x
 | stk {sz es}:SdTo t (.stk t sz es) (.d (.sl sz es))
theorem Trans.stkD {cx:Cx} {nt0 nt:Nat} {l l':List (Nat × AV)} {out:Bxs} {loc loc':List (Nat × List (List AV))} {tok:Nat→Bool} (t:Nat) (ht:tok t=true)
  (hl:CvL (SdTo t) l l') (hb:CvB (SdTo t) loc loc') :
  Trans cx nt0 ⟨tl l,lb cx.base out loc,tok,nt⟩ ⟨tl l',lb cx.base out loc',upd tok t false,nt⟩:=by
 intro G0 w0 G a w he hn0 hS hL;have hm:=hS.mem;obtain ⟨hlt,x,hx⟩:=hm.toks t ht;have hmk:=hm.kill (.tok t);have hlk:=Le.kill (G:=G) (w:=w) (.tok t);have hstk:∀ {sz:Nat} {es:List (List D)} {v:Value},RV G w (.stk t sz es) v→StkR G w t sz es v:=fun h=>by cases h with|stk h=>exact h
 have fin:∀ G',Le G w G' w→G'.bx=G.bx→RelM G' ⟨lb cx.base out loc,cx.nb,upd tok t false,nt⟩ w→(∀ sz es v,StkR G w t sz es v→RVd w.cell? G'.ps (.sl sz es) v) →
   ∃ G',RelS cx.n cx.nb G' ⟨tl l',lb cx.base out loc',upd tok t false,nt⟩ a w∧LeC cx G0 w0 G' w ⟨tl l',lb cx.base out loc',upd tok t false,nt⟩:=by
  intro G' hle hbx hm' hd;have hto:∀ x y v,SdTo t x y→RV G w x v→RV G' w y v:=fun x y v h hr=>by
   cases h with
   | bot=>exact .bot
   | same=>exact hr.mono hle
   | stk=>exact .d (hd _ _ v (hstk hr))
  refine ⟨G',⟨hS.defers,hS.size,fun i=>hto _ _ _ (hl.at .bot i) (hS.tmps i),?_⟩,?_⟩
  ·constructor
   case box =>
    intro k rows b z hk hbk;simp only at hk;by_cases hkb:k<cx.base
    ·rw [lb_out hkb] at hk;exact hm'.box k rows b z (by simp only; rw [lb_out hkb]; exact hk) hbk
    ·have hkk:k=cx.base+(k - cx.base):=by omega
     rw [hkk,lb_at] at hk;rcases hb.at (k - cx.base) with ⟨_,h2⟩|⟨r0,r',h1,h2,h3⟩
     ·rw [h2] at hk; cases hk
     ·rw [h2] at hk;cases hk;obtain ⟨_,cs,e,g2,g3,g4,g5⟩:=hm.box k r0 b z (by simp only; rw [hkk,lb_at]; exact h1) (by rw [←hbx]; exact hbk);obtain ⟨g1,_⟩:=hm'.box k r0 b z (by simp only; rw [hkk,lb_at]; exact h1) hbk;refine ⟨g1,cs,e,g2,fun q hq=>?_,⟨h3.flat.1.symm.trans g4.1,fun i h1 h2=>hto _ _ _ (h3.flat.2 i (by rw [h3.flat.1]; exact h1) h1) (g4.2 i _ h2)⟩,g5⟩;obtain ⟨i,hi,rfl⟩:=List.getElem_of_mem hq;have hi0:i<r0.length:=by rw [h3.1]; exact hi
      rw [←(h3.2 i hi0 hi).1];exact g3 _ (List.getElem_mem _)
   case nobox =>
    intro k hk;refine hm'.nobox k ?_;simp only at hk ⊢;by_cases hkb:k<cx.base
    ·rw [lb_out hkb] at hk ⊢; exact hk
    ·have hkk:k=cx.base+(k - cx.base):=by omega
     rw [hkk,lb_at] at hk ⊢;rcases hb.at (k - cx.base) with ⟨h1,_⟩|⟨r0,r',_,h2,_⟩
     ·exact h1
     ·rw [h2] at hk; cases hk
   case inj=>exact hm'.inj
   case nb =>
    intro k hk;have h0:=hm'.nb k hk;simp only at h0 ⊢;by_cases hkb:k<cx.base
    ·rw [lb_out hkb] at h0 ⊢; exact h0
    ·have hkk:k=cx.base+(k - cx.base):=by omega
     rw [hkk,lb_at] at h0 ⊢;rcases hb.at (k - cx.base) with ⟨_,h2⟩|⟨r0,r',h1,_,_⟩
     ·exact h2
     ·rw [h1] at h0; cases h0
   case nt=>exact hm'.nt
   case toks=>exact hm'.toks
   case tokb=>exact hm'.tokb
   case tinj=>exact hm'.tinj
   case tnt=>exact hm'.tnt
   case glob=>exact hm'.glob
   case fresh=>exact hm'.fresh
  ·refine hL.step ⟨hle,fun k hkb hg=>⟨by rw [hbx]; exact hg,?_⟩⟩;simp only;rw [lb_out hkb,lb_out hkb]
 cases x with
 | none =>
  refine fin (G.kill (.tok t)) hlk rfl hmk fun sz es v hv=>?_
  obtain ⟨_,A,cap,rfl,hcap,hmax,hst⟩:=hv;have hc0:cap=0:=hst _ hx
  have hes:es=[]:=List.eq_nil_of_length_eq_zero (by omega)
  subst hes;exact .sl (es:=[]) (fun _ _=>default) (Nat.zero_le _) hmax (by simp) (by simp) (fun a _ i j hi _=>by simp at hi) (fun i j hi _=>by simp at hi)
 | some g =>
  obtain ⟨f,cur,e,hkg,hg⟩:=hm.tokb t g hx;by_cases hex:G.kind g=.ex
  ·have hnot:=kill_not hm hx;have hlr:=Le.reKind (G:=G.kill (.tok t)) (w:=w) .whole hex hnot;refine fin ((G.kill (.tok t)).setKind g .whole) (hlk.trans hlr) rfl (hmk.reKind .whole hex hnot (heap_lt hg)) fun sz es v hv=>?_
   obtain ⟨_,A,cap,rfl,hcap,hmax,hst⟩:=hv;obtain ⟨hA,vs,sp,e,h1,h2,h3,h4,h5⟩:=hst _ hx;refine RVd.of_flat hcap hmax ⟨h4.len,fun a ha q u hq=>?_,h4.one,fun _=>⟨_,hA⟩,h4.each,fun i j hi hj=>?_⟩
   ·rw [hA] at ha;cases ha;rw [add_none];refine ⟨by simp [Gh.ps,Gh.setKind,upd_same],?_⟩;rw [cell_of_row w g _ _ e (0,0) h2,Nat.zero_add];simp only [List.getElem?_toArray];rw [List.getElem?_append_left (List.getElem?_eq_some_iff.1 hq).1];exact hq
   ·obtain ⟨u,hu,hr⟩:=h4.read i j hi hj;exact ⟨u,hu,hr.mono (hlk.trans hlr).cells⟩
  ·refine fin (G.kill (.tok t)) hlk rfl hmk fun sz es v hv=>?_
   obtain ⟨_,A,cap,rfl,hcap,hmax,hst⟩:=hv;obtain ⟨_,vs,sp,e,h1,_⟩:=hst _ hx;exact absurd h1 hex
def AV.sdT (t:Nat):AV→AV
 | .stk t' sz es=>if t'=t then .d (.sl sz es) else .stk t' sz es
 | x=>x
theorem sdT_to (t:Nat) (x:AV):SdTo t x (x.sdT t):=by
 cases x with
 | stk t' sz es =>
  simp only [AV.sdT];split
  ·rename_i h; subst h; exact .stk
  ·exact .same
 | _=>exact .same
theorem cvL_map {R:AV→AV→Prop} {f:AV→AV} (h:∀ x,R x (f x)):∀ l:List (Nat × AV),CvL R l (l.map fun q=>(q.1,f q.2))
 | []=>trivial
 | (i,x)::l=>⟨rfl,h x,cvL_map h l⟩
theorem cvB_map {R:AV→AV→Prop} {f:AV→AV} (h:∀ x,R x (f x)):∀ l:List (Nat × List (List AV)),CvB R l (l.map fun q=>(q.1,q.2.map fun r=>r.map f))
 | []=>trivial
 | (i,x)::l=>⟨rfl,⟨by simp,fun i h1 h2=>⟨by simp,fun j g1 g2=>by simp only [List.getElem_map]; exact h _⟩⟩,cvB_map h l⟩
theorem AL.stkD {cx:Cx} {nt0 nt:Nat} {K:Exit→AState→Prop} {q:List CI} {x:Code} {l:List (Nat × AV)} {out:Bxs} {loc:List (Nat × List (List AV))} {tok:Nat→Bool} (t:Nat) (ht:tok t=true)
  (h:AL P cx nt0 K (.c x::q) ⟨tl (l.map fun q=>(q.1,q.2.sdT t)),lb cx.base out (loc.map fun q=>(q.1,q.2.map fun r=>r.map (AV.sdT t))),upd tok t false,nt⟩):AL P cx nt0 K (.c x::q) ⟨tl l,lb cx.base out loc,tok,nt⟩ :=
 AL.trans (Trans.stkD t ht (cvL_map (sdT_to t) l) (cvB_map (sdT_to t) loc)) h
variable {P:Program}
theorem FlatV.rvs {G:Gh} {w:World} {sz:Nat}:∀ {es:List (List D)} {vs:List Value},FlatV w.cell? G.ps sz es vs→RVs G w (es.flatten.map AV.d) vs
 | [],vs,h=>by
  have hv:vs=[]:=List.eq_nil_of_length_eq_zero (by simpa using h.len)
  subst hv;exact ⟨rfl,fun i h=>by simp at h⟩
 | e::es,vs,h=>by
  have he:e.length=sz:=h.each e (by simp)
  have hl:=h.len;rw [List.length_cons,Nat.add_mul] at hl;have h1:FlatV w.cell? G.ps sz es (vs.drop sz):=by
   refine ⟨by rw [List.length_drop]; omega,fun u hu=>h.one u (List.mem_of_mem_drop hu),fun q hq=>h.each q (by simp [hq]),fun i j hi hj=>?_⟩;obtain ⟨u,hu,hr⟩:=h.read (i+1) j (by simpa using hi) (by simpa using hj);refine ⟨u,?_,by simpa using hr⟩;rw [List.getElem?_drop,←hu];congr 1
   rw [Nat.add_mul]; omega
  have ih:=FlatV.rvs h1;have h2:RVs G w (e.map AV.d) (vs.take sz):=by
   refine ⟨by rw [List.length_map,List.length_take]; omega,fun j g1 g2=>?_⟩;have hj:j<e.length:=by simpa using g1
   obtain ⟨u,hu,hr⟩:=h.read 0 j (by simp) (by simpa using hj);simp only [List.getElem_map,List.getElem_take];obtain ⟨hlt,rfl⟩:=List.getElem?_eq_some_iff.1 hu;simp only [Nat.zero_mul,Nat.zero_add] at hr ⊢;exact .d (by simpa using hr)
  have:=h2.append ih
  rw [List.take_append_drop] at this;simpa using this
inductive TsTo (t k sz:Nat) (es:List (List D)):AV→AV→Prop
 | bot {x}:TsTo t k sz es x .bot
 | same {x}:TsTo t k sz es x x
 | stk:TsTo t k sz es (.stk t sz es) (.msl k 0 es.length sz)
theorem AT.thawS {cx:Cx} {nt0 nt:Nat} {c:Code} {K:Exit→AState→Prop} {l l':List (Nat × AV)} {out:Bxs} {loc loc':List (Nat × List (List AV))} {tok:Nat→Bool} (t s sz:Nat) (es:List (List D)) (r:Nat)
  (hn:cx.nb=cx.base+cx.n) (hs:s<cx.n) (hk:lk loc s=none) (ht:tok t=true) (hne:es≠[]) (hr:tl l r=.stk t sz es)
  (hl:CvL (TsTo t (cx.base+s) sz es) l l') (hb:CvB (TsTo t (cx.base+s) sz es) loc loc')
  (h:∀ m,AT P cx nt0 c ⟨tl l',lb cx.base out ((s,rowsD es++List.replicate m (List.replicate sz .bot))::loc'),upd tok t false,nt⟩ K):AT P cx nt0 c ⟨tl l,lb cx.base out loc,tok,nt⟩ K:=by
 intro G0 w0 hen hnt G a w hS hL;have hm:=hS.mem;obtain ⟨hlt,x,hx⟩:=hm.toks t ht;have hstk:∀ {v:Value},RV G w (.stk t sz es) v→StkR G w t sz es v:=fun h=>by cases h with|stk h=>exact h
 have hwit:=hS.tmps r;simp only at hwit;rw [hr] at hwit;obtain ⟨_,A,cap,hv,hcap,hmax,hst⟩:=hstk hwit;have hst:=hst x hx;cases x with
 | none =>
  have hc0:cap=0:=hst
  exact absurd (List.eq_nil_of_length_eq_zero (by omega)) hne
 | some g =>
  obtain ⟨hA,vs,sp,e,hkg,hheap,hlen,hf,hsp⟩:=hst;have hboxk:lb cx.base out loc (cx.base+s)=none:=by rw [lb_at]; exact hk
  have hbxk:G.bx (cx.base+s)=none:=hm.nobox _ hboxk
  have hnb:∀ {k b z},G.bx k=some (b,z)→b≠g:=fun h e=>by
   have:=(hm.blt h).2
   rw [e,hkg] at this; cases this
  have hmk:=hm.kill (.tok t);have hnot:=kill_not hm hx;have hm1:=hmk.reKind .box hkg hnot (heap_lt hheap)
  let G1:Gh:=(G.kill (.tok t)).setKind g .box
  let G':Gh:={ G1 with bx:=upd G.bx (cx.base+s) (some (g,sz)) }
  have hle1:Le G w G1 w:=(Le.kill (.tok t)).trans (Le.reKind .box hkg hnot)
  have hle2:Le G1 w G' w:=⟨rfl,rfl,rfl,Nat.le_refl _,fun _ _ h=>⟨h,rfl⟩,fun _ f _ h=>⟨⟨f,Nat.le_refl _,h⟩,fun _ _ _=>rfl⟩,fun k x hk=>by
   simp only [G'];rw [upd_other _ _ (fun e=>by
    have hk:G.bx k=some x:=hk
    rw [e,hbxk] at hk; cases hk)]
   exact hk,Nat.le_refl _,fun t _=>.inr ⟨rfl,fun _ _=>⟨rfl,fun _=>rfl⟩⟩,fun _ cs T f h=>⟨cs,f,h⟩⟩
  have hle:=hle1.trans hle2;have hto:∀ x y v,TsTo t (cx.base+s) sz es x y→RV G w x v→RV G' w y v:=fun x y v h hr=>by
   cases h with
   | bot=>exact .bot
   | same=>exact hr.mono hle
   | stk =>
    obtain ⟨_,A',cap',rfl,hc1,hc2,h2⟩:=hstk hr;obtain ⟨hA',_⟩:=h2 _ hx;subst hA';have:=RV.msl (G:=G') (w:=w) (k:=cx.base+s) (off:=0) (n:=es.length) (b:=g) (sz:=sz) (cap:=cap') (by simp [G',upd_same]) hc1 hc2
    simpa using this
  have hf':=hf.mono hle.cells
  have hvl:=hf.len;obtain ⟨m,hmm⟩:∃ m,cap=es.length+m:=⟨cap - es.length,by omega⟩
  have hspl:sp.length=m * sz:=by
   rw [List.length_append,hvl,hmm,Nat.add_mul] at hlen;omega
  refine h m G0 w0 hen hnt G' a w ⟨hS.defers,hS.size,fun i=>hto _ _ _ (hl.at .bot i) (hS.tmps i),?_⟩ ?_
  ·constructor
   case box =>
    intro k rows b z hk' hb';by_cases e1:k=cx.base+s
    ·subst e1;simp only [lb_at,lk_cons, ↓reduceIte,Option.some.injEq] at hk';simp only [G',upd_same,Option.some.injEq,Prod.mk.injEq] at hb';obtain ⟨rfl,rfl⟩:=hb';subst hk';refine ⟨by simp [G',G1,Gh.setKind,upd_same],_,e,hheap,fun q hq=>?_,?_,fun v hv=>?_⟩
     ·rcases List.mem_append.1 hq with hq|hq
      ·obtain ⟨p,hp,rfl⟩:=List.mem_map.1 hq;simpa using hf.each p hp
      ·rw [List.eq_of_mem_replicate hq]; simp
     ·rw [List.flatten_append,rowsD_flat];have h2:RVs G' w (List.replicate m (List.replicate sz AV.bot)).flatten sp:=by
       refine ⟨by rw [hspl]; simp [List.length_flatten],fun i g1 g2=>?_⟩;have hmem:(List.replicate m (List.replicate sz AV.bot)).flatten[i]∈(List.replicate m (List.replicate sz AV.bot)).flatten:=List.getElem_mem _
       obtain ⟨q,hq,hiq⟩:=List.mem_flatten.1 hmem;rw [List.eq_of_mem_replicate hq] at hiq;rw [List.eq_of_mem_replicate hiq];exact .bot
      simpa using hf'.rvs.append h2
     ·have hv:v∈vs++sp:=by simpa using hv
      rcases List.mem_append.1 hv with hv|hv
      ·exact hf.one v hv
      ·exact hsp v hv
    ·simp only [G'] at hb';rw [upd_other _ _ e1] at hb';have hold:∃ rows0,lb cx.base out loc k=some rows0∧(rows0=rows∨CvRs (TsTo t (cx.base+s) sz es) rows0 rows):=by
      by_cases hkb:k<cx.base
      ·refine ⟨rows,?_,.inl rfl⟩;simp only at hk';rw [lb_out hkb] at hk' ⊢;exact hk'
      ·have hkk:k=cx.base+(k - cx.base):=by omega
       simp only at hk';rw [hkk,lb_at] at hk' ⊢;rw [lk_cons,if_neg (by omega)] at hk';rcases hb.at (k - cx.base) with ⟨_,h2⟩|⟨r0,r',h1,h2,h3⟩
       ·rw [h2] at hk'; cases hk'
       ·rw [h2] at hk';cases hk'
        exact ⟨r0,h1,.inr h3⟩
     obtain ⟨rows0,h1,h2⟩:=hold;obtain ⟨g1,cs',e',g2,g3,g4,g5⟩:=hm.box k rows0 b z h1 hb';refine ⟨by simp only [G',G1,Gh.setKind]; rw [upd_other _ _ (hnb hb')]; exact g1,cs',e',g2,?_,?_,g5⟩
     ·rcases h2 with rfl|h2
      ·exact g3
      ·intro q hq;obtain ⟨i,hi,rfl⟩:=List.getElem_of_mem hq;have hi0:i<rows0.length:=by rw [h2.1]; exact hi
       rw [←(h2.2 i hi0 hi).1];exact g3 _ (List.getElem_mem _)
     ·rcases h2 with rfl|h2
      ·exact g4.mono hle
      ·exact ⟨h2.flat.1.symm.trans g4.1,fun i k1 k2=>hto _ _ _ (h2.flat.2 i (by rw [h2.flat.1]; exact k1) k1) (g4.2 i _ k2)⟩
   case nobox =>
    intro k hk';have hne:k≠cx.base+s:=fun e=>by subst e; simp [lb_at,lk_cons] at hk'
    simp only [G'];rw [upd_other _ _ hne];refine hm.nobox k ?_;simp only at hk' ⊢;by_cases hkb:k<cx.base
    ·rw [lb_out hkb] at hk' ⊢; exact hk'
    ·have hkk:k=cx.base+(k - cx.base):=by omega
     rw [hkk,lb_at] at hk' ⊢;rw [lk_cons,if_neg (by omega)] at hk';rcases hb.at (k - cx.base) with ⟨h1,_⟩|⟨r0,r',_,h2,_⟩
     ·exact h1
     ·rw [h2] at hk'; cases hk'
   case inj =>
    intro j j' b z z' hj hj';simp only [G'] at hj hj';by_cases e1:j=cx.base+s <;> by_cases e2:j'=cx.base+s
    ·exact e1.trans e2.symm
    ·subst e1;rw [upd_same] at hj; rw [upd_other _ _ e2] at hj';cases hj;exact absurd rfl (hnb hj')
    ·subst e2;rw [upd_same] at hj'; rw [upd_other _ _ e1] at hj;cases hj'
     exact absurd rfl (hnb hj)
    ·rw [upd_other _ _ e1] at hj; rw [upd_other _ _ e2] at hj';exact hm.inj j j' b z z' hj hj'
   case nb =>
    intro k hk';have h0:=hm.nb k hk';simp only at h0 ⊢;have hkb:¬ k<cx.base:=by simp only at hk'; omega
    have hkk:k=cx.base+(k - cx.base):=by omega
    rw [hkk,lb_at] at h0 ⊢;rw [lk_cons,if_neg (by simp only at hk'; omega)];rcases hb.at (k - cx.base) with ⟨_,h2⟩|⟨r0,r',h1,_,_⟩
    ·exact h2
    ·rw [h1] at h0; cases h0
   case nt=>exact hm1.nt
   case toks=>exact hm1.toks
   case tokb=>exact hm1.tokb
   case tinj=>exact hm1.tinj
   case tnt=>exact hm1.tnt
   case glob=>exact hm.glob.mono hle.cells fun g hg hk=>hle.whole g hg hk
   case fresh=>exact hm1.fresh
  ·refine hL.step ⟨hle,fun k hkb hg=>⟨?_,?_⟩⟩
   ·simp only [G']; rw [upd_other _ _ (by omega)]; exact hg
   ·simp only; rw [lb_out hkb,lb_out hkb]
theorem AL.thawS {cx:Cx} {nt0 nt:Nat} {K:Exit→AState→Prop} {q:List CI} {x:Code} {l l':List (Nat × AV)} {out:Bxs} {loc loc':List (Nat × List (List AV))} {tok:Nat→Bool} (t s sz:Nat) (es:List (List D)) (r:Nat)
  (hn:cx.nb=cx.base+cx.n) (hs:s<cx.n) (hk:lk loc s=none) (ht:tok t=true) (hne:es≠[]) (hr:tl l r=.stk t sz es)
  (hl:CvL (TsTo t (cx.base+s) sz es) l l') (hb:CvB (TsTo t (cx.base+s) sz es) loc loc')
  (h:∀ m,AL P cx nt0 K (.c x::q) ⟨tl l',lb cx.base out ((s,rowsD es++List.replicate m (List.replicate sz .bot))::loc'),upd tok t false,nt⟩):AL P cx nt0 K (.c x::q) ⟨tl l,lb cx.base out loc,tok,nt⟩:=by
 simp only [AL] at h ⊢;exact AT.thawS t s sz es r hn hs hk ht hne hr hl hb h
section
variable {t k sz:Nat} {es:List (List D)}
@[simp] theorem tsTo_bot (x:AV):TsTo t k sz es x .bot:=.bot
@[simp] theorem tsTo_same (x:AV):TsTo t k sz es x x:=.same
@[simp] theorem tsTo_stk {n:Nat}:TsTo t k sz es (.stk t sz es) (.msl k 0 n sz)↔n=es.length:=⟨fun h=>by cases h; rfl,fun h=>by subst h; exact .stk⟩
end
variable {P:Program}
theorem FlatV.of_rvs {G:Gh} {w:World} {sz:Nat}:∀ {es:List (List D)} {vs:List Value},(∀ e∈es,e.length=sz)→RVs G w (es.flatten.map AV.d) vs→(∀ v∈vs,v.oneCell'=true)→FlatV w.cell? G.ps sz es vs
 | [],vs,_,h,_=>by
  have hv:vs=[]:=List.eq_nil_of_length_eq_zero (by have:=h.1; simpa using this.symm)
  subst hv;exact FlatV.none_ _ _ _
 | e::es,vs,hs,h,h1=>by
  have he:=hs e (by simp);rw [List.flatten_cons,List.map_append] at h;have hl:=h.1;rw [List.length_append,List.length_map,List.length_map] at hl;have ha:=h.take e.length;have hb:=h.drop e.length;rw [List.take_append_of_le_length (by simp),List.take_of_length_le (by simp)] at ha;rw [List.drop_append,List.drop_of_length_le (by simp),List.nil_append,List.length_map,Nat.sub_self,List.drop_zero] at hb;have f1:FlatV w.cell? G.ps sz [e] (vs.take e.length):=by
   refine ⟨by rw [List.length_take]; simp; omega,fun u hu=>h1 u (List.mem_of_mem_take hu),fun q hq=>by simp at hq; rw [hq]; exact he,fun i j hi hj=>?_⟩;have hi0:i=0:=by simp at hi; omega
   subst hi0;simp only [List.getElem_cons_zero] at hj ⊢;have hj2:j<(vs.take e.length).length:=by rw [List.length_take]; omega
   have h3:=ha.2 j (by simpa using hj) hj2;simp only [List.getElem_map] at h3;refine ⟨(vs.take e.length)[j],by rw [Nat.zero_mul,Nat.zero_add]; exact List.getElem?_eq_getElem hj2,?_⟩;cases h3 with
   | d h4=>exact h4
  have f2:=FlatV.of_rvs (fun q hq=>hs q (by simp [hq])) hb (fun v hv=>h1 v (List.mem_of_mem_drop hv));have:=f1.append f2
  rw [List.take_append_drop] at this;exact this
inductive SpTo (k sz:Nat) (es:List (List D)):AV→AV→Prop
 | bot {x}:SpTo k sz es x .bot
 | same {x} (h:OkIn (· ≠ k) (fun _=>True) x):SpTo k sz es x x
 | msl:SpTo k sz es (.msl k 0 es.length sz) (.d (.sl sz es))
theorem Trans.sealD {cx:Cx} {nt0 nt:Nat} {l l':List (Nat × AV)} {out:Bxs} {loc loc':List (Nat × List (List AV))} {tok:Nat→Bool} (s sz:Nat) (es:List (List D)) (rest:List (List AV)) (r:Nat)
  (ho:out=cx.B0) (hsz:∀ e∈es,e.length=sz) (hr:tl l r=.msl (cx.base+s) 0 es.length sz) (hk':lk loc' s=none)
  (hl:CvL (SpTo (cx.base+s) sz es) l l') (hb:CvB (SpTo (cx.base+s) sz es) loc loc') :
  Trans cx nt0 ⟨tl l,lb cx.base out ((s,rowsD es++rest)::loc),tok,nt⟩ ⟨tl l',lb cx.base out loc',tok,nt⟩:=by
 intro G0 w0 G a w he hn0 hS hL;have hm:=hS.mem;have hgnt:G.nt=nt:=hm.nt
 have hwit:=hS.tmps r;simp only at hwit;rw [hr] at hwit;obtain ⟨b,hbk⟩:∃ b,G.bx (cx.base+s)=some (b,sz):=by
  generalize hq:(AV.msl (cx.base+s) 0 es.length sz)=q at hwit;generalize a.tmps.getD r undef=v0 at hwit;cases hwit with
  | msl h1 h2 h3=>cases hq; exact ⟨_,h1⟩
  | _=>cases hq
 have hboxk:lb cx.base out ((s,rowsD es++rest)::loc) (cx.base+s)=some (rowsD es++rest):=by rw [lb_at,lk_cons,if_pos rfl]
 obtain ⟨hkind,cs,e,hheap,hrows,hR,hone⟩:=hm.box _ _ b sz hboxk hbk
 let G1:Gh:={ bx:=G.bx,kind:=upd G.kind b .whole,tk:=G.tk,nt:=G.nt }
 let G':Gh:={ bx:=upd G.bx (cx.base+s) none,kind:=upd G.kind b .whole,tk:=G.tk,nt:=G.nt }
 have hne:∀ {q j},G.tk q=some (some j)→j≠b:=fun h e=>by
  obtain ⟨f,cur,e',h1,_⟩:=hm.tokb _ _ h;rw [e,hkind] at h1; rcases h1 with ⟨h1,_⟩|h1 <;> cases h1
 have hle:Le G w G1 w:=by
  refine ⟨rfl,rfl,rfl,Nat.le_refl _,fun b' _ hb'=>⟨?_,rfl⟩,fun b' f c hb'=>⟨⟨f,Nat.le_refl _,?_⟩,fun _ _ _=>rfl⟩,fun k x hk=>hk,Nat.le_refl _,fun q hq=>?_,fun _ _ _ _ h=>⟨_,_,h⟩⟩
  ·simp only [G1]; rw [upd_other _ _ (fun e=>by rw [e,hkind] at hb'; cases hb')]; exact hb'
  ·simp only [G1]; rw [upd_other _ _ (fun e=>by rw [e,hkind] at hb'; cases hb')]; exact hb'
  ·refine .inr ⟨rfl,fun j hj=>⟨?_,fun _=>rfl⟩⟩;simp only [G1]; exact upd_other _ _ (hne hj)
 have hcells:∀ (q:Addr) (u:Value),G.ps q→w.cell? q=some u→G'.ps q∧w.cell? q=some u:=fun q u h1 h2=>hle.cells q u h1 h2
 -- what does not speak of the box
 have hok:∀ {x:AV} {v:Value},OkIn (· ≠ cx.base+s) (fun _=>True) x→RV G w x v→RV G' w x v:=by
  intro x v hx h;have h1:=h.mono hle;clear h;induction h1 with
  | bot=>exact .bot
  | d h2=>exact .d h2
  | osl h2 h3=>exact .osl h2 h3
  | ptr h2=>cases hx with|ptr hp=>exact .ptr (by simp only [G']; rw [upd_other _ _ hp]; exact h2)
  | buf h2 h3 h4 h5=>exact .buf h2 h3 h4 h5
  | here h2 h3=>cases hx with|here hp=>exact .here (by simp only [G']; rw [upd_other _ _ hp]; exact h2) h3
  | cptr q u hc hr=>exact .cptr q u hc hr
  | msl h2 h3 h4=>cases hx with|msl hp=>exact .msl (by simp only [G']; rw [upd_other _ _ hp]; exact h2) h3 h4
  | fn hl _ ih=>cases hx with|fn hp=>exact .fn hl fun i h1 h2=>ih i h1 h2 (hp _ (List.getElem_mem h1))
  | agg hl _ hone ih=>cases hx with|agg hp=>exact .agg hl (fun i h1 h2=>ih i h1 h2 (hp _ (List.getElem_mem h1))) hone
  | tup hl _ ih=>cases hx with|tup hp=>exact .tup hl fun i h1 h2=>ih i h1 h2 (hp _ (List.getElem_mem h1))
  | ex h2=>exact .ex h2
  | stk h2=>exact .stk h2
  | que h2 h3=>exact .que h2 h3
  | mp h2=>exact .mp h2
  | mpd h2=>exact .mpd h2
 have hto:∀ x y v,SpTo (cx.base+s) sz es x y→RV G w x v→RV G' w y v:=by
  intro x y v hxy h;cases hxy with
  | bot=>exact .bot
  | same h1=>exact hok h1 h
  | msl =>
   generalize hq:(AV.msl (cx.base+s) 0 es.length sz)=q at h;cases h with
   | msl h1 h2 h3 =>
    cases hq;rw [hbk] at h1;cases h1;rw [List.flatten_append,rowsD_flat] at hR;have hR1:=hR.take (es.flatten.map AV.d).length;rw [List.take_append_of_le_length (Nat.le_refl _),List.take_length] at hR1;have hfv:=FlatV.of_rvs hsz hR1 (fun v hv=>hone v (List.mem_of_mem_take hv));refine .d (RVd.of_flat h2 h3 ⟨hfv.len,fun a ha q u hq=>?_,hfv.one,fun _=>⟨_,rfl⟩,hfv.each,fun i j hi hj=>?_⟩)
    ·cases ha;rw [add_none];refine ⟨by simp [Gh.ps,G',upd_same],?_⟩;rw [cell_of_row w b _ _ e (0,0) hheap];obtain ⟨hlt,rfl⟩:=List.getElem?_eq_some_iff.1 hq;rw [List.getElem_take];have hl2:q<cs.size:=by rw [List.length_take] at hlt; simp at hlt; omega
     have e0:0 * sz+q=q:=by omega
     rw [e0];simp [hl2]
    ·obtain ⟨u,hu,hr⟩:=hfv.read i j hi hj;exact ⟨u,hu,hr.mono hcells⟩
   | _=>cases hq
 have hRVs:∀ {xs ys:List AV} {vs:List Value},CvR (SpTo (cx.base+s) sz es) xs ys→RVs G w xs vs→RVs G' w ys vs:=fun h hr=>⟨h.1.symm.trans hr.1,fun i h1 h2=>hto _ _ _ (h.2 i (by rw [h.1]; exact h1) h1) (hr.2 i _ h2)⟩
 refine ⟨G',⟨hS.defers,hS.size,fun i=>hto _ _ _ (hl.at .bot i) (hS.tmps i),?_⟩,?_,?_⟩
 ·constructor
  case box =>
   intro k rows b' z hk hb';have e1:k≠cx.base+s:=fun e=>by
    subst e;simp only at hk;rw [lb_at,hk'] at hk; cases hk
   simp only [G'] at hb';rw [upd_other _ _ e1] at hb';have hbne:b'≠b:=fun e=>by subst e; exact e1 (hm.inj _ _ _ _ _ hb' hbk)
   by_cases hkb:k<cx.base
   ·simp only at hk;rw [lb_out hkb] at hk;obtain ⟨g1,cs',e',g2,g3,g4,g5⟩:=hm.box k rows b' z (by simp only; rw [lb_out hkb]; exact hk) hb';refine ⟨by simp only [G']; rw [upd_other _ _ hbne]; exact g1,cs',e',g2,g3,⟨g4.1,fun i h1 h2=>?_⟩,g5⟩;have hmem:rows.flatten[i]∈rows.flatten:=List.getElem_mem _
    obtain ⟨q,hq,hxq⟩:=List.mem_flatten.1 hmem;have hG0:G0.bx k≠none:=by rw [←hL.1.bx k hkb,hb']; simp
    have:=he k rows hkb (by rw [←ho]; exact hk) hG0 q hq _ hxq
    exact hok (this.imp (fun j hj=>by omega) fun _ _=>trivial) (g4.2 i h1 h2)
   ·have hkk:k=cx.base+(k - cx.base):=by omega
    simp only at hk;rw [hkk,lb_at] at hk;rcases hb.at (k - cx.base) with ⟨_,h2⟩|⟨r0,r',h1,h2,h3⟩
    ·rw [h2] at hk; cases hk
    ·rw [h2] at hk;cases hk;obtain ⟨g1,cs',e',g2,g3,g4,g5⟩:=hm.box k r0 b' z (by simp only; rw [hkk,lb_at,lk_cons,if_neg (by omega)]; exact h1) hb';refine ⟨by simp only [G']; rw [upd_other _ _ hbne]; exact g1,cs',e',g2,fun q hq=>?_,hRVs h3.flat g4,g5⟩;obtain ⟨i,hi,rfl⟩:=List.getElem_of_mem hq;have hi0:i<r0.length:=by rw [h3.1]; exact hi
     rw [←(h3.2 i hi0 hi).1];exact g3 _ (List.getElem_mem _)
  case nobox =>
   intro k hk;simp only [G'];by_cases e1:k=cx.base+s
   ·subst e1; simp [upd_same]
   ·rw [upd_other _ _ e1];refine hm.nobox k ?_;simp only at hk ⊢;by_cases hkb:k<cx.base
    ·rw [lb_out hkb] at hk ⊢; exact hk
    ·have hkk:k=cx.base+(k - cx.base):=by omega
     rw [hkk,lb_at] at hk ⊢;rw [lk_cons,if_neg (by omega)];rcases hb.at (k - cx.base) with ⟨h1,_⟩|⟨r0,r',_,h2,_⟩
     ·exact h1
     ·rw [h2] at hk; cases hk
  case inj =>
   intro j j' b' z z' hj hj';simp only [G'] at hj hj';by_cases e1:j=cx.base+s
   ·subst e1; simp [upd_same] at hj
   ·by_cases e2:j'=cx.base+s
    ·subst e2; simp [upd_same] at hj'
    ·rw [upd_other _ _ e1] at hj; rw [upd_other _ _ e2] at hj';exact hm.inj j j' b' z z' hj hj'
  case nb =>
   intro k hk;have h0:=hm.nb k hk;simp only at h0 ⊢;by_cases hkb:k<cx.base
   ·rw [lb_out hkb] at h0 ⊢; exact h0
   ·have hkk:k=cx.base+(k - cx.base):=by omega
    rw [hkk,lb_at] at h0 ⊢;by_cases e1:k - cx.base=s
    ·rw [e1]; exact hk'
    ·rw [lk_cons,if_neg e1] at h0;rcases hb.at (k - cx.base) with ⟨_,h2⟩|⟨r0,r',h1,_,_⟩
     ·exact h2
     ·rw [h1] at h0; cases h0
  case nt=>exact hm.nt
  case toks=>exact hm.toks
  case tokb =>
   intro q j hq;obtain ⟨f,cur,e',g1,g2⟩:=hm.tokb q j hq;refine ⟨f,cur,e',?_,g2⟩;simp only [G'];rw [upd_other _ _ (hne hq)];exact g1
  case tinj=>exact hm.tinj
  case tnt=>exact hm.tnt
  case glob=>exact hm.glob.mono hcells fun g hg hk=>hle.whole g hg hk
  case fresh =>
   intro b' hb';have:=heap_lt hheap
   simp only [G'];rw [upd_other _ _ (by omega)];exact hm.fresh b' hb'
 ·refine hL.1.trans ⟨rfl,rfl,rfl,Nat.le_refl _,hle.whole,hle.part,fun k hk=>?_,hle.nt,hle.tk,hle.ty⟩;simp only [G'];exact upd_other _ _ (by omega)
 ·intro k hkb hg;have:=hL.2 k hkb hg
  simp only at this ⊢;rw [lb_out hkb] at this ⊢;exact this
section
variable {k sz:Nat} {es:List (List D)}
@[simp] theorem spTo_bot (x:AV):SpTo k sz es x .bot:=.bot
@[simp] theorem spTo_d (x:D):SpTo k sz es (.d x) (.d x):=.same .d
@[simp] theorem spTo_osl (n:Nat) (xs:List (List D)) (o:Own):SpTo k sz es (.osl n xs o) (.osl n xs o):=.same (.osl fun _ _=>trivial)
@[simp] theorem spTo_msl:SpTo k sz es (.msl k 0 es.length sz) (.d (.sl sz es)):=.msl
end
def enumL (ok:List Int→Nat→Bool) (m:Nat):Nat→List Int→List (List Int)
 | 0,L=>[L]
 | r+1,L=>(List.range m).flatMap fun k=>if ok L k=true then enumL ok m r (L++[(k:Int)]) else []
theorem take_app {α:Type} (n:Nat) (a b:List α):((a.take n)++b).take n=(a++b).take n:=by
 by_cases h:a.length≤n
 ·rw [List.take_of_length_le h]
 ·rw [List.take_append_of_le_length (by simp; omega),List.take_append_of_le_length (by omega),List.take_take,Nat.min_self]
theorem fold_take {α β:Type} (most:Nat) (g:List β→α→List β) (f:α→List β):∀ (l:List α) (out:List β),(∀ x∈l,∀ out,out.length≤most→g out x=(out++f x).take most)→out.length≤most →
  l.foldl g out=(out++l.flatMap f).take most
 | [],out,_,h=>by simp [List.take_of_length_le h]
 | x::l,out,hg,h=>by
  rw [List.foldl_cons,hg x (by simp) out h,fold_take most g f l _ (fun y hy=>hg y (by simp [hy])) (by simp; omega),take_app,List.flatMap_cons,List.append_assoc]
theorem full_take {β:Type} {most:Nat} {out:List β} (h:out.length=most) (l:List β):(out++l).take most=out:=by
 rw [List.take_append_of_le_length (by omega),List.take_of_length_le (by omega)]
def fndE (most:Nat) (ok:List Int→Nat→Bool) (m:Nat) (N:List Int):Nat→List Int→List Mo→List Mo
 | 0,E,out=>if out.length=most then out else out++[⟨N,E⟩]
 | r+1,E,out=>if out.length=most then out else (List.range m).foldl (fun out k=>if ok E k=true then fndE most ok m N r (E++[(k:Int)]) out else out) out
theorem fndE_eq (most:Nat) (ok:List Int→Nat→Bool) (m:Nat) (N:List Int):∀ (r:Nat) (E:List Int) (out:List Mo),out.length≤most→fndE most ok m N r E out=(out++(enumL ok m r E).map (Mo.mk N)).take most
 | 0,E,out,h=>by
  unfold fndE;split
  ·rename_i e; rw [full_take e]
  ·rw [enumL,List.map_cons,List.map_nil,List.take_of_length_le (by simp; omega)]
 | r+1,E,out,h=>by
  unfold fndE;split
  ·rename_i e; rw [full_take e]
  ·rw [fold_take most _ (fun k=>if ok E k=true then (enumL ok m r (E++[(k:Int)])).map (Mo.mk N) else []) _ _ (fun k _ out ho=>by
    split
    ·exact fndE_eq most ok m N r _ out ho
    ·rw [List.append_nil,List.take_of_length_le ho]) h,enumL,List.map_flatMap]
   refine congrArg (fun f=>(out++List.flatMap f (List.range m)).take most) (funext fun k=>?_);split <;> simp
def fndN (most:Nat) (okN pos:List Int→Nat→Bool) (mn:Nat) (okE:List Int→List Int→Nat→Bool) (me re:Nat):Nat→List Int→List Mo→List Mo
 | 0,N,out=>fndE most (okE N) me N re [] out
 | r+1,N,out=>if out.length=most then out else (List.range mn).foldl (fun out k=>if okN N k=true then (if pos N k=true then fndN most okN pos mn okE me re r (N++[(k:Int)]) out else out) else out) out
def allF (okN:List Int→Nat→Bool) (mn:Nat) (okE:List Int→List Int→Nat→Bool) (me re:Nat) (r:Nat) (N:List Int):List Mo:=(enumL okN mn r N).flatMap fun N=>(enumL (okE N) me re []).map (Mo.mk N)
theorem allF_zero (okN:List Int→Nat→Bool) (mn:Nat) (okE:List Int→List Int→Nat→Bool) (me re:Nat) (N:List Int):allF okN mn okE me re 0 N=(enumL (okE N) me re []).map (Mo.mk N):=by simp [allF,enumL]
theorem allF_succ (okN:List Int→Nat→Bool) (mn:Nat) (okE:List Int→List Int→Nat→Bool) (me re:Nat) (r:Nat) (N:List Int) :
  allF okN mn okE me re (r+1) N=(List.range mn).flatMap fun k=>if okN N k=true then allF okN mn okE me re r (N++[(k:Int)]) else []:=by
 unfold allF;rw [enumL,List.flatMap_assoc];congr 1
 funext k
 split <;> simp
theorem fndN_eq (most:Nat) (okN pos:List Int→Nat→Bool) (mn:Nat) (okE:List Int→List Int→Nat→Bool) (me re:Nat) (P:List Int→Prop) (hP:∀ N k,P N→k<mn→okN N k=true→P (N++[(k:Int)]))
  (hpos:∀ r N k,P N→okN N k=true→pos N k=false→allF okN mn okE me re r (N++[(k:Int)])=[]):∀ (r:Nat) (N:List Int) (out:List Mo),P N→out.length≤most →
  fndN most okN pos mn okE me re r N out=(out++allF okN mn okE me re r N).take most
 | 0,N,out,hN,h=>by rw [fndN,fndE_eq _ _ _ _ _ _ _ h,allF_zero]
 | r+1,N,out,hN,h=>by
  rw [fndN,allF_succ];split
  ·rename_i e; rw [full_take e]
  ·refine fold_take most _ _ _ _ (fun k hk out ho=>?_) h;have hk:=List.mem_range.1 hk;cases e:okN N k
   ·simp [List.take_of_length_le ho]
   ·simp only [if_true];cases e2:pos N k
    ·simp only [Bool.false_eq_true,if_false];rw [hpos r N k hN e e2,List.append_nil,List.take_of_length_le ho]
    ·simp only [if_true];exact fndN_eq most okN pos mn okE me re P hP hpos r _ out (hP N k hN hk e) ho
theorem fndE_len {most:Nat} {ok:List Int→Nat→Bool} {m:Nat} {N:List Int} {r:Nat} {E:List Int} {out:List Mo} (h:out.length≤most):(fndE most ok m N r E out).length≤most:=by
 rw [fndE_eq _ _ _ _ _ _ _ h]; simp; omega
theorem enumL_mem {ok:List Int→Nat→Bool} {m:Nat}:∀ {r:Nat} {L x:List Int},x∈enumL ok m r L↔∃ T:List Nat,T.length=r∧(∀ k∈T,k<m)∧x=L++T.map (fun (k:Nat)=>(k:Int))∧∀ i (h:i<T.length),ok (L++(T.take i).map (fun (k:Nat)=>(k:Int))) T[i]=true
 | 0,L,x=>by
  rw [enumL,List.mem_singleton];constructor
  ·rintro rfl; exact ⟨[],rfl,by simp,by simp,fun i h=>by simp at h⟩
  ·rintro ⟨T,h1,_,h2,_⟩;have:T=[]:=List.eq_nil_of_length_eq_zero h1
   subst this;simpa using h2
 | r+1,L,x=>by
  rw [enumL,List.mem_flatMap];constructor
  ·rintro ⟨k,hk,hx⟩;split at hx
   ·rename_i hok;obtain ⟨T,h1,h2,rfl,h4⟩:=enumL_mem.1 hx;refine ⟨k::T,by simp [h1],fun q hq=>?_,by simp,fun i hi=>?_⟩
    ·rcases List.mem_cons.1 hq with rfl|hq
     ·exact List.mem_range.1 hk
     ·exact h2 q hq
    ·cases i with
     | zero=>simpa using hok
     | succ i =>
      have:=h4 i (by simpa using hi)
      simpa using this
   ·simp at hx
  ·rintro ⟨T,h1,h2,rfl,h4⟩;cases T with
   | nil=>simp at h1
   | cons k T =>
    refine ⟨k,List.mem_range.2 (h2 k (by simp)),?_⟩;have h0:=h4 0 (by simp);simp only [List.take_zero,List.map_nil,List.append_nil,List.getElem_cons_zero] at h0;rw [if_pos h0];refine enumL_mem.2 ⟨T,by simpa using h1,fun q hq=>h2 q (by simp [hq]),by simp,fun i hi=>?_⟩;have:=h4 (i+1) (by simpa using hi)
    simpa using this
structure Sr where
 t:Ty
 p:Gr
 g:Gr
 pt:Mo
 inj:Bool
 most:Nat
structure Sr.Ok (s:Sr):Prop where
 t:s.t.Fit
 tp:∀ j,j<s.t.nodes.length→(s.t.nd j).par<j
 p:s.p.Fit
 g:s.g.Fit
 m:s.most≤1000000
 vp:∀ e∈s.p.edges,0≤e.fr∧e.fr<s.p.nodes.length∧0≤e.to∧e.to<s.p.nodes.length
 pn:s.pt.nodes.length=s.p.nodes.length
 pe:s.pt.edges.length=s.p.edges.length
 np:∀ n∈s.p.nodes,0≤n∧n<s.t.nodes.length
 ng:∀ n∈s.g.nodes,0≤n∧n<s.t.nodes.length
def gvB (l:List Int) (i k:Nat):Bool:=if 0≤l.getD i 0 then decide (l.getD i 0=(k:Int)) else true
def usB (inj:Bool) (L:List Int) (k:Nat):Bool:=if inj=true then decide ((k:Int)∈L) else false
def Sr.okE (s:Sr) (N E:List Int) (k:Nat):Bool :=
 if gvB s.pt.edges E.length k=true then (if usB s.inj E k=true then false else decide (s.g.edges.getD k default=wantX s.p N E.length)) else false
def Sr.okN (s:Sr) (N:List Int) (k:Nat):Bool :=
 if gvB s.pt.nodes N.length k=true then (if usB s.inj N k=true then false else isB s.t (s.g.nodes.getD k 0) (s.p.nodes.getD N.length 0)) else false
def Sr.eqE (s:Sr) (N:List Int) (i k:Nat):Bool:=decide (s.g.edges.getD k default=wantX s.p N i)
def Sr.anE (s:Sr) (N:List Int) (i k:Nat):Bool:=(List.range k).any (s.eqE N i)
def Sr.fitE (s:Sr) (N:List Int) (i:Nat):Bool :=
 if (N.length:Int)≤(s.p.edges.getD i default).fr then true else if (N.length:Int)≤(s.p.edges.getD i default).to then true else s.anE N i s.g.edges.length
def Sr.fit (s:Sr) (N:List Int):Bool:=(List.range s.p.edges.length).all (s.fitE N)
theorem Sr.fit_true {s:Sr} {N:List Int} (h:∀ i,i<s.p.edges.length→s.fitE N i=true):s.fit N=true:=by
 unfold Sr.fit;rw [List.all_eq_true];exact fun i hi=>h i (List.mem_range.1 hi)
def Sr.fnR (s:Sr):Nat→List Int→List Mo→List Mo
 | 0,N,out=>if out.length=s.most+1 then out else if s.fit N=true then fndE (s.most+1) (s.okE N) s.g.edges.length N s.p.edges.length [] out else out
 | r+1,N,out=>if out.length=s.most+1 then out else if s.fit N=true then (List.range s.g.nodes.length).foldl (fun out k=>if s.okN N k=true then s.fnR r (N++[(k:Int)]) out else out) out else out
abbrev Sr.fnN (s:Sr):Nat→List Int→List Mo→List Mo:=fndN (s.most+1) s.okN (fun N k=>s.fit (N++[(k:Int)])) s.g.nodes.length s.okE s.g.edges.length s.p.edges.length
theorem Sr.fnR_eq (s:Sr):∀ (r:Nat) (N:List Int) (out:List Mo),s.fnR r N out=if s.fit N=true then s.fnN r N out else out
 | 0,N,out=>by
  unfold Sr.fnR Sr.fnN fndN;by_cases h:out.length=s.most+1
  ·rw [if_pos h];cases s.p.edges.length <;> simp [fndE,h]
  ·rw [if_neg h]
 | r+1,N,out=>by
  unfold Sr.fnR Sr.fnN fndN;by_cases h:out.length=s.most+1
  ·rw [if_pos h,if_pos h]; simp
  ·rw [if_neg h,if_neg h];have e:(fun (out:List Mo) (k:Nat)=>if s.okN N k=true then s.fnR r (N++[(k:Int)]) out else out)=fun out k=>if s.okN N k=true then (if s.fit (N++[(k:Int)])=true then s.fnN r (N++[(k:Int)]) out else out) else out:=by
    funext out k
    rw [Sr.fnR_eq s r]
   rw [e]
end Go.AM
