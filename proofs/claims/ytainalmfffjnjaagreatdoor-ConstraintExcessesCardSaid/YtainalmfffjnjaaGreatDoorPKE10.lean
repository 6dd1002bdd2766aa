/-
 Parts of the proof, as merged from many texts: a machine over data, what the functions compute, plain laws.
-/
import Derived.Test.YtainalmfffjnjaaGreatDoorPKE9
import Derived.Shelf.Small.Strs
import Derived.Shelf.Strconv.Itoa0
import Derived.Shelf.Strconv.Itoa1
import Derived.Shelf.Strconv.Itoa2
import Derived.Shelf.Strconv.Itoa3
import Derived.Shelf.LaysM
import Derived.Ground.Names2Prog
import Derived.Test.YtainalmfffjnjaaGreatDoorProg
set_option linter.unusedSimpArgs false
set_option linter.unusedVariables false
namespace Go.AM
open Go
variable {P:Program}
theorem upon_exits {o:Oper} {a:Act} {next:Act→World→Prop} {Q Q':Exit→Act→World→Prop} (h:∀ e a w,e≠.normal→Q e a w→Q' e a w) (r:Result Next) (hh:o.upon P a next Q r):o.upon P a next Q' r:=by
 have hl:LetsOut Q→LetsOut Q':=fun ⟨a,w,h1⟩=>⟨a,w,h _ _ _ (by simp) h1⟩
 cases r with
 | ok n w' =>
  cases n <;> simp only [Oper.upon] at hh ⊢ <;>
   first
    | exact hh
    | exact Calls.mono hh (fun e w'' he=>by
      cases e
      ·exact he
      ·exact h _ _ _ (by simp) he
      ·exact hl he)
 | halt x w'=>cases x <;> simp only [Oper.upon] at hh ⊢ <;> first|exact h _ _ _ (by simp) hh|exact hh
theorem wpOp_exits {ops:Array Oper} {i:Nat} {K:Act→World→Prop} {Q Q':Exit→Act→World→Prop} {a:Act} {w:World} (h:∀ e a w,e≠.normal→Q e a w→Q' e a w) (hh:wpOp P ops Q i K a w):wpOp P ops Q' i K a w:=by
 have hl:LetsOut Q→LetsOut Q':=fun ⟨a,w,h1⟩=>⟨a,w,h _ _ _ (by simp) h1⟩
 unfold wpOp at *;split
 ·rename_i ho;simpa only [ho] using hh
 ·rename_i o ho;simp only [ho] at hh;split
  ·rename_i hw;rw [if_pos hw] at hh;exact hh.imp (upon_exits h _) fun ⟨h1,h2⟩=>⟨h1,hl h2⟩
  ·rename_i hw;rw [if_neg hw] at hh;exact hh
def tiedAll (L:Array Oper) (m:Nat):Bool:=(List.range m).all fun j=>(List.range (m+1)).any fun i=>decide (j<i)&&(match L[i]? with|some x=>(direct x).contains j|none=>false)
def downOk (L:Array Oper):Bool:=(List.range L.size).all fun i=>match L[i]? with|some o=>(direct o).all fun j=>decide (j<i)|none=>true
theorem tiedAll_spec {L:Array Oper} {m:Nat} (h:tiedAll L m=true) {j:Nat} (hj:j<m):∃ i x,j<i∧i≤m∧L[i]?=some x∧j∈direct x:=by
 unfold tiedAll at h;have h1:=List.all_eq_true.1 h j (by simpa using hj);obtain ⟨i,hi,h2⟩:=List.any_eq_true.1 h1;simp only [Bool.and_eq_true,decide_eq_true_eq] at h2;obtain ⟨h2,h3⟩:=h2;split at h3
 ·rename_i x hx;exact ⟨i,x,h2,by simp at hi; omega,hx,by simpa using h3⟩
 ·cases h3
theorem downOk_spec {L:Array Oper} (h:downOk L=true) {i:Nat} {o:Oper} (ho:L[i]?=some o):∀ j∈direct o,j<i:=by
 unfold downOk at h;have hi:=(Array.getElem?_eq_some_iff.1 ho).1;have h1:=List.all_eq_true.1 h i (by simpa using hi);rw [ho] at h1;intro j hj;simpa using List.all_eq_true.1 h1 j hj
theorem ready_mem {L:Array Oper} {listed:Array Bool} {i:Nat}:i∈Region.ready .any L listed↔i<L.size∧listed.getD i true=false∧∃ o,L[i]?=some o∧∀ j∈direct o,listed.getD j false=true:=by
 unfold Region.ready;rw [List.mem_filter];simp only [List.mem_range,Bool.and_eq_true,Bool.not_eq_true'];constructor
 ·rintro ⟨h1,h2,h3⟩;refine ⟨h1,h2,L[i],by simp [h1],?_⟩;simp only [h1,Array.getElem?_eq_getElem,Option.map_some,Option.getD_some,Array.all_eq_true'] at h3;intro j hj;unfold direct at hj;obtain ⟨e,he,rfl⟩:=List.mem_map.1 hj;obtain ⟨he1,he2⟩:=List.mem_filter.1 he;have:=h3 e (by simpa using he1)
  simpa [he2] using this
 ·rintro ⟨h1,h2,o,h3,h4⟩;refine ⟨h1,h2,?_⟩;rw [h3];simp only [Option.map_some,Option.getD_some,Array.all_eq_true'];intro e he;by_cases hb:Region.binds .any e=true
  ·have:=h4 e.on (by unfold direct; exact List.mem_map.2 ⟨e,List.mem_filter.2 ⟨by simpa using he,hb⟩,rfl⟩)
   simp [this]
  ·simp [hb]
theorem getD_some {l:Array Bool} {i:Nat} {d v:Bool} (h:l[i]?=some v):l.getD i d=v:=by simp [Array.getD_eq_getD_getElem?,h]
def guardOk (ops:Array Oper):Bool:=ops.all fun o=>match o.guard with|some (j,_)=>decide (j<ops.size)|none=>true
theorem of_getD {l:Array Bool} {i:Nat} (h:l.getD i false=true):l[i]?=some true:=by
 rw [Array.getD_eq_getD_getElem?] at h;cases e:l[i]? with
 | none=>rw [e] at h; cases h
 | some v=>rw [e] at h; simp at h; rw [h]
theorem wpAny_split {ops:Array Oper} {o:Oper} {Q Qm:Exit→Act→World→Prop} (hdown:downOk (ops.push o)=true) (htied:tiedAll (ops.push o) ops.size=true) (hgo:guardOk ops=true) (hg:o.guard=none)
  (hq:∀ e a w,e≠.normal→Qm e a w→Q e a w) (hn:∀ a w,Qm .normal a w→o.wp P a w (Q .normal) Q∨(o.asks P a w∧LetsOut Q)) :
  ∀ (fuel:Nat) (listed l':Array Bool),listed.size=ops.size+1→l'.size=ops.size→(∀ i,i<ops.size→l'[i]?=listed[i]?)→listed[ops.size]?=some false →
   (∀ i x,(ops.push o)[i]?=some x→listed.getD i false=true→∀ j∈direct x,listed.getD j false=true) →
   ∀ a w,wpAny P .any ops Qm fuel l' a w→wpAny P .any (ops.push o) Q (fuel+1) listed a w:=by
 have hsL:(ops.push o).size=ops.size+1:=Array.size_push _
 have hat:∀ i,i<ops.size→(ops.push o)[i]?=ops[i]?:=fun i hi=>by rw [Array.getElem?_push,if_neg (by omega)]
 have hlast:(ops.push o)[ops.size]?=some o:=by rw [Array.getElem?_push,if_pos rfl]
 have fin:∀ (listed:Array Bool),listed.size=ops.size+1→(∀ i,i<ops.size→listed[i]?=some true)→listed[ops.size]?=some false→∀ a w,Qm .normal a w→∀ n,wpAny P .any (ops.push o) Q (n+1) listed a w:=by
  intro listed hsz hall hls a w hQ n;have hm:ops.size∈Region.ready .any (ops.push o) listed:=ready_mem.2 ⟨by omega,getD_some hls,o,hlast,fun j hj=>getD_some (hall j (downOk_spec hdown hlast j hj))⟩
  refine ⟨fun h0=>absurd hm (by rw [h0]; simp),fun i hi=>?_⟩;have him:i=ops.size:=by
   obtain ⟨h1,h2,_⟩:=ready_mem.1 hi;rcases Nat.lt_or_ge i ops.size with h|h
   ·rw [getD_some (hall i h)] at h2; cases h2
   ·omega
  subst him;have hall2:Region.ready .any (ops.push o) (listed.setIfInBounds ops.size true)=[]:=by
   rw [List.eq_nil_iff_forall_not_mem];intro i hi;obtain ⟨h1,h2,_⟩:=ready_mem.1 hi;have:(listed.setIfInBounds ops.size true)[i]?=some true:=by
    rw [Array.getElem?_setIfInBounds];by_cases e:ops.size=i
    ·rw [if_pos e,if_pos (by omega)]
    ·rw [if_neg e]; exact hall i (by omega)
   rw [getD_some this] at h2;cases h2
  have hK:∀ a w,Q .normal a w→wpAny P .any (ops.push o) Q n (listed.setIfInBounds ops.size true) a w:=by
   intro a w hq;cases n with
   | zero=>exact ⟨hall2,hq⟩
   | succ n=>exact ⟨fun _=>hq,fun i hi=>by rw [hall2] at hi; cases hi⟩
  unfold wpOp;rw [hlast];simp only;rw [if_pos (by simp [Region.wanted,hg])];exact (hn a w hQ).imp (Oper.wp_mono hK) id
 intro fuel;induction fuel with
 | zero =>
  intro listed l' hsz hsz' hll hls hcl a w h;obtain ⟨h1,h2⟩:=h;refine fin listed hsz ?_ hls a w h2 0;have hC:∀ n i,i<n→i<ops.size→listed[i]?=some true:=by
   intro n;induction n with
   | zero=>intro i hi; omega
   | succ n ihn =>
    intro i hi him;cases e:listed[i]? with
    | none=>rw [Array.getElem?_eq_none_iff] at e; omega
    | some v =>
     cases v with
     | true=>rfl
     | false =>
      exfalso
      have:i∈Region.ready .any ops l':=ready_mem.2 ⟨him,getD_some ((hll i him).trans e),ops[i],by simp [him],fun j hj=>by
       have hji:=downOk_spec hdown (by rw [hat i him]; simp [him]) j hj;exact getD_some ((hll j (by omega)).trans (ihn j (by omega) (by omega)))⟩
      rw [h1] at this;cases this
  exact fun i hi=>hC (i+1) i (Nat.lt_succ_self _) hi
 | succ k ih =>
  intro listed l' hsz hsz' hll hls hcl a w h;obtain ⟨h1,h2⟩:=h;have hval:∀ i,i<ops.size→listed[i]?=some true∨listed[i]?=some false:=fun i hi=>by
   cases e:listed[i]? with
   | none=>rw [Array.getElem?_eq_none_iff] at e; omega
   | some v=>cases v <;> simp
  have hrd:∀ i,i<ops.size→(i∈Region.ready .any (ops.push o) listed↔i∈Region.ready .any ops l'):=by
   intro i hi;have hd:∀ x,ops[i]?=some x→((∀ j∈direct x,listed.getD j false=true)↔∀ j∈direct x,l'.getD j false=true):=fun x hx=>by
    have hj:=downOk_spec hdown ((hat i hi).trans hx);constructor
    ·exact fun h j hj'=>getD_some ((hll j (by have:=hj j hj'; omega)).trans (of_getD (h j hj')))
    ·exact fun h j hj'=>getD_some ((hll j (by have:=hj j hj'; omega)).symm.trans (of_getD (h j hj')))
   rw [ready_mem,ready_mem,hat i hi];have hg2:listed.getD i true=l'.getD i true:=by rw [Array.getD_eq_getD_getElem?,Array.getD_eq_getD_getElem?,hll i hi]
   constructor
   ·rintro ⟨_,g2,x,g3,g4⟩;exact ⟨hi,hg2 ▸ g2,x,g3,(hd x g3).1 g4⟩
   ·rintro ⟨_,g2,x,g3,g4⟩;exact ⟨by omega,hg2.symm ▸ g2,x,g3,(hd x g3).2 g4⟩
  by_cases hall:∀ i,i<ops.size→listed[i]?=some true
  ·refine fin listed hsz hall hls a w (h1 ?_) (k+1);rw [List.eq_nil_iff_forall_not_mem];intro i hi;obtain ⟨g1,g2,_⟩:=ready_mem.1 hi;rw [getD_some ((hll i g1).trans (hall i g1))] at g2;cases g2
  ·have hnm:ops.size∉Region.ready .any (ops.push o) listed:=by
    intro hm;refine hall ?_;obtain ⟨_,_,x,hx,hx2⟩:=ready_mem.1 hm;rw [hlast] at hx;cases hx;have hD:∀ n j,ops.size - j≤n→j<ops.size→listed[j]?=some true:=by
     intro n;induction n with
     | zero=>intro j h; omega
     | succ n ihn =>
      intro j hj hjm;obtain ⟨i,x,hji,him,hx,hjx⟩:=tiedAll_spec htied hjm;by_cases e:i=ops.size
      ·subst e;rw [hlast] at hx;cases hx;exact of_getD (hx2 j hjx)
      ·exact of_getD (hcl i x hx (getD_some (ihn i (by omega) (by omega))) j hjx)
    exact fun i hi=>hD _ i (Nat.le_refl _) hi
   refine ⟨fun h0=>?_,fun i hi=>?_⟩
   ·exfalso
    refine hall ?_;have hC:∀ n i,i<n→i<ops.size→listed[i]?=some true:=by
     intro n;induction n with
     | zero=>intro i hi; omega
     | succ n ihn =>
      intro i hi him;rcases hval i him with e|e
      ·exact e
      ·exfalso
       have:i∈Region.ready .any (ops.push o) listed:=ready_mem.2 ⟨by omega,getD_some e,ops[i],by rw [hat i him]; simp [him],fun j hj=>by
        have hji:=downOk_spec hdown (by rw [hat i him]; simp [him]) j hj;exact getD_some (ihn j (by omega) (by omega))⟩
       rw [h0] at this;cases this
    exact fun i hi=>hC (i+1) i (Nat.lt_succ_self _) hi
   ·have him:i<ops.size:=by
     obtain ⟨g1,_⟩:=ready_mem.1 hi;rcases Nat.lt_or_ge i ops.size with h|h
     ·exact h
     ·exfalso
      have:i=ops.size:=by omega
      subst this;exact hnm hi
    have h3:=wpOp_exits hq (h2 i ((hrd i him).1 hi));obtain ⟨_,g2,x,g3,g4⟩:=ready_mem.1 hi;have hx:ops[i]?=some x:=(hat i him).symm.trans g3
    have hIH:∀ a w,wpAny P .any ops Qm k (l'.setIfInBounds i true) a w→wpAny P .any (ops.push o) Q (k+1) (listed.setIfInBounds i true) a w:=by
     intro a w hh;refine ih _ _ (by simpa using hsz) (by simpa using hsz') ?_ ?_ ?_ a w hh
     ·intro j hj;rw [Array.getElem?_setIfInBounds,Array.getElem?_setIfInBounds];by_cases e:i=j
      ·rw [if_pos e,if_pos e,if_pos (by omega),if_pos (by omega)]
      ·rw [if_neg e,if_neg e]; exact hll j hj
     ·rw [Array.getElem?_setIfInBounds,if_neg (by omega)]; exact hls
     ·intro i2 y hy hl2 j hj;have hset:∀ q,(listed.setIfInBounds i true)[q]?=some true↔(q=i∨listed[q]?=some true):=by
       intro q;rw [Array.getElem?_setIfInBounds];by_cases e:i=q
       ·rw [if_pos e,if_pos (by omega)]; simp [e]
       ·rw [if_neg e];constructor
        ·exact .inr
        ·rintro (h|h)
         ·exact absurd h.symm e
         ·exact h
      refine getD_some ((hset j).2 ?_);rcases (hset i2).1 (of_getD hl2) with e|e
      ·subst e;rw [g3] at hy;cases hy;exact .inr (of_getD (g4 j hj))
      ·exact .inr (of_getD (hcl i2 y hy (getD_some e) j hj))
    unfold wpOp at h3 ⊢;rw [hx] at h3;rw [g3];simp only at h3 ⊢;have hwan:Region.wanted x (yielded (ops.push o) a.tmps)=Region.wanted x (yielded ops a.tmps):=by
     unfold Region.wanted;cases hgx:x.guard with
     | none=>rfl
     | some jw =>
      obtain ⟨j,want⟩:=jw;have hj:j<ops.size:=by
       unfold guardOk at hgo;have:=Array.all_eq_true'.1 hgo x (Array.mem_of_getElem? hx)
       rw [hgx] at this;simpa using this
      simp only [yielded,hat j hj]
    rw [hwan];split
    ·rename_i hw;rw [if_pos hw] at h3;exact h3.imp (Oper.wp_mono hIH) id
    ·rename_i hw;rw [if_neg hw] at h3;exact hIH _ _ h3
def splitOk (n:Nat) (ops:Array Oper) (o:Oper):Bool:=regionOk n ops true&&(regionOk n #[o] false&&(downOk (ops.push o)&&(tiedAll (ops.push o) ops.size&&(guardOk ops&&o.guard.isNone))))
variable {P:Program} {wr:Bool}
theorem effW_maker' {base:Nat} {o:Oper} {ρ:Operand→AV} {b b':Bxs} {v:AV} (hm:maker o.op=true) (h:EffW P base o ρ b v b') :
  ∃ s rows,o.dst=some s∧b'=upd b (base+s) (some rows):=by
 unfold EffW at h;cases hop:o.op <;> rw [hop] at hm h <;> first|cases hm|skip
 ·simp only at h;split at h
  ·rename_i s cs h1 h2;obtain ⟨g1,g2,g3⟩:=h;exact ⟨s,[cs],h1,g3⟩
  ·exact h.elim
 ·simp only at h;split at h
  ·rename_i sz by' zs s k1 n k2 n' h1 h2 h3 h4
   obtain ⟨g1,g2,g3,g4,g5,g6⟩:=h;exact ⟨s,_,h2,g6⟩
  ·exact h.elim
def isLoad:Op→Bool
 | .load .. => true
 | _=>false
theorem isLoad_spec {o:Oper} (h:isLoad o.op=true):cls o.op=.r∧∃ p,ptrOp o.op=some p:=by
 cases hop:o.op <;> rw [hop] at h <;> first|cases h|skip
 exact ⟨rfl,_,rfl⟩
theorem maker_cls {o:Oper} (h:maker o.op=true):cls o.op=.w:=by
 cases hop:o.op <;> rw [hop] at h <;> first|(exact absurd h Bool.false_ne_true)|rfl
def lm (x y:Oper):Bool:=isLoad x.op&&maker y.op||maker x.op&&isLoad y.op
def regOk5 (ops:Array Oper):Bool :=
 let an:=ancs ops.toList []
 dstUniq ops&&(List.range ops.size).all fun i=>(match ops[i]? with|some o=>(direct o).all fun j=>decide (j<i)|none=>true) &&
  (List.range i).all fun j=>(an.getD i 0).testBit j||(match ops[j]?,ops[i]? with
   | some x,some y=>Oper.apart ops x y&&(!clash x y||isPtr x.op&&isPtr y.op||lm x y)
   | _,_=>false)
def mks:List Oper→List Nat
 | []=>[]
 | o::r=>if maker o.op=true then (match o.dst with|some s=>s::mks r|none=>mks r) else mks r
def lds:List Oper→List Operand
 | []=>[]
 | o::r=>match o.op with
  | .load _ p=>p::lds r
  | _=>lds r
def NB (x:AV) (k:Nat):Prop:=match x with
 | .ptr k' _ _=>k'≠k
 | _=>True
def FarN (x:AV) (base:Nat):List Nat→Prop
 | []=>True
 | s::r=>NB x (base+s)∧FarN x base r
def FarM (S:AState) (base:Nat) (ms:List Nat):List Operand→Prop
 | []=>True
 | p::r=>FarN (S.ev p) base ms∧FarM S base ms r
theorem farN_spec {x:AV} {base:Nat}:∀ {l:List Nat} {s:Nat},FarN x base l→s∈l→NB x (base+s)
 | a::r,s,h,hs=>by
  rcases List.mem_cons.1 hs with rfl|hs
  ·exact h.1
  ·exact farN_spec h.2 hs
theorem farM_spec {S:AState} {base:Nat} {ms:List Nat}:∀ {l:List Operand} {p:Operand},FarM S base ms l→p∈l→FarN (S.ev p) base ms
 | a::r,p,h,hp=>by
  rcases List.mem_cons.1 hp with rfl|hp
  ·exact h.1
  ·exact farM_spec h.2 hp
theorem mks_mem {o:Oper} {s:Nat} (hm:maker o.op=true) (hd:o.dst=some s):∀ {l:List Oper},o∈l→s∈mks l
 | a::r,h=>by
  rcases List.mem_cons.1 h with rfl|h
  ·rw [mks,if_pos hm,hd]; simp
  ·have:=mks_mem hm hd h
   rw [mks];split
   ·split
    ·exact List.mem_cons_of_mem _ this
    ·exact this
   ·exact this
theorem lds_mem {o:Oper} {p:Operand} (hm:isLoad o.op=true) (hp:ptrOp o.op=some p):∀ {l:List Oper},o∈l→p∈lds l
 | a::r,h=>by
  rcases List.mem_cons.1 h with rfl|h
  ·cases hop:o.op <;> rw [hop] at hm hp <;> first|cases hm|skip
   simp only [ptrOp,Option.some.injEq] at hp;subst hp;rw [lds,hop]; simp
  ·have:=lds_mem hm hp h
   rw [lds];split
   ·exact List.mem_cons_of_mem _ this
   ·exact this
theorem any_sound5 {n nb base:Nat} {ops:Array Oper} {Q:Exit→Act→World→Prop} {Sf:AState} {G0:Gh} {w0:World} {b0:Bxs} (hreg:regOk5 ops=true) (hal:allocOk ops=true) (hdst:dstOk n ops=true) (hnb:base+n≤nb)
  (hfar:Far Sf (ptrs ops.toList)) (hfm:FarM Sf base (mks ops.toList) (lds ops.toList))
  (hQ:∀ a' w' G',RelS n nb G' Sf a' w'→LeK base G0 w0 b0 G' w' Sf.box→Q .normal a' w') (fuel:Nat) (listed:Array Bool) (rem:List Nat) (S:AState) (a:Act) (w:World) (G:Gh) (hrem:rem=List.range ops.size) (hside:Side ops S)
  (h1:listed.size=ops.size) (h2:rem=(List.range ops.size).filter (fun i=>!listed.getD i true)) (h3:rem.length=fuel) (h4:∀ i o,ops[i]?=some o→listed.getD i false=true→∀ j∈direct o,listed.getD j false=true)
  (h5:IRun P false base ops rem S Sf) (h6:RelS n nb G S a w) (h7:∀ i∈rem,∀ o,ops[i]?=some o→Pend P base o G S.box) (h8:LeK base G0 w0 b0 G w S.box):wpAny P .any ops Q fuel listed a w:=by
 unfold regOk5 at hreg;simp only [Bool.and_eq_true] at hreg;obtain ⟨hu,hreg⟩:=hreg;have key:∀ (i:Nat) (o:Oper),ops[i]?=some o→(∀ j∈direct o,j<i)∧∀ j x,ops[j]?=some x→j<i→((ancs ops.toList []).getD i 0).testBit j=true∨x.apart ops o=true∧((clash x o=false∨isPtr x.op=true∧isPtr o.op=true)∨lm x o=true):=by
  intro i o ho;have his:i<ops.size:=(Array.getElem?_eq_some_iff.1 ho).1
  have hall:=List.all_eq_true.1 hreg i (by simpa using his);rw [ho] at hall;simp only [Bool.and_eq_true] at hall;refine ⟨fun j hj=>by simpa using List.all_eq_true.1 hall.1 j hj,fun j x hx hj=>?_⟩;have h2:=List.all_eq_true.1 hall.2 j (by simpa using hj);rw [hx] at h2;simpa only [Bool.or_eq_true,Bool.and_eq_true,Bool.not_eq_true'] using h2
 have start:Ivs Sf S:=by
  intro t;by_cases hd:∃ o∈ops.toList,o.dst=some t
  ·obtain ⟨o,ho,hd⟩:=hd;exact .inr (hside o ho t hd)
  ·refine .inl (irun_keeps (fun j _ x hx hxd=>hd ⟨x,by simpa using Array.mem_of_getElem? hx,hxd⟩) h5).symm
 refine any_sound' (fun i o ho=>(key i o ho).1) (Iv:=Ivs Sf) (fun i o S' S'' rest ho hni hst hrun hiv=>ivs_step hu i o S' S'' rest ho hni hst hrun hiv) ?_ hal hdst hnb hQ fuel listed rem S a w G h1 h2 h3 h4 start h5 h6 h7 h8;intro i j o x ho hx hj hb S' S1 S2 hiv g1 g2;have back:∀ (z:Operand) k i off,S'.ev z=.ptr k i off→Sf.ev z=.ptr k i off:=by
  intro z k i off hz;cases z with
  | tmp t =>
   rcases hiv t with e|e
   ·exact e.symm.trans hz
   ·have hz':S'.tmps t=.ptr k i off:=hz
    rw [hz'] at e;exact e.elim
  | const c=>exact hz
  | global c=>exact hz
  | func c=>exact hz
 have nb:∀ (y z:Oper) (p:Operand) (s:Nat),isLoad y.op=true→ptrOp y.op=some p→y∈ops.toList→maker z.op=true→z.dst=some s→z∈ops.toList→∀ k i off,S'.ev p=.ptr k i off→k≠base+s:=fun y z p s hy hp hym hz hs hzm k i off hk=>by
  have:=farN_spec (farM_spec hfm (lds_mem hy hp hym)) (mks_mem hz hs hzm)
  rw [back p _ _ _ hk] at this;exact this
 have hxm:x∈ops.toList:=by simpa using Array.mem_of_getElem? hx
 have hom:o∈ops.toList:=by simpa using Array.mem_of_getElem? ho
 rcases (key i o ho).2 j x hx hj with h|⟨h,h'⟩
 ·rw [hb] at h; cases h
 ·by_cases hlm:lm x o=true
  ·unfold lm at hlm;simp only [Bool.or_eq_true,Bool.and_eq_true] at hlm;refine gstep_swap' h (fun {c0 c1 c2 s0 s1 s2 m0 m1 m2 vx vy} e1 e2=>?_) g1 g2;unfold Eff at e1 e2 ⊢;rcases hlm with ⟨q1,q2⟩|⟨q1,q2⟩
   ·obtain ⟨k1,p,hp⟩:=isLoad_spec q1;have k2:=maker_cls q2;simp only [k1,k2] at e1 e2 ⊢;obtain ⟨e1,rfl,rfl,rfl⟩:=e1;obtain ⟨e2,rfl,rfl⟩:=e2;obtain ⟨s,rows,hs,rfl⟩:=effW_maker' q2 e2;exact ⟨_,_,_,⟨e2,rfl,rfl⟩,effR_ptr hp k1 e1 (nb x o p s q1 hp hxm q2 hs hom),rfl,rfl,rfl⟩
   ·obtain ⟨k1,p,hp⟩:=isLoad_spec q2;have k2:=maker_cls q1;simp only [k1,k2] at e1 e2 ⊢;obtain ⟨e1,rfl,rfl⟩:=e1;obtain ⟨e2,rfl,rfl,rfl⟩:=e2;obtain ⟨s,rows,hs,rfl⟩:=effW_maker' q1 e1;exact ⟨_,_,_,⟨effR_back hp k1 (nb o x p s q2 hp hom q1 hs hxm) e2,rfl,rfl,rfl⟩,e1,rfl,rfl⟩
  ·have h':=h'.resolve_right hlm
   cases hc:clash x o with
   | false=>exact gstep_swap h hc g1 g2
   | true =>
    rcases h' with h'|⟨h1',h2'⟩
    ·rw [hc] at h'; cases h'
    ·obtain ⟨p,hp⟩:=Option.isSome_iff_exists.1 h1';obtain ⟨q,hq⟩:=Option.isSome_iff_exists.1 h2';have hnk:=far_spec hfar hj (by simpa using hx) (by simpa using ho) hp hq hc;refine gstep_swap' h (fun {c0 c1 c2 s0 s1 s2 m0 m1 m2 vx vy} e1 e2=>?_) g1 g2;refine eff_far hp hq (fun k i1 off k' i2 off' hk hk'=>?_) e1 e2;rw [back p _ _ _ hk,back q _ _ _ hk'] at hnk;exact hnk
open Go Go.Proofs
def typN (t:Ty) (n:Int):Bool:=decide (0≤n∧n<t.nodes.length)
def typX (t:Ty) (e:E):Bool:=decide (0≤e.ty∧e.ty<t.edges.length)
def typG (t:Ty) (g:Gr):Bool:=g.nodes.all (typN t)&&g.edges.all (typX t)
def opM (p:Gr):Mo:=⟨List.replicate p.nodes.length (-1),List.replicate p.edges.length (-1)⟩
abbrev mosR (l:List Mo):List (List D):=l.map fun m=>[ints m.nodes,ints m.edges]
def givS (t:Ty) (p g:Gr):Int:=if tyE t≠0 then tyE t else if validG p≠0 then validG p else if validG g≠0 then validG g else if typG t p=false then 13 else if typG t g=false then 13 else 0
def allSr (t:Ty) (p g:Gr) (inj:Bool):Sr:=⟨t,p,g,opM p,inj,5000⟩
def allL (t:Ty) (p g:Gr) (inj:Bool):List Mo:=(allSr t p g inj).fnR p.nodes.length [] []
def allS (t:Ty) (p g:Gr) (inj:Bool):List Mo × Int:=if givS t p g≠0 then ([],givS t p g) else if 5000<(allL t p g inj).length then ([],3) else (allL t p g inj,0)
theorem typG_nodes {t:Ty} {g:Gr} (h:typG t g=true):∀ n∈g.nodes,0≤n∧n<t.nodes.length:=by
 unfold typG at h;rw [Bool.and_eq_true] at h;intro n hn;have:=List.all_eq_true.1 h.1 n hn
 simpa [typN] using this
theorem givS_zero {t:Ty} {p g:Gr} (h:givS t p g=0):tyE t=0∧validG p=0∧validG g=0∧typG t p=true∧typG t g=true:=by
 unfold givS at h;split at h
 ·contradiction
 ·split at h
  ·contradiction
  ·split at h
   ·contradiction
   ·split at h
    ·simp at h
    ·split at h
     ·simp at h
     ·rename_i a b c d e;exact ⟨by simpa using a,by simpa using b,by simpa using c,by simpa using d,by simpa using e⟩
theorem allSr_ok {t:Ty} {p g:Gr} {inj:Bool} (ht:t.Fit) (hp:p.Fit) (hg:g.Fit) (h:givS t p g=0):(allSr t p g inj).Ok:=by
 obtain ⟨h1,h2,h3,h4,h5⟩:=givS_zero h;exact ⟨ht,tyE_par h1,hp,hg,by simp [allSr],validG_edges h2,by simp [allSr,opM],by simp [allSr,opM],typG_nodes h4,typG_nodes h5⟩
theorem wantX_app {p:Gr} {N M:List Int} {i:Nat} (h1:(p.edges.getD i default).fr.toNat<N.length) (h2:(p.edges.getD i default).to.toNat<N.length):wantX p (N++M) i=wantX p N i:=by
 unfold wantX;generalize p.edges.getD i default=e at *;rw [List.getD_eq_getElem?_getD,List.getD_eq_getElem?_getD,List.getD_eq_getElem?_getD,List.getD_eq_getElem?_getD,List.getElem?_append_left h1,List.getElem?_append_left h2]
theorem Sr.fit_dead {s:Sr} (h:s.Ok) {N:List Int} (hf:s.fit N=false) (r:Nat):allF s.okN s.g.nodes.length s.okE s.g.edges.length s.p.edges.length r N=[]:=by
 rw [List.eq_nil_iff_forall_not_mem];intro m hm;unfold allF at hm;obtain ⟨N',hN',hm⟩:=List.mem_flatMap.1 hm;obtain ⟨es,hes,rfl⟩:=List.mem_map.1 hm;obtain ⟨T,t1,t2,rfl,t4⟩:=enumL_mem.1 hN';obtain ⟨U,u1,u2,rfl,u4⟩:=enumL_mem.1 hes;unfold Sr.fit at hf;obtain ⟨i,hi,hfi⟩:=List.all_eq_false.1 hf;have hi:=List.mem_range.1 hi;have hfi:s.fitE N i=false:=by simpa using hfi
 unfold Sr.fitE at hfi;have hgd:s.p.edges.getD i default=s.p.edges[i]:=by simp [hi]
 obtain ⟨x1,x2,x3,x4⟩:=h.vp _ (List.getElem_mem hi);split at hfi
 ·cases hfi
 ·split at hfi
  ·cases hfi
  ·rename_i a b;rw [hgd] at a b;have hiU:i<U.length:=by omega
   have hu:=u4 i hiU;have hk:=u2 _ (List.getElem_mem hiU);unfold Sr.anE at hfi;have hno:=List.any_eq_false.1 hfi U[i] (List.mem_range.2 hk);unfold Sr.eqE at hno;unfold Sr.okE at hu;split at hu
   ·split at hu
    ·cases hu
    ·have hl:(([]:List Int)++(U.take i).map (fun (k:Nat)=>(k:Int))).length=i:=by simp; omega
     rw [hl,wantX_app (by rw [hgd]; omega) (by rw [hgd]; omega)] at hu;exact hno hu
   ·cases hu
theorem Sr.fit_nil {s:Sr} (h:s.Ok):s.fit []=true:=by
 refine Sr.fit_true fun i hi=>?_
 have hgd:s.p.edges.getD i default=s.p.edges[i]:=by simp [hi]
 obtain ⟨x1,x2,x3,x4⟩:=h.vp _ (List.getElem_mem hi);unfold Sr.fitE;rw [if_pos (by rw [hgd]; simpa using x1)]
theorem Sr.fnR_all {s:Sr} (h:s.Ok):s.fnR s.p.nodes.length [] []=(allF s.okN s.g.nodes.length s.okE s.g.edges.length s.p.edges.length s.p.nodes.length []).take (s.most+1):=by
 rw [Sr.fnR_eq,if_pos (Sr.fit_nil h)];have:=fndN_eq (s.most+1) s.okN (fun N k=>s.fit (N++[(k:Int)])) s.g.nodes.length s.okE s.g.edges.length s.p.edges.length (fun _=>True) (fun _ _ _ _ _=>trivial) (fun r N k _ _ hp=>Sr.fit_dead h hp r) s.p.nodes.length [] [] trivial (by simp)
 simpa using this
theorem enumL_nil {ok:List Int→Nat→Bool} {m r:Nat} {x:List Int}:x∈enumL ok m r []↔x.length=r∧∀ i (h:i<x.length),∃ k:Nat,k<m∧x[i]=(k:Int)∧ok (x.take i) k=true:=by
 rw [enumL_mem];constructor
 ·rintro ⟨T,h1,h2,rfl,h4⟩;simp only [List.nil_append,List.length_map];refine ⟨h1,fun i hi=>⟨T[i],h2 _ (List.getElem_mem hi),by simp,?_⟩⟩;have:=h4 i hi
  rw [List.nil_append] at this;rw [←List.map_take];exact this
 ·rintro ⟨h1,h2⟩;have hx:(x.map Int.toNat).map (fun (k:Nat)=>(k:Int))=x:=by
   refine List.ext_getElem (by simp) fun i a b=>?_
   obtain ⟨k,_,hk,_⟩:=h2 i b;simp [hk]
  refine ⟨x.map Int.toNat,by simpa using h1,fun k hk=>?_,by rw [List.nil_append,hx],fun i hi=>?_⟩
  ·obtain ⟨y,hy,rfl⟩:=List.mem_map.1 hk;obtain ⟨i,hi,rfl⟩:=List.getElem_of_mem hy;obtain ⟨k,hk,e,_⟩:=h2 i hi;rw [e];simpa using hk
  ·have hi':i<x.length:=by simpa using hi
   obtain ⟨k,hk,e,ho⟩:=h2 i hi';rw [List.nil_append,List.map_take,hx];simpa [e] using ho
structure Sr.Mt (s:Sr) (m:Mo):Prop where
 n:m.nodes.length=s.p.nodes.length
 e:m.edges.length=s.p.edges.length
 nodes:∀ i (h:i<m.nodes.length),∃ k:Nat,k<s.g.nodes.length∧m.nodes[i]=(k:Int)∧s.okN (m.nodes.take i) k=true
 edges:∀ i (h:i<m.edges.length),∃ k:Nat,k<s.g.edges.length∧m.edges[i]=(k:Int)∧s.okE m.nodes (m.edges.take i) k=true
theorem Sr.all_mem {s:Sr} {m:Mo}:m∈allF s.okN s.g.nodes.length s.okE s.g.edges.length s.p.edges.length s.p.nodes.length []↔s.Mt m:=by
 unfold allF;rw [List.mem_flatMap];constructor
 ·rintro ⟨N,hN,hm⟩;obtain ⟨es,hes,rfl⟩:=List.mem_map.1 hm;have a:=enumL_nil.1 hN;have b:=enumL_nil.1 hes;exact ⟨a.1,b.1,a.2,b.2⟩
 ·rintro h;exact ⟨m.nodes,enumL_nil.2 ⟨h.n,h.nodes⟩,List.mem_map.2 ⟨m.edges,enumL_nil.2 ⟨h.e,h.edges⟩,rfl⟩⟩
theorem allS_mem {t:Ty} {p g:Gr} {inj:Bool} (ht:t.Fit) (hp:p.Fit) (hg:g.Fit) (h:(allS t p g inj).2=0) {m:Mo}:m∈(allS t p g inj).1↔(allSr t p g inj).Mt m:=by
 unfold allS at h ⊢;split at h
 ·contradiction
 ·rename_i h0;have h0:givS t p g=0:=by simpa using h0
  have hok:=allSr_ok (inj:=inj) ht hp hg h0;rw [if_neg (by simp [h0])];split at h
  ·simp at h
  ·rename_i h1;rw [if_neg h1];have e:=Sr.fnR_all hok;have e2:allL t p g inj=(allF (allSr t p g inj).okN g.nodes.length (allSr t p g inj).okE g.edges.length p.edges.length p.nodes.length []).take 5001:=e
   have hl:(allF (allSr t p g inj).okN g.nodes.length (allSr t p g inj).okE g.edges.length p.edges.length p.nodes.length []).length≤5001:=by
    have:(allL t p g inj).length=_:=congrArg List.length e2
    rw [List.length_take] at this;omega
   show m∈allL t p g inj↔_
   rw [e2,List.take_of_length_le hl];exact Sr.all_mem
theorem nodup_take {x:List Int}:x.Nodup↔∀ i (h:i<x.length),x[i]∉x.take i:=by
 unfold List.Nodup;rw [List.pairwise_iff_getElem];constructor
 ·intro h i hi hm;obtain ⟨j,hj,e⟩:=List.mem_take_iff_getElem.1 hm;exact h j i (by omega) hi (by omega) e
 ·intro h i j hi hj hij e;exact h j hj (List.mem_take_iff_getElem.2 ⟨i,by omega,e⟩)
structure Img (t:Ty) (p g:Gr) (inj:Bool) (m:Mo):Prop where
 n:m.nodes.length=p.nodes.length
 e:m.edges.length=p.edges.length
 rn:∀ x∈m.nodes,0≤x∧x<g.nodes.length
 re:∀ x∈m.edges,0≤x∧x<g.edges.length
 ty:∀ i (h:i<m.nodes.length),isB t (g.nodes.getD m.nodes[i].toNat 0) (p.nodes.getD i 0)=true
 ed:∀ i (h:i<m.edges.length),g.edges.getD m.edges[i].toNat default=wantX p m.nodes i
 dn:inj=true→m.nodes.Nodup
 de:inj=true→m.edges.Nodup
theorem gvB_rep {n i k:Nat} (h:i<n):gvB (List.replicate n (-1)) i k=true:=by
 unfold gvB;rw [if_neg (by simp [h])]
theorem allSr_okN {t:Ty} {p g:Gr} {inj:Bool} {N:List Int} {k:Nat} (h:N.length<p.nodes.length) :
  (allSr t p g inj).okN N k=true↔(inj=true→(k:Int)∉N)∧isB t (g.nodes.getD k 0) (p.nodes.getD N.length 0)=true:=by
 unfold Sr.okN;show (if gvB (List.replicate p.nodes.length (-1)) N.length k=true then _ else _)=true↔_
 rw [if_pos (gvB_rep h)];show (if usB inj N k=true then false else isB t (g.nodes.getD k 0) (p.nodes.getD N.length 0))=true↔_
 unfold usB;cases inj <;> by_cases hm:(k:Int)∈N <;> simp [hm]
theorem allSr_okE {t:Ty} {p g:Gr} {inj:Bool} {N M:List Int} {k:Nat} (h:M.length<p.edges.length) :
  (allSr t p g inj).okE N M k=true↔(inj=true→(k:Int)∉M)∧g.edges.getD k default=wantX p N M.length:=by
 unfold Sr.okE;show (if gvB (List.replicate p.edges.length (-1)) M.length k=true then _ else _)=true↔_
 rw [if_pos (gvB_rep h)];show (if usB inj M k=true then false else decide (g.edges.getD k default=wantX p N M.length))=true↔_
 unfold usB;cases inj <;> by_cases hm:(k:Int)∈M <;> simp [hm]
theorem allSr_Mt {t:Ty} {p g:Gr} {inj:Bool} {m:Mo}:(allSr t p g inj).Mt m↔Img t p g inj m:=by
 constructor
 ·rintro ⟨h1,h2,h3,h4⟩;have h1:m.nodes.length=p.nodes.length:=h1
  have h2:m.edges.length=p.edges.length:=h2
  have a3:∀ i (h:i<m.nodes.length),∃ k:Nat,k<g.nodes.length∧m.nodes[i]=(k:Int)∧(inj=true→(k:Int)∉m.nodes.take i)∧isB t (g.nodes.getD k 0) (p.nodes.getD i 0)=true:=by
   intro i hi;obtain ⟨k,k1,k2,k3⟩:=h3 i hi;have hl:(m.nodes.take i).length=i:=by simp; omega
   have:=(allSr_okN (by omega)).1 k3
   rw [hl] at this;exact ⟨k,k1,k2,this.1,this.2⟩
  have a4:∀ i (h:i<m.edges.length),∃ k:Nat,k<g.edges.length∧m.edges[i]=(k:Int)∧(inj=true→(k:Int)∉m.edges.take i)∧g.edges.getD k default=wantX p m.nodes i:=by
   intro i hi;obtain ⟨k,k1,k2,k3⟩:=h4 i hi;have hl:(m.edges.take i).length=i:=by simp; omega
   have:=(allSr_okE (by omega)).1 k3
   rw [hl] at this;exact ⟨k,k1,k2,this.1,this.2⟩
  refine ⟨h1,h2,fun x hx=>?_,fun x hx=>?_,fun i hi=>?_,fun i hi=>?_,fun hj=>nodup_take.2 fun i hi=>?_,fun hj=>nodup_take.2 fun i hi=>?_⟩
  ·obtain ⟨i,hi,rfl⟩:=List.getElem_of_mem hx;obtain ⟨k,k1,k2,_⟩:=a3 i hi;omega
  ·obtain ⟨i,hi,rfl⟩:=List.getElem_of_mem hx;obtain ⟨k,k1,k2,_⟩:=a4 i hi;omega
  ·obtain ⟨k,k1,k2,k3,k4⟩:=a3 i hi;rw [k2]; exact k4
  ·obtain ⟨k,k1,k2,k3,k4⟩:=a4 i hi;rw [k2]; exact k4
  ·obtain ⟨k,k1,k2,k3,k4⟩:=a3 i hi;rw [k2]; exact k3 hj
  ·obtain ⟨k,k1,k2,k3,k4⟩:=a4 i hi;rw [k2]; exact k3 hj
 ·intro h;have h1:=h.n;have h2:=h.e;refine ⟨h1,h2,fun i hi=>?_,fun i hi=>?_⟩
  ·have r:=h.rn _ (List.getElem_mem hi);have hl:(m.nodes.take i).length=i:=by simp; omega
   have hc:m.nodes[i]=((m.nodes[i].toNat:Nat):Int):=by omega
   refine ⟨m.nodes[i].toNat,by show m.nodes[i].toNat<g.nodes.length; omega,hc,(allSr_okN (by omega)).2 ⟨fun hj=>?_,?_⟩⟩
   ·rw [←hc]; exact nodup_take.1 (h.dn hj) i hi
   ·rw [hl]; exact h.ty i hi
  ·have r:=h.re _ (List.getElem_mem hi);have hl:(m.edges.take i).length=i:=by simp; omega
   have hc:m.edges[i]=((m.edges[i].toNat:Nat):Int):=by omega
   refine ⟨m.edges[i].toNat,by show m.edges[i].toNat<g.edges.length; omega,hc,(allSr_okE (by omega)).2 ⟨fun hj=>?_,?_⟩⟩
   ·rw [←hc]; exact nodup_take.1 (h.de hj) i hi
   ·rw [hl]; exact h.ed i hi
def Sr.fitK (s:Sr) (N:List Int) (i k:Nat):Bool:=if gvB s.pt.edges i k=true then decide (s.g.edges.getD k default=wantX s.p N i) else false
def Sr.posE (s:Sr) (N:List Int) (i:Nat):Bool :=
 if max (s.p.edges.getD i default).fr (s.p.edges.getD i default).to=(N.length:Int) - 1 then (List.range s.g.edges.length).any (s.fitK N i) else true
def Sr.pos (s:Sr) (N:List Int):Bool:=(List.range s.p.edges.length).all (s.posE N)
theorem Sr.pos_false {s:Sr} {N:List Int} {i:Nat} (hi:i<s.p.edges.length) (h:s.posE N i=false):s.pos N=false:=by
 unfold Sr.pos;rw [List.all_eq_false];exact ⟨i,List.mem_range.2 hi,by simp [h]⟩
theorem Sr.pos_true {s:Sr} {N:List Int} (h:∀ i,i<s.p.edges.length→s.posE N i=true):s.pos N=true:=by
 unfold Sr.pos;rw [List.all_eq_true];exact fun i hi=>h i (List.mem_range.1 hi)
theorem Sr.okE_eq (s:Sr) (N E:List Int) (k:Nat):s.okE N E k=(s.fitK N E.length k&&!usB s.inj E k):=by
 unfold Sr.okE Sr.fitK;cases gvB s.pt.edges E.length k <;> cases usB s.inj E k <;> simp
theorem Sr.pos_dead {s:Sr} (h:s.Ok) {N:List Int} (hf:s.pos N=false) (r:Nat):allF s.okN s.g.nodes.length s.okE s.g.edges.length s.p.edges.length r N=[]:=by
 rw [List.eq_nil_iff_forall_not_mem];intro m hm;unfold allF at hm;obtain ⟨N',hN',hm⟩:=List.mem_flatMap.1 hm;obtain ⟨es,hes,rfl⟩:=List.mem_map.1 hm;obtain ⟨T,t1,t2,rfl,t4⟩:=enumL_mem.1 hN';obtain ⟨U,u1,u2,rfl,u4⟩:=enumL_mem.1 hes;unfold Sr.pos at hf;obtain ⟨i,hi,hfi⟩:=List.all_eq_false.1 hf;have hi:=List.mem_range.1 hi;have hfi:s.posE N i=false:=by simpa using hfi
 unfold Sr.posE at hfi;have hgd:s.p.edges.getD i default=s.p.edges[i]:=by simp [hi]
 obtain ⟨x1,x2,x3,x4⟩:=h.vp _ (List.getElem_mem hi);split at hfi
 ·rename_i hmx;rw [hgd] at hmx;have hiU:i<U.length:=by omega
  have hu:=u4 i hiU;have hk:=u2 _ (List.getElem_mem hiU);have hno:=List.any_eq_false.1 hfi U[i] (List.mem_range.2 hk);have hl:(([]:List Int)++(U.take i).map (fun (k:Nat)=>(k:Int))).length=i:=by simp; omega
  rw [Sr.okE_eq,hl] at hu;have hu:=(Bool.and_eq_true_iff.1 hu).1;unfold Sr.fitK at hu hno;rw [wantX_app (by rw [hgd]; omega) (by rw [hgd]; omega)] at hu;exact hno hu
 ·cases hfi
abbrev Sr.fnP (s:Sr) (fm:Nat):Nat→List Int→List Mo→List Mo:=fndN fm s.okN (fun N k=>s.pos (N++[(k:Int)])) s.g.nodes.length s.okE s.g.edges.length s.p.edges.length
theorem Sr.fnP_eq {s:Sr} (h:s.Ok) (fm r:Nat) (N:List Int) (out:List Mo) (ho:out.length≤fm):s.fnP fm r N out=(out++allF s.okN s.g.nodes.length s.okE s.g.edges.length s.p.edges.length r N).take fm :=
 fndN_eq fm s.okN (fun N k=>s.pos (N++[(k:Int)])) s.g.nodes.length s.okE s.g.edges.length s.p.edges.length (fun _=>True) (fun _ _ _ _ _=>trivial) (fun r N k _ _ hp=>Sr.pos_dead h hp r) r N out trivial ho
theorem Sr.fnP_len {s:Sr} (h:s.Ok) {fm r:Nat} {N:List Int} {out:List Mo} (ho:out.length≤fm):(s.fnP fm r N out).length≤fm:=by
 rw [Sr.fnP_eq h _ _ _ _ ho]; simp; omega
theorem Sr.fnP_fnR {s:Sr} (h:s.Ok):s.fnP (s.most+1) s.p.nodes.length [] []=s.fnR s.p.nodes.length [] []:=by
 rw [Sr.fnR_all h,Sr.fnP_eq h _ _ _ _ (by simp)];simp
structure Sd where
 k:Int
 o:Bool
 near:Int
 far:Int
 low:Int
 high:Int
abbrev Sd.cells (s:Sd):List D:=[.raw (.int .i64 s.k),.raw (.bool s.o),.raw (.int .i64 s.near),.raw (.int .i64 s.far),.raw (.int .i64 s.low),.raw (.int .i64 s.high)]
abbrev Sd.av (s:Sd):AV:=.agg [I s.k,B s.o,I s.near,I s.far,I s.low,I s.high]
abbrev rSd (l:List Sd):List (List D):=l.map Sd.cells
abbrev sds (l:List Sd):D:=.sl 6 (rSd l)
def sdTwo (e:ET) (k:Nat):List Sd:=[⟨k,true,e.fr,e.to,e.ol,e.oh⟩,⟨k,false,e.to,e.fr,e.il,e.ih⟩]
def sdL (l:List ET) (n:Nat):List Sd:=(List.range n).flatMap fun k=>match l[k]? with|some e=>sdTwo e k|none=>[]
theorem sdL_succ {l:List ET} {n:Nat} (h:n<l.length):sdL l (n+1)=sdL l n++sdTwo l[n] n:=by
 unfold sdL;rw [List.range_succ,List.flatMap_append];simp [h]
theorem sdL_len {l:List ET}:∀ {n:Nat},n≤l.length→(sdL l n).length=2 * n
 | 0,_=>rfl
 | n+1,h=>by rw [sdL_succ h,List.length_append,sdL_len (by omega)]; simp [sdTwo]; omega
def sdsR (t:Ty):List Sd:=sdL t.edges t.edges.length
def Sd.link (s:Sd) (x:Int):E:=if s.o=true then ⟨s.k,0,x⟩ else ⟨s.k,x,0⟩
def tIs (t:Ty) (a b:Int):Bool:=if givE t [a,b]=0 then isB t a b else false
def endB (t:Ty) (s:Sd) (n:Nat):Bool:=if leafB t n=true then tIs t n s.far else false
def endsN (t:Ty) (s:Sd) (node:Int) (i:Nat):List Int:=(if tIs t node s.far=true then [-1] else [])++((List.range i).filter (endB t s)).map fun (n:Nat)=>(n:Int)
def endsR (t:Ty) (s:Sd) (node:Int):List Int:=endsN t s node t.nodes.length
theorem endsN_succ (t:Ty) (s:Sd) (node:Int) (i:Nat):endsN t s node (i+1)=endsN t s node i++(if endB t s i=true then [(i:Int)] else []):=by
 unfold endsN;rw [List.range_succ,List.filter_append,List.map_append,List.append_assoc];congr 2
 by_cases h:endB t s i=true <;> simp [h]
theorem endsN_len (t:Ty) (s:Sd) (node:Int) (i:Nat):(endsN t s node i).length≤i+1:=by
 unfold endsN;rw [List.length_append,List.length_map];have h1:=List.length_filter_le (endB t s) (List.range i);rw [List.length_range] at h1;split
 ·simp; omega
 ·simp; omega
def stSd (t:Ty) (nb:Nat) (box:Bxs) (x:Acc):AState :=
 ⟨tl [(9,I x.i),(8,I t.edges.length),(7,.d (ets t.edges)),(3,.osl 6 (rSd (sdL t.edges x.i)) x.own),(1,.ptr (nb+1) 0 0)],lb nb box [(1,[[.d (nts t.nodes),.d (ets t.edges)]])],x.tok,x.nt⟩
theorem sidesP_c (t:Ty) (ht:t.Fit) (tok:Tks) (nt:Nat):DCall Tryz.prog 100 [t.av] tok nt (.d (sds (sdsR t))) tok nt:=by
 intro box nb;have hte:=ht.e;refine sI Tryz.func100 Tryz.ntmps100 fun hbox htok=>?_
 repeat (first|simp|refine sR ?_)
 refine sN ?_;refine AL.loopT (stSd t nb box) (fun x=>x.i≤t.edges.length∧TK tok nt x.tok x.nt [x.own]) (fun x=>t.edges.length - x.i) ⟨0,.full,tok,nt⟩ ⟨Nat.zero_le _,(TK.start htok).full⟩ (Weaks.mk (Nat.le_refl _) rfl (by simp [ToL,lk,sdL]) (by simp [BoxL,lk])) ?_;rintro ⟨i,own,tok',nt'⟩ S ⟨hi,htk⟩ hS;simp only [stSd] at hS hi htk;subst hS;have hw:=sW (i:=i) (by omega);have hln:=sdL_len (l:=t.edges) hi;by_cases hlt:i<t.edges.length
 ·have hs:=sdL_succ hlt;try (simp [hlt])
  repeat (first|(refine sR ?_; simp [hlt])|(refine sC ?_; simp [hlt])|(refine sX ?_; simp only [AU, ↓reduceIte]))
  refine ⟨rfl,⟨by omega,htk.live⟩,?_⟩;try (simp [hw])
  repeat (first|(refine sR ?_; simp [hw])|(refine sC ?_; simp [hw])|(refine sX ?_; simp only [AU, ↓reduceIte]))
  refine sE ?_;exact ⟨⟨i+1,_,_,_⟩,⟨hlt,htk.app⟩,by simp only; omega,Weaks.mk htk.app.le rfl (by simp [ToL,lk,hs,sdTwo]) (by simp [BoxL,lk])⟩
 ·have:i=t.edges.length:=by omega
  subst this;try (simp)
  repeat (first|(refine sR ?_; simp)|(refine sC ?_; simp)|(refine sX ?_; simp only [AU, ↓reduceIte]))
  refine sN ?_;refine AL.ret ?_;try simp only [AU]
  exact ⟨by simp,Fin.data (av:=.d (sds (sdsR t))) (by simp [resAs,resA]; rfl) hbox rfl htok htk.old htk.le (by simp [packA,sdsR])⟩
theorem linkP_c (s:Sd) (x:Int) (tok:Tks) (nt:Nat):DCall Tryz.prog 173 [s.av,I x] tok nt (.agg [I (s.link x).ty,I (s.link x).fr,I (s.link x).to]) tok nt:=by
 intro box nb;cases hs:s.o
 ·have hl:s.link x=⟨s.k,x,0⟩:=by simp [Sd.link,hs]
  refine sI Tryz.func173 Tryz.ntmps173 fun hbox htok=>?_
  try (simp [hs])
  repeat (first|(refine sR ?_; simp [hs])|(refine sC ?_; simp [hs])|(refine sX ?_; simp only [AU, ↓reduceIte]))
  refine sT (sH hbox htok ?_);simp [packA,hl]
 ·have hl:s.link x=⟨s.k,0,x⟩:=by simp [Sd.link,hs]
  refine sI Tryz.func173 Tryz.ntmps173 fun hbox htok=>?_
  try (simp [hs])
  repeat (first|(refine sR ?_; simp [hs])|(refine sC ?_; simp [hs])|(refine sX ?_; simp only [AU, ↓reduceIte]))
  refine sT (sH hbox htok ?_);simp [packA,hl]
theorem givE_isB {t:Ty} {a b:Int} (h:givE t [a,b]=0):tyE t=0∧0≤a∧a<t.nodes.length∧0≤b∧b<t.nodes.length:=by
 have h1:=givE_in h;have h2:=h1.2 a (by simp);have h3:=h1.2 b (by simp);exact ⟨h1.1,h2.1,h2.2,h3.1,h3.2⟩
set_option maxRecDepth 100000 in
theorem isT_c (t:Ty) (ht:t.Fit) (a b:Int) (tok:Tks) (nt:Nat):DCall Tryz.prog 102 [t.av,I a,I b] tok nt (B (tIs t a b)) tok nt:=by
 intro box nb;have hg:=given_c t ht [a,b] (by simp);have hi:=@givE_isB t a b;obtain ⟨N,hN⟩:∃ N,tIs t a b=N:=⟨_,rfl⟩
 rw [hN];unfold tIs at hN;generalize givE t [a,b]=E at *;refine sI Tryz.func102 Tryz.ntmps102 fun hbox htok=>?_
 repeat (first|simp|refine sR ?_)
 refine ⟨rfl,?_⟩;refine Stop.data ?_;refine Stop.of_d (hg _ _) ?_;by_cases e:E=0
 ·obtain ⟨h1,h2,h3,_⟩:=hi e;rw [if_pos e] at hN;have hc:=is_c t ht a b h2 h3 (tyE_par h1);simp [e];refine Stop.of_d (hc _ _) ?_;repeat (first|simp|refine sR ?_)
  refine sT (sH hbox htok ?_);simp [packA,hN]
 ·rw [if_neg e] at hN;have b:(E==0)=false:=by simp [e]
  simp [b];repeat (first|simp|refine sR ?_)
  refine sT (sH hbox htok ?_);simp [packA,hN]
def stEn (t:Ty) (s:Sd) (node:Int) (nb:Nat) (box:Bxs) (x:Acc):AState :=
 ⟨tl [(20,I x.i),(19,I t.nodes.length),(7,.osl 1 (rI (endsN t s node x.i)) x.own),(4,.ptr (nb+4) 0 0),(3,.ptr (nb+3) 0 0)],lb nb box [(4,[[.d (nts t.nodes),.d (ets t.edges)]]),(3,[[I s.k,B s.o,I s.near,I s.far,I s.low,I s.high]])],x.tok,x.nt⟩
theorem endsP_c (t:Ty) (ht:t.Fit) (s:Sd) (node:Int) (tok:Tks) (nt:Nat):DCall Tryz.prog 103 [s.av,t.av,I node] tok nt (.d (ints (endsR t s node))) tok nt:=by
 intro box nb;have htn:=ht.n;have h1:=isT_c t ht node s.far;refine sI Tryz.func103 Tryz.ntmps103 fun hbox htok=>?_
 repeat (first|simp|refine sR ?_)
 refine Stop.of_d (h1 _ _) ?_;simp;cases e:tIs t node s.far
 ·try (simp)
  repeat (first|(refine sR ?_; simp)|(refine sC ?_; simp)|(refine sX ?_; simp only [AU, ↓reduceIte]))
  refine sN ?_;refine AL.loopT (stEn t s node nb box) (fun x=>x.i≤t.nodes.length∧TK tok nt x.tok x.nt [x.own]) (fun x=>t.nodes.length - x.i) ⟨0,.full,tok,nt⟩ ⟨Nat.zero_le _,(TK.start htok).full⟩ (Weaks.mk (Nat.le_refl _) rfl (by simp [ToL,lk,endsN,e]) (by simp [BoxL,lk])) ?_;rintro ⟨i,own,tok',nt'⟩ S ⟨hi,htk⟩ hS;simp only [stEn] at hS hi htk;subst hS;have hw:=sW (i:=i) (by omega);have hln:=endsN_len t s node i;have hs:=endsN_succ t s node i;by_cases hlt:i<t.nodes.length
  ·have hl:=leafK_c t (by omega) i;have hc:=isT_c t ht i s.far;unfold endB at hs;try (simp [hlt])
   repeat (first|(refine sR ?_; simp [hlt])|(refine sC ?_; simp [hlt])|(refine sX ?_; simp only [AU, ↓reduceIte]))
   refine Stop.of_d (hl _ _) ?_;simp;cases e1:leafB t i
   ·simp only [e1,Bool.false_eq_true,if_false,List.append_nil] at hs;try (simp [hw])
    repeat (first|(refine sR ?_; simp [hw])|(refine sC ?_; simp [hw])|(refine sX ?_; simp only [AU, ↓reduceIte]))
    refine sE ?_;exact ⟨⟨i+1,_,_,_⟩,⟨hlt,htk⟩,by simp only; omega,Weaks.mk htk.le rfl (by simp [ToL,lk,hs]) (by simp [BoxL,lk])⟩
   ·simp only [e1,if_true] at hs;simp;refine Stop.of_d (hc _ _) ?_;simp;cases e2:tIs t i s.far
    ·simp only [e2,Bool.false_eq_true,if_false,List.append_nil] at hs;try (simp [hw])
     repeat (first|(refine sR ?_; simp [hw])|(refine sC ?_; simp [hw])|(refine sX ?_; simp only [AU, ↓reduceIte]))
     refine sE ?_;exact ⟨⟨i+1,_,_,_⟩,⟨hlt,htk⟩,by simp only; omega,Weaks.mk htk.le rfl (by simp [ToL,lk,hs]) (by simp [BoxL,lk])⟩
    ·simp only [e2,if_true] at hs;try (simp)
     repeat (first|(refine sR ?_; simp)|(refine sC ?_; simp)|(refine sX ?_; simp only [AU, ↓reduceIte]))
     refine ⟨⟨by omega,htk.live⟩,?_⟩;try (simp [hw])
     repeat (first|(refine sR ?_; simp [hw])|(refine sC ?_; simp [hw])|(refine sX ?_; simp only [AU, ↓reduceIte]))
     refine sE ?_;exact ⟨⟨i+1,_,_,_⟩,⟨hlt,htk.app⟩,by simp only; omega,Weaks.mk htk.app.le rfl (by simp [ToL,lk,hs]) (by simp [BoxL,lk])⟩
  ·have:i=t.nodes.length:=by omega
   subst this;try (simp)
   repeat (first|(refine sR ?_; simp)|(refine sC ?_; simp)|(refine sX ?_; simp only [AU, ↓reduceIte]))
   refine sN ?_;refine AL.ret ?_;try simp only [AU]
   exact ⟨by simp,Fin.data (av:=.d (ints (endsR t s node))) (by simp [resAs,resA]; rfl) hbox rfl htok htk.old htk.le (by simp [packA,endsR])⟩
 ·try (simp)
  repeat (first|(refine sR ?_; simp)|(refine sC ?_; simp)|(refine sX ?_; simp only [AU, ↓reduceIte]))
  refine sN ?_;refine AL.loopT (stEn t s node nb box) (fun x=>x.i≤t.nodes.length∧TK tok nt x.tok x.nt [x.own]) (fun x=>t.nodes.length - x.i) ⟨0,.tok nt,upd tok nt true,nt+1⟩ ⟨Nat.zero_le _,(TK.start htok).full.app⟩ (Weaks.mk (by simp) rfl (by simp [ToL,lk,endsN,e]) (by simp [BoxL,lk])) ?_;rintro ⟨i,own,tok',nt'⟩ S ⟨hi,htk⟩ hS;simp only [stEn] at hS hi htk;subst hS;have hw:=sW (i:=i) (by omega);have hln:=endsN_len t s node i;have hs:=endsN_succ t s node i;by_cases hlt:i<t.nodes.length
  ·have hl:=leafK_c t (by omega) i;have hc:=isT_c t ht i s.far;unfold endB at hs;try (simp [hlt])
   repeat (first|(refine sR ?_; simp [hlt])|(refine sC ?_; simp [hlt])|(refine sX ?_; simp only [AU, ↓reduceIte]))
   refine Stop.of_d (hl _ _) ?_;simp;cases e1:leafB t i
   ·simp only [e1,Bool.false_eq_true,if_false,List.append_nil] at hs;try (simp [hw])
    repeat (first|(refine sR ?_; simp [hw])|(refine sC ?_; simp [hw])|(refine sX ?_; simp only [AU, ↓reduceIte]))
    refine sE ?_;exact ⟨⟨i+1,_,_,_⟩,⟨hlt,htk⟩,by simp only; omega,Weaks.mk htk.le rfl (by simp [ToL,lk,hs]) (by simp [BoxL,lk])⟩
   ·simp only [e1,if_true] at hs;simp;refine Stop.of_d (hc _ _) ?_;simp;cases e2:tIs t i s.far
    ·simp only [e2,Bool.false_eq_true,if_false,List.append_nil] at hs;try (simp [hw])
     repeat (first|(refine sR ?_; simp [hw])|(refine sC ?_; simp [hw])|(refine sX ?_; simp only [AU, ↓reduceIte]))
     refine sE ?_;exact ⟨⟨i+1,_,_,_⟩,⟨hlt,htk⟩,by simp only; omega,Weaks.mk htk.le rfl (by simp [ToL,lk,hs]) (by simp [BoxL,lk])⟩
    ·simp only [e2,if_true] at hs;try (simp)
     repeat (first|(refine sR ?_; simp)|(refine sC ?_; simp)|(refine sX ?_; simp only [AU, ↓reduceIte]))
     refine ⟨⟨by omega,htk.live⟩,?_⟩;try (simp [hw])
     repeat (first|(refine sR ?_; simp [hw])|(refine sC ?_; simp [hw])|(refine sX ?_; simp only [AU, ↓reduceIte]))
     refine sE ?_;exact ⟨⟨i+1,_,_,_⟩,⟨hlt,htk.app⟩,by simp only; omega,Weaks.mk htk.app.le rfl (by simp [ToL,lk,hs]) (by simp [BoxL,lk])⟩
  ·have:i=t.nodes.length:=by omega
   subst this;try (simp)
   repeat (first|(refine sR ?_; simp)|(refine sC ?_; simp)|(refine sX ?_; simp only [AU, ↓reduceIte]))
   refine sN ?_;refine AL.ret ?_;try simp only [AU]
   exact ⟨by simp,Fin.data (av:=.d (ints (endsR t s node))) (by simp [resAs,resA]; rfl) hbox rfl htok htk.old htk.le (by simp [packA,endsR])⟩
def belK (t:Ty) (a:Int) (i:Nat):List Int:=((List.range i).filter fun (b:Nat)=>isB t (b:Int) a).map fun (b:Nat)=>(b:Int)
theorem belK_zero (t:Ty) (a:Int):belK t a 0=[]:=rfl
theorem belK_succ (t:Ty) (a:Int) (i:Nat):belK t a (i+1)=if isB t i a=true then belK t a i++[(i:Int)] else belK t a i:=by
 unfold belK;rw [List.range_succ,List.filter_append,List.map_append];by_cases h:isB t i a=true <;> simp [h]
theorem belK_len (t:Ty) (a:Int) (i:Nat):(belK t a i).length≤i:=by
 unfold belK;rw [List.length_map];exact Nat.le_trans (List.length_filter_le _ _) (by simp)
theorem upI_child {ps:List Int} {n:Nat} (hp:∀ j,j<n→ps.getD j 0<j):∀ (m:Nat) (b:Int),b<m→b<n→∀ x∈upI ps b,x=b∨∃ j:Nat,j<n∧ps.getD j 0=x
 | 0,b,hm,_,x,hx=>by
  rw [upI_neg (by omega)] at hx;simp at hx
 | m+1,b,hm,hb,x,hx=>by
  by_cases h0:0≤b
  ·have h1:=hp b.toNat (by omega);have h1':ps.getD b.toNat 0<b:=by omega
   rw [upI_up h0 h1'] at hx;rcases List.mem_cons.1 hx with hx|hx
   ·exact .inl hx
   ·rcases upI_child hp m _ (by omega) (by omega) x hx with h|h
    ·exact .inr ⟨b.toNat,by omega,h.symm⟩
    ·exact .inr h
  ·rw [upI_neg (by omega)] at hx;simp at hx
theorem isB_self {t:Ty} {a:Int} (h0:0≤a) (ha:a<t.nodes.length) (hp:∀ j,j<t.nodes.length→(t.nd j).par<j):isB t a a=true:=by
 have h1:=hp a.toNat (by omega);rw [←pars_getD t (by omega)] at h1;unfold isB;rw [upI_up h0 (by omega)];simp
def belR (t:Ty) (a:Int):List Int × Int:=if givE t [a]≠0 then ([],givE t [a]) else (belK t a t.nodes.length,0)
theorem givE_leaf {t:Ty} (h:tyE t=0) {a:Int} (h0:0≤a):givE t [a]=if (t.nodes.length:Int)≤a then 6 else 0:=by
 unfold givE;rw [if_pos h];by_cases h1:(t.nodes.length:Int)≤a
 ·have:¬ a<t.nodes.length:=by omega
  simp [anyB,insB,h1,this]
 ·have:a<t.nodes.length:=by omega
  simp [anyB,insB,h1,this,h0]
def stBw (t:Ty) (a:Int) (nb:Nat) (box:Bxs) (x:Acc):AState :=
 ⟨tl [(19,I x.i),(18,I t.nodes.length),(7,.osl 1 (rI (belK t a x.i)) x.own),(1,I a),(2,.ptr (nb+2) 0 0)],lb nb box [(2,[[.d (nts t.nodes),.d (ets t.edges)]])],x.tok,x.nt⟩
theorem below_c (t:Ty) (ht:t.Fit) (a:Int) (tok:Tks) (nt:Nat):DCall Tryz.prog 304 [t.av,I a] tok nt (.tup [.d (ints (belR t a).1),I (belR t a).2]) tok nt:=by
 intro box nb;have htn:=ht.n;have h1:=given_c t ht [a] (by simp);have hin:=@givE_in t [a];obtain ⟨N,hN⟩:∃ N,belR t a=N:=⟨_,rfl⟩
 rw [hN];unfold belR at hN;generalize givE t [a]=E at *;refine sI Tryz.func304 Tryz.ntmps304 fun hbox htok=>?_
 repeat (first|simp|refine sR ?_)
 refine Stop.data ?_;refine Stop.of_d (h1 _ _) ?_;repeat (first|simp|refine sR ?_)
 by_cases e1:E=0
 ·rw [if_neg (by simp [e1])] at hN;have hp:=tyE_par (hin e1).1;refine sC ?_;simp [e1];repeat (first|simp|refine sR ?_)
  refine sN ?_;refine AL.loopT (stBw t a nb box) (fun x=>x.i≤t.nodes.length∧TK tok nt x.tok x.nt [x.own]) (fun x=>t.nodes.length - x.i) ⟨0,.full,tok,nt⟩ ⟨Nat.zero_le _,(TK.start htok).full⟩ (Weaks.mk (Nat.le_refl _) rfl (by simp [ToL,lk,belK_zero]) (by simp [BoxL,lk])) ?_;rintro ⟨i,own,tok',nt'⟩ S ⟨hi,htk⟩ hS;simp only [stBw] at hS hi htk;subst hS;have hw:=sW (i:=i) (by omega);have hlen:=belK_len t a i;have hsc:=belK_succ t a i;repeat (first|simp|refine sR ?_|refine sC ?_)
  refine ⟨fun hlt=>?_,fun hge=>?_⟩
  ·have hc:=is_c t ht i a (by omega) (by omega) hp;generalize belK t a i=L at *;repeat (first|simp [hlt]|refine sR ?_)
   refine Stop.of_d (hc _ _) ?_;simp;cases e2:isB t i a
   ·rw [e2,if_neg (by simp)] at hsc;repeat (first|simp [hw]|refine sR ?_|refine sC ?_)
    refine sE ?_;exact ⟨⟨i+1,own,tok',nt'⟩,⟨hlt,htk⟩,by simp only; omega,Weaks.mk htk.le rfl (by simp [ToL,lk,hsc]) (by simp [BoxL,lk])⟩
   ·rw [e2,if_pos rfl] at hsc;repeat (first|simp|refine sR ?_)
    refine sC ?_;repeat (first|simp|refine sR ?_)
    refine ⟨⟨by omega,htk.live⟩,?_⟩;repeat (first|simp [hw]|refine sR ?_)
    refine sE ?_;exact ⟨⟨i+1,_,_,_⟩,⟨hlt,htk.app⟩,by simp only; omega,Weaks.mk htk.app.le rfl (by simp [ToL,lk,hsc]) (by simp [BoxL,lk])⟩
  ·refine sX ?_;simp only [AU, ↓reduceIte];have:i=t.nodes.length:=by omega
   subst this;repeat (first|simp|refine sR ?_)
   refine sT (sG hbox htok htk.old htk.le ?_);simp [packA,←hN]
 ·rw [if_pos e1] at hN;have b1:(E != 0)=true:=by simp [e1]
  refine sC ?_;simp [b1];repeat (first|simp|refine sR ?_)
  refine sT (sH hbox htok ?_);simp [packA,←hN,ints]
def exT:Ty:=⟨[⟨⟨#[65,99,99,111,117,110,116]⟩, -1,true,[⟨⟨#[98,97,108,97,110,99,101]⟩, -1000,1000,[]⟩]⟩,⟨⟨#[67,97,115,104]⟩,0,false,[]⟩,⟨⟨#[76,111,97,110]⟩,0,false,[⟨⟨#[115,116,97,116,101]⟩,0,1,[⟨#[111,112,101,110]⟩,⟨#[99,108,111,115,101,100]⟩]⟩]⟩,⟨⟨#[80,101,114,115,111,110]⟩, -1,false,[]⟩],
 [⟨⟨#[111,119,110,115]⟩,3,0,0, -1,1,1⟩,⟨⟨#[112,97,121,115]⟩,1,1,0, -1,0, -1⟩]⟩
theorem exT_fit:exT.Fit:=⟨by decide,by decide,by decide,by decide,by simp [exT]; exact ⟨⟨by decide,by decide,by decide⟩,⟨by decide,by decide,by decide⟩⟩⟩
theorem dss_nil:DSs [] []:=⟨rfl,fun i h=>by simp at h⟩
theorem dss_cons {x y:List D} {xs ys:List (List D)}:DSs (x::xs) (y::ys)↔DS1 x y∧DSs xs ys:=by
 constructor
 ·rintro ⟨h1,h2⟩;exact ⟨h2 0 (by simp) (by simp),by simpa using h1,fun j g1 g2=>h2 (j+1) (by simpa using g1) (by simpa using g2)⟩
 ·rintro ⟨h1,h2,h3⟩;refine ⟨by simp [h2],fun j g1 g2=>?_⟩
  match j with
  | 0=>exact h1
  | j+1=>exact h3 j (by simpa using g1) (by simpa using g2)
theorem dsub_all {sz:Nat} {es es':List (List D)} (h:DSs es es'):DSub (.sl sz es) (.sl sz es'):=h.sub sz
theorem to_dss {p q:Nat→Prop} {fz:Option (Nat × Nat × List (List D))} {sz:Nat} {es es':List (List D)} {o:Own} (h:DSs es es'):To p q fz (.osl sz es o) (.d (.sl sz es')):=.odsub (h.sub sz)
set_option maxRecDepth 100000 in
theorem example04_c (tok:Tks) (nt:Nat):DCall Tryz.prog 57 [] tok nt exT.av tok nt:=by
 intro box nb;refine sI Tryz.func57 Tryz.ntmps57 fun hbox htok=>?_
 repeat (first|simp|refine sR ?_)
 try refine ⟨rfl,?_⟩
 repeat (first|simp|refine sR ?_)
 try refine ⟨rfl,?_⟩
 repeat (first|simp|refine sR ?_)
 try refine ⟨rfl,?_⟩
 repeat (first|simp|refine sR ?_)
 try refine ⟨rfl,?_⟩
 repeat (first|simp|refine sR ?_)
 refine sT (sH hbox htok ?_);simp [packA,exT,nts,ets,atts,strs];exact to_dss (by simp [dss_cons,dss_nil,dsub_all,atts,strs])
def lstX (s:Sd) (node n:Int):Xt:=if n = -1 then ⟨⟨[0],[]⟩,⟨[node],[s.link 0]⟩⟩ else ⟨⟨[0],[]⟩,⟨[node,n],[s.link 1]⟩⟩
def lstC (s:Sd) (node:Int) (ends:List Int):Co:=⟨⟨#[]⟩,if ends=[] then 1 else 2,⟨[node],[]⟩,ends.map (lstX s node)⟩
def lsR (s:Sd) (node:Int) (l:List Int):List (List D):=l.map fun n=>(lstX s node n).cells
theorem lsR_len (s:Sd) (node:Int) (l:List Int):(lsR s node l).length=l.length:=by simp [lsR]
def stLs (s:Sd) (node:Int) (ends:List Int) (nb:Nat) (box:Bxs) (x:Acc):AState :=
 ⟨tl [(24,I x.i),(23,I ends.length),(22,.d (ints ends)),(1,I node),(3,.ptr (nb+3) 0 0),(6,.ptr (nb+6) 0 0),(8,.ptr (nb+8) 0 0)],
  lb nb box [(3,[[I s.k,B s.o,I s.near,I s.far,I s.low,I s.high]]),(6,[[.bot,.bot,.bot,.bot,.bot]]),(8,[[Sb ⟨#[]⟩,I 2,.d (ints [node]),.d (AM.edges []),.osl 4 (lsR s node (ends.take x.i)) x.own]])],x.tok,x.nt⟩
theorem leastP_c (s:Sd) (node:Int) (ends:List Int) (hn:ends.length≤100000) (tok:Tks) (nt:Nat):DCall Tryz.prog 104 [s.av,I node,.d (ints ends)] tok nt (lstC s node ends).av tok nt:=by
 intro box nb;have hl0:=linkP_c s 0;have hl1:=linkP_c s 1;refine sI Tryz.func104 Tryz.ntmps104 fun hbox htok=>?_
 repeat (first|simp|refine sR ?_)
 by_cases he:ends=[]
 ·subst he;try (simp)
  repeat (first|(refine sR ?_; simp)|(refine sC ?_; simp)|(refine sX ?_; simp only [AU, ↓reduceIte]))
  refine sT (sH hbox htok ?_);simp [packA,lstC,ints,AM.edges,xts]
 ·have hlen:ends.length≠0:=fun h=>he (List.length_eq_zero_iff.1 h)
  have b:((ends.length:Int)==0)=false:=by simp [he]
  try (simp [b])
  repeat (first|(refine sR ?_; simp [b])|(refine sC ?_; simp [b])|(refine sX ?_; simp only [AU, ↓reduceIte]))
  refine sN ?_;refine AL.loopT (stLs s node ends nb box) (fun x=>x.i≤ends.length∧TK tok nt x.tok x.nt [x.own]) (fun x=>ends.length - x.i) ⟨0,.full,tok,nt⟩ ⟨Nat.zero_le _,(TK.start htok).full⟩ (Weaks.mk (Nat.le_refl _) rfl (by simp [ToL,lk]) (by simp [BoxL,lk,ints,AM.edges,lsR])) ?_;rintro ⟨i,own,tok',nt'⟩ S ⟨hi,htk⟩ hS;simp only [stLs] at hS hi htk;subst hS;have hw:=sW (i:=i) (by omega);by_cases hlt:i<ends.length
  ·have hs:lsR s node (ends.take (i+1))=lsR s node (ends.take i)++[(lstX s node ends[i]).cells]:=by unfold lsR; rw [List.take_succ_eq_append_getElem hlt,List.map_append]; rfl
   have hln:=lsR_len s node (ends.take i);rw [List.length_take] at hln;try (simp [hlt])
   repeat (first|(refine sR ?_; simp [hlt])|(refine sC ?_; simp [hlt])|(refine sX ?_; simp only [AU, ↓reduceIte]))
   refine Stop.of_d (hl0 _ _) ?_;repeat (first|simp|refine sR ?_)
   by_cases h1:ends[i] = -1
   ·have b1:(ends[i] != -1)=false:=by simp [h1]
    rw [lstX,if_pos h1] at hs;try (simp [b1])
    repeat (first|(refine sR ?_; simp [b1])|(refine sC ?_; simp [b1])|(refine sX ?_; simp only [AU, ↓reduceIte]))
    refine ⟨⟨by omega,htk.live⟩,?_⟩;try (simp [hw])
    repeat (first|(refine sR ?_; simp [hw])|(refine sC ?_; simp [hw])|(refine sX ?_; simp only [AU, ↓reduceIte]))
    refine sE ?_;refine ⟨⟨i+1,_,_,_⟩,⟨hlt,htk.app⟩,by simp only; omega,Weaks.mk htk.app.le rfl (by simp [ToL,lk]) ?_⟩;simp [BoxL,lk,ints,AM.edges,hs];refine to_snoc ?_ _;simp [dsub_one,ints,AM.edges]
   ·have b1:(ends[i] != -1)=true:=by simp [h1]
    rw [lstX,if_neg h1] at hs;try (simp [b1])
    repeat (first|(refine sR ?_; simp [b1])|(refine sC ?_; simp [b1])|(refine sX ?_; simp only [AU, ↓reduceIte]))
    refine ⟨rfl,?_⟩;refine Stop.of_d (hl1 _ _) ?_;simp;try (simp)
    repeat (first|(refine sR ?_; simp)|(refine sC ?_; simp)|(refine sX ?_; simp only [AU, ↓reduceIte]))
    refine ⟨⟨by omega,htk.live⟩,?_⟩;try (simp [hw])
    repeat (first|(refine sR ?_; simp [hw])|(refine sC ?_; simp [hw])|(refine sX ?_; simp only [AU, ↓reduceIte]))
    refine sE ?_;refine ⟨⟨i+1,_,_,_⟩,⟨hlt,htk.app⟩,by simp only; omega,Weaks.mk htk.app.le rfl (by simp [ToL,lk]) ?_⟩;simp [BoxL,lk,ints,AM.edges,hs];refine to_snoc ?_ _;simp [dsub_one,ints,AM.edges]
  ·have:i=ends.length:=by omega
   subst this;rw [List.take_length];try (simp)
   repeat (first|(refine sR ?_; simp)|(refine sC ?_; simp)|(refine sX ?_; simp only [AU, ↓reduceIte]))
   refine sN ?_;refine AL.ret ?_;try simp only [AU]
   exact ⟨by simp,Fin.data (av:=(lstC s node ends).av) (by simp [resAs,resA]; rfl) hbox rfl htok htk.old htk.le (by simp [packA,lstC,he,ints,AM.edges,xts,lsR]; exact .data)⟩
def chB (l:List Int) (n:Int):Bool:=if n = -1 then !decide ((-1:Int)∈l) else true
def chL (ends l:List Int):List (List Int):=(ends.filter (chB l)).map fun n=>l++[n]
def choR (ends:List Int):Nat→List (List Int)
 | 0=>[[]]
 | k+1=>(choR ends k).flatMap (chL ends)
theorem chL_len (ends l:List Int):(chL ends l).length≤ends.length:=by
 unfold chL;rw [List.length_map];exact List.length_filter_le _ _
theorem choR_len (ends:List Int):∀ n,(choR ends n).length≤ends.length ^ n
 | 0=>by simp [choR]
 | n+1=>by
  unfold choR;rw [List.length_flatMap,Nat.pow_succ];have h:∀ L:List (List Int),(L.map fun a=>(chL ends a).length).sum≤L.length * ends.length:=by
   intro L;induction L with
   | nil=>simp
   | cons x L ih =>
    simp only [List.map_cons,List.sum_cons,List.length_cons,Nat.succ_mul];have:=chL_len ends x
    omega
  exact Nat.le_trans (h _) (Nat.mul_le_mul_right _ (choR_len ends n))
theorem choR_len3 {ends:List Int} {n:Nat} (he:ends.length≤100) (h3:n≤3):(choR ends n).length≤1000000 :=
 Nat.le_trans (choR_len ends n) (Nat.le_trans (Nat.pow_le_pow_left he n) (Nat.le_trans (Nat.pow_le_pow_right (by decide) h3) (by decide)))
theorem choR_mem {ends:List Int}:∀ {n:Nat} {l:List Int},l∈choR ends n→l.length=n
 | 0,l,h=>by simp [choR] at h; simp [h]
 | n+1,l,h=>by
  unfold choR chL at h;simp only [List.mem_flatMap,List.mem_map] at h;obtain ⟨a,ha,x,_,rfl⟩:=h;simp [choR_mem ha]
def chK (ends:List Int) (L:List (List Int)) (i j:Nat):List (List Int):=(L.take i).flatMap (chL ends)++chL (ends.take j) (L.getD i [])
theorem chL_zero (l:List Int):chL [] l=[]:=rfl
theorem chK_succ {ends:List Int} {L:List (List Int)} {i j:Nat} (hi:i<L.length) (hj:j<ends.length):chK ends L i (j+1)=chK ends L i j++(if chB L[i] ends[j]=true then [L[i]++[ends[j]]] else []):=by
 have hg:L.getD i []=L[i]:=by simp [hi]
 unfold chK;rw [hg,List.append_assoc];congr 1
 unfold chL;rw [List.take_succ_eq_append_getElem hj,List.filter_append,List.map_append];congr 1
 by_cases h:chB L[i] ends[j]=true <;> simp [h]
theorem chK_next {ends:List Int} {L:List (List Int)} {i:Nat} (hi:i<L.length):chK ends L i ends.length=chK ends L (i+1) 0:=by
 have hg:L.getD i []=L[i]:=by simp [hi]
 unfold chK;rw [hg,List.take_length,List.take_zero,chL_zero,List.append_nil,List.take_succ_eq_append_getElem hi,List.flatMap_append];simp
theorem chK_end (ends:List Int) (L:List (List Int)):chK ends L L.length 0=L.flatMap (chL ends):=by
 unfold chK;rw [List.take_length,List.take_zero,chL_zero,List.append_nil]
theorem flat_chL (ends:List Int):∀ L:List (List Int),(L.flatMap (chL ends)).length≤L.length * ends.length
 | []=>by simp
 | l::L=>by
  rw [List.flatMap_cons,List.length_append,List.length_cons,Nat.succ_mul];have h1:=chL_len ends l;have h2:=flat_chL ends L;omega
theorem chK_len {ends:List Int} {m:Nat} (he:ends.length≤100) (hm:m≤2) {i j:Nat} (hi:i<(choR ends m).length):(chK ends (choR ends m) i j).length≤1000000:=by
 have h1:(choR ends m).length≤10000:=Nat.le_trans (choR_len ends m) (Nat.le_trans (Nat.pow_le_pow_left he m) (Nat.le_trans (Nat.pow_le_pow_right (by decide) hm) (by decide)))
 have h2:=flat_chL ends ((choR ends m).take i);have h3:=chL_len (ends.take j) ((choR ends m).getD i []);rw [List.length_take] at h2 h3;have h4:min i (choR ends m).length * ends.length≤9999 * 100:=Nat.mul_le_mul (by omega) he
 unfold chK;rw [List.length_append];omega
def muC1 (ends:List Int) (n:Nat) (nb:Nat) (box:Bxs) (x:Acc):AState :=
 ⟨tl [(13,I x.i),(12,I n),(5,.osl 1 (rL (choR ends x.i)) x.own),(0,.d (ints ends)),(1,I n)],lb nb box [],x.tok,x.nt⟩
def muC2 (ends:List Int) (n:Nat) (nb:Nat) (box:Bxs) (m:Nat) (x:Acc):AState :=
 ⟨tl [(17,I x.i),(16,I (choR ends m).length),(15,.d (lists (choR ends m))),(6,.osl 1 (rL (chK ends (choR ends m) x.i 0)) x.own),(13,I m),(12,I n),(0,.d (ints ends)),(1,I n)],lb nb box [],x.tok,x.nt⟩
def muC3 (ends:List Int) (n:Nat) (nb:Nat) (box:Bxs) (m i:Nat) (x:Acc):AState :=
 ⟨tl [(23,I x.i),(22,I ends.length),(21,.d (ints ends)),(8,.d (ints ((choR ends m).getD i []))),(17,I i),(16,I (choR ends m).length),(15,.d (lists (choR ends m))),(6,.osl 1 (rL (chK ends (choR ends m) i x.i)) x.own),(13,I m),(12,I n),(0,.d (ints ends)),(1,I n)],lb nb box [],x.tok,x.nt⟩
theorem choicesP_c (ends:List Int) (n:Nat) (hn:ends.length≤100) (h3:n≤3) (tok:Tks) (nt:Nat):DCall Tryz.prog 176 [.d (ints ends),I n] tok nt (.d (lists (choR ends n))) tok nt:=by
 intro box nb;refine sI Tryz.func176 Tryz.ntmps176 fun hbox htok=>?_
 repeat (first|simp|refine sR ?_)
 refine sN ?_;refine AL.loopT (muC1 ends n nb box) (fun x=>x.i≤n∧TK tok nt x.tok x.nt [x.own]) (fun x=>n - x.i) ⟨0,.full,tok,nt⟩ ⟨Nat.zero_le _,(TK.start htok).full⟩ (Weaks.mk (Nat.le_refl _) rfl (by simp [ToL,lk]; exact to_emp2 0 1) (by simp [BoxL,lk])) ?_;rintro ⟨m,own,tok',nt'⟩ S ⟨hi,htk⟩ hS;simp only [muC1] at hS hi htk;subst hS;have hw:=sW (i:=m) (by omega);by_cases hlt:m<n
 ·have hL:=choR_len3 hn (show m≤3 by omega);have hlm:=@choR_mem ends m;have hkl:=fun i j hi=>@chK_len ends m hn (by omega) i j hi
  have hend:=chK_end ends (choR ends m);have hnx:choR ends (m+1)=(choR ends m).flatMap (chL ends):=rfl
  try (simp [hlt])
  repeat (first|(refine sR ?_; simp [hlt])|(refine sC ?_; simp [hlt])|(refine sX ?_; simp only [AU, ↓reduceIte]))
  refine sN ?_;refine AL.loopT (muC2 ends n nb box m) (fun x=>x.i≤(choR ends m).length∧TK tok nt x.tok x.nt [x.own]) (fun x=>(choR ends m).length - x.i) ⟨0,.full,tok',nt'⟩ ⟨Nat.zero_le _,htk.tail.full⟩ (Weaks.mk htk.le rfl (by simp [ToL,lk,chK,chL_zero]) (by simp [BoxL,lk])) ?_;rintro ⟨i,own2,tok2,nt2⟩ S ⟨hi2,htk2⟩ hS;simp only [muC2] at hS hi2 htk2;subst hS;have hw2:=sW (i:=i) (by omega);by_cases hli:i<(choR ends m).length
  ·have hg:(choR ends m).getD i []=(choR ends m)[i]:=by simp [hli]
   have hlen:=hlm (List.getElem_mem hli);have hnext:=chK_next (ends:=ends) hli;have hsc:=fun j hj=>chK_succ (ends:=ends) (j:=j) hli hj
   have hkl:=fun j=>hkl i j hli
   have hc1:=contains_c (choR ends m)[i] (-1) (by omega);have hc2:=clone_c (choR ends m)[i] (by omega);try (simp [hli])
   repeat (first|(refine sR ?_; simp [hli])|(refine sC ?_; simp [hli])|(refine sX ?_; simp only [AU, ↓reduceIte]))
   refine sN ?_;refine AL.loopT (muC3 ends n nb box m i) (fun x=>x.i≤ends.length∧TK tok nt x.tok x.nt [x.own]) (fun x=>ends.length - x.i) ⟨0,own2,tok2,nt2⟩ ⟨Nat.zero_le _,htk2⟩ (Weaks.mk htk2.le rfl (by simp [ToL,lk,hli]) (by simp [BoxL,lk])) ?_;rintro ⟨j,own3,tok3,nt3⟩ S ⟨hi3,htk3⟩ hS;simp only [muC3] at hS hi3 htk3;subst hS;rw [hg];have hw3:=sW (i:=j) (by omega);by_cases hlj:j<ends.length
   ·have hs:=hsc j hlj;have hk:=hkl j;unfold chB at hs;by_cases h1:ends[j] = -1
    ·have b1:(ends[j] != -1)=false:=by simp [h1]
     rw [if_pos h1] at hs;try (simp [hlj,b1])
     repeat (first|(refine sR ?_; simp [hlj,b1])|(refine sC ?_; simp [hlj,b1])|(refine sX ?_; simp only [AU, ↓reduceIte]))
     refine Stop.of_d (hc1 _ _) ?_;simp;cases e:decide ((-1:Int)∈(choR ends m)[i])
     ·rw [e,if_pos (by rfl)] at hs;try (simp)
      repeat (first|(refine sR ?_; simp)|(refine sC ?_; simp)|(refine sX ?_; simp only [AU, ↓reduceIte]))
      refine Stop.of_d (hc2 _ _) ?_;simp;have a1:=htk3.more 0;have hs2:rL (chK ends (choR ends m) i (j+1))=rL (chK ends (choR ends m) i j)++[[D.sl 1 (rI (choR ends m)[i]++[[D.raw (.int .i64 ends[j])]])]]:=by rw [hs]; simp [ints]
      have a2:=a1.app;have a3:=a2.swap.app;refine ⟨⟨by omega,by simp [upd_same]⟩,⟨by omega,a2.swap.live⟩,?_⟩;try (simp [hw3])
      repeat (first|(refine sR ?_; simp [hw3])|(refine sC ?_; simp [hw3])|(refine sX ?_; simp only [AU, ↓reduceIte]))
      refine sE ?_;exact ⟨⟨j+1,_,_,_⟩,⟨hlj,a3.swap.tail⟩,by simp only; omega,Weaks.mk a3.le rfl (by simp only [muC3,hs2,hg]; simp [ToL,lk]) (by simp [BoxL,lk])⟩
     ·rw [e,if_neg (by simp),List.append_nil] at hs;try (simp [hw3])
      repeat (first|(refine sR ?_; simp [hw3])|(refine sC ?_; simp [hw3])|(refine sX ?_; simp only [AU, ↓reduceIte]))
      refine sE ?_;exact ⟨⟨j+1,_,_,_⟩,⟨hlj,htk3⟩,by simp only; omega,Weaks.mk htk3.le rfl (by simp [ToL,lk,hs,hg,hli]) (by simp [BoxL,lk])⟩
    ·have b1:(ends[j] != -1)=true:=by simp [h1]
     rw [if_neg h1,if_pos rfl] at hs;try (simp [hlj,b1])
     repeat (first|(refine sR ?_; simp [hlj,b1])|(refine sC ?_; simp [hlj,b1])|(refine sX ?_; simp only [AU, ↓reduceIte]))
     refine Stop.of_d (hc2 _ _) ?_;simp;have a1:=htk3.more 0;have hs2:rL (chK ends (choR ends m) i (j+1))=rL (chK ends (choR ends m) i j)++[[D.sl 1 (rI (choR ends m)[i]++[[D.raw (.int .i64 ends[j])]])]]:=by rw [hs]; simp [ints]
     have a2:=a1.app;have a3:=a2.swap.app;refine ⟨⟨by omega,by simp [upd_same]⟩,⟨by omega,a2.swap.live⟩,?_⟩;try (simp [hw3])
     repeat (first|(refine sR ?_; simp [hw3])|(refine sC ?_; simp [hw3])|(refine sX ?_; simp only [AU, ↓reduceIte]))
     refine sE ?_;exact ⟨⟨j+1,_,_,_⟩,⟨hlj,a3.swap.tail⟩,by simp only; omega,Weaks.mk a3.le rfl (by simp only [muC3,hs2,hg]; simp [ToL,lk]) (by simp [BoxL,lk])⟩
   ·have:j=ends.length:=by omega
    subst this;rw [hnext];try (simp [hw2])
    repeat (first|(refine sR ?_; simp [hw2])|(refine sC ?_; simp [hw2])|(refine sX ?_; simp only [AU, ↓reduceIte]))
    refine sE ?_;exact ⟨⟨i+1,_,_,_⟩,⟨hli,htk3⟩,by simp only; omega,Weaks.mk htk3.le rfl (by simp [ToL,lk]) (by simp [BoxL,lk])⟩
  ·have:i=(choR ends m).length:=by omega
   subst this;rw [hend,←hnx];try (simp [hw])
   repeat (first|(refine sR ?_; simp [hw])|(refine sC ?_; simp [hw])|(refine sX ?_; simp only [AU, ↓reduceIte]))
   refine sE ?_;exact ⟨⟨m+1,_,_,_⟩,⟨hlt,htk2⟩,by simp only; omega,Weaks.mk htk2.le rfl (by simp [ToL,lk]) (by simp [BoxL,lk])⟩
 ·have:m=n:=by omega
  subst this;try (simp)
  repeat (first|(refine sR ?_; simp)|(refine sC ?_; simp)|(refine sX ?_; simp only [AU, ↓reduceIte]))
  refine sN ?_;refine AL.ret ?_;try simp only [AU]
  exact ⟨by simp,Fin.data (av:=.d (lists (choR ends m))) (by simp [resAs,resA]; rfl) hbox rfl htok htk.old htk.le (by simp [packA])⟩
abbrev Co.cells (c:Co):List D:=[.raw (.string c.name),.raw (.int .i64 c.kind),ints c.g.nodes,AM.edges c.g.edges,xts c.exts]
abbrev rCo (l:List Co):List (List D):=l.map Co.cells
def cntO (c:List Int):Nat:=(c.filter (· != -1)).length
def gAtL (c:List Int):List Int:=(List.range c.length).map fun i=>if c.getD i 0 = -1 then 0 else (1:Int)+cntO (c.take i)
def greG (s:Sd) (node:Int) (cls c:List Int):Gr:=⟨node::c.filter (· != -1),cls.map fun k=>s.link ((gAtL c).getD k.toNat 0)⟩
def greC (s:Sd) (node:Int) (cls c:List Int):Co:=⟨⟨#[]⟩,1,greG s node cls c,[]⟩
def greP (s:Sd) (node:Int) (ends p:List Int):List Co:=(choR ends (numN p p.length).2.toNat).map (greC s node (numN p p.length).1)
def greL (s:Sd) (node:Int) (ends:List Int):List Co:=(partsN (s.high.toNat+1)).flatMap (greP s node ends)
def grK (s:Sd) (node:Int) (ends:List Int) (P:List (List Int)) (i:Nat) (cls:List Int) (L:List (List Int)) (k:Nat):List Co:=(P.take i).flatMap (greP s node ends)++(L.take k).map (greC s node cls)
theorem grK_zero (s:Sd) (node:Int) (ends:List Int) (P:List (List Int)) (i:Nat) (cls:List Int) (L:List (List Int)):grK s node ends P i cls L 0=grK s node ends P i [] [] 0:=by simp [grK]
theorem grK_succ {s:Sd} {node:Int} {ends:List Int} {P:List (List Int)} {i:Nat} {cls:List Int} {L:List (List Int)} {k:Nat} (h:k<L.length):grK s node ends P i cls L (k+1)=grK s node ends P i cls L k++[greC s node cls L[k]]:=by
 unfold grK;rw [List.take_succ_eq_append_getElem h,List.map_append,List.append_assoc];rfl
theorem grK_next {s:Sd} {node:Int} {ends:List Int} {P:List (List Int)} {i:Nat} (h:i<P.length):grK s node ends P i (numN P[i] P[i].length).1 (choR ends (numN P[i] P[i].length).2.toNat) (choR ends (numN P[i] P[i].length).2.toNat).length=grK s node ends P (i+1) [] [] 0:=by
 unfold grK;rw [List.take_length,List.take_succ_eq_append_getElem h,List.flatMap_append];simp [greP]
def stG1 (s:Sd) (node:Int) (ends:List Int) (P:List (List Int)) (nb:Nat) (box:Bxs) (x:Acc):AState :=
 ⟨tl [(36,I x.i),(35,I P.length),(34,.d (lists P)),(10,.osl 5 (rCo (grK s node ends P x.i [] [] 0)) x.own),(1,I node),(2,.d (ints ends)),(3,.ptr (nb+3) 0 0)],lb nb box [(3,[[I s.k,B s.o,I s.near,I s.far,I s.low,I s.high]])],x.tok,x.nt⟩
def stG2 (s:Sd) (node:Int) (ends:List Int) (P:List (List Int)) (i:Nat) (cls:List Int) (n:Nat) (nb:Nat) (box:Bxs) (x:Acc):AState :=
 ⟨tl [(53,I x.i),(52,I (choR ends n).length),(51,.d (lists (choR ends n))),(13,.d (ints cls)),(14,I n),(36,I i),(35,I P.length),(34,.d (lists P)),(10,.osl 5 (rCo (grK s node ends P i cls (choR ends n) x.i)) x.own),(1,I node),(2,.d (ints ends)),(3,.ptr (nb+3) 0 0)],lb nb box [(3,[[I s.k,B s.o,I s.near,I s.far,I s.low,I s.high]])],x.tok,x.nt⟩
def atL (c:List Int) (j:Nat):List Int:=(List.range c.length).map fun i=>if i<j then (if c.getD i 0 = -1 then 0 else (1:Int)+cntO (c.take i)) else 0
theorem atL_len (c:List Int) (j:Nat):(atL c j).length=c.length:=by simp [atL]
theorem atL_zero (c:List Int):List.replicate c.length 0=atL c 0:=by
 refine List.ext_getElem (by simp [atL]) fun i h1 h2=>?_
 simp [atL]
theorem atL_end (c:List Int):atL c c.length=gAtL c:=by
 refine List.ext_getElem (by simp [atL,gAtL]) fun i h1 h2=>?_
 have hi:i<c.length:=by simpa [atL] using h1
 simp [atL,gAtL,hi]
theorem atL_set {c:List Int} {j:Nat} (h:j<c.length) (h1:c[j] ≠ -1):(atL c j).set j ((1:Int)+cntO (c.take j))=atL c (j+1):=by
 refine List.ext_getElem (by simp [atL]) fun i a b=>?_
 rw [List.getElem_set];have hi:i<c.length:=by simpa [atL] using a
 simp only [atL,List.getElem_map,List.getElem_range];by_cases e:j=i
 ·subst e;rw [if_pos rfl,if_pos (Nat.lt_succ_self _),if_neg (by simpa [hi] using h1)]
 ·rw [if_neg e];by_cases h2:i<j
  ·rw [if_pos h2,if_pos (show i<j+1 by omega)]
  ·rw [if_neg h2,if_neg (show ¬ i<j+1 by omega)]
theorem atL_skip {c:List Int} {j:Nat} (h:j<c.length) (h1:c[j] = -1):atL c j=atL c (j+1):=by
 refine List.ext_getElem (by simp [atL]) fun i a b=>?_
 have hi:i<c.length:=by simpa [atL] using a
 simp only [atL,List.getElem_map,List.getElem_range];by_cases e:j=i
 ·subst e;rw [if_neg (by omega),if_pos (Nat.lt_succ_self _),if_pos (by simpa [hi] using h1)]
 ·by_cases h2:i<j
  ·rw [if_pos h2,if_pos (show i<j+1 by omega)]
  ·rw [if_neg h2,if_neg (show ¬ i<j+1 by omega)]
def ndL (node:Int) (c:List Int) (j:Nat):List Int:=node::(c.take j).filter (· != -1)
theorem ndL_len (node:Int) (c:List Int) (j:Nat):(ndL node c j).length=1+cntO (c.take j):=by simp [ndL,cntO]; omega
theorem cntO_le (c:List Int):cntO c≤c.length:=List.length_filter_le _ _
theorem ndL_skip {node:Int} {c:List Int} {j:Nat} (h:j<c.length) (h1:c[j] = -1):ndL node c (j+1)=ndL node c j:=by
 unfold ndL;rw [List.take_succ_eq_append_getElem h,List.filter_append];simp [h1]
theorem ndL_succ {node:Int} {c:List Int} {j:Nat} (h:j<c.length) (h1:c[j] ≠ -1):ndL node c (j+1)=ndL node c j++[c[j]]:=by
 unfold ndL;rw [List.take_succ_eq_append_getElem h,List.filter_append];simp [h1]
def stG3 (s:Sd) (node:Int) (ends:List Int) (P:List (List Int)) (i:Nat) (cls:List Int) (n k:Nat) (c:List Int) (own:Own) (nb:Nat) (box:Bxs) (x:Acc):AState :=
 ⟨tl [(64,I x.i),(63,I c.length),(62,.d (ints c)),(19,.msl (nb+61) 0 n 1),(18,.ptr (nb+18) 0 0),(53,I k),(52,I (choR ends n).length),(51,.d (lists (choR ends n))),(13,.d (ints cls)),(14,I n),(36,I i),(35,I P.length),(34,.d (lists P)),(10,.osl 5 (rCo (grK s node ends P i cls (choR ends n) k)) own),(1,I node),(2,.d (ints ends)),(3,.ptr (nb+3) 0 0)],
  lb nb box [(61,rowsI (atL c x.i)),(18,[[.osl 1 (rI (ndL node c x.i)) x.own,.osl 3 [] .full]]),(3,[[I s.k,B s.o,I s.near,I s.far,I s.low,I s.high]])],x.tok,x.nt⟩
def lkL (s:Sd) (c cls:List Int) (q:Nat):List E:=(cls.take q).map fun k=>s.link ((gAtL c).getD k.toNat 0)
theorem lkL_succ {s:Sd} {c cls:List Int} {q:Nat} (h:q<cls.length):lkL s c cls (q+1)=lkL s c cls q++[s.link ((gAtL c).getD cls[q].toNat 0)]:=by
 unfold lkL;rw [List.take_succ_eq_append_getElem h,List.map_append];rfl
theorem lkL_len (s:Sd) (c cls:List Int) (q:Nat):(lkL s c cls q).length≤q:=by unfold lkL; rw [List.length_map,List.length_take]; omega
def stG4 (s:Sd) (node:Int) (ends:List Int) (P:List (List Int)) (i:Nat) (cls:List Int) (n k:Nat) (c:List Int) (own:Own) (nb:Nat) (box:Bxs) (x:Acc):AState :=
 ⟨tl [(86,I x.i),(85,I cls.length),(84,.d (ints cls)),(19,.msl (nb+61) 0 n 1),(18,.ptr (nb+18) 0 0),(53,I k),(52,I (choR ends n).length),(51,.d (lists (choR ends n))),(13,.d (ints cls)),(14,I n),(36,I i),(35,I P.length),(34,.d (lists P)),(10,.osl 5 (rCo (grK s node ends P i cls (choR ends n) k)) own),(1,I node),(2,.d (ints ends)),(3,.ptr (nb+3) 0 0)],
  lb nb box [(61,rowsI (gAtL c)),(18,[[.d (ints (ndL node c c.length)),.osl 3 (rE (lkL s c cls x.i)) x.own]]),(3,[[I s.k,B s.o,I s.near,I s.far,I s.low,I s.high]])],x.tok,x.nt⟩
theorem flat_leM {α β:Type} (f:α→List β) (B:Nat):∀ L:List α,(∀ x∈L,(f x).length≤B)→(L.flatMap f).length≤L.length * B
 | [],_=>by simp
 | x::L,h=>by
  rw [List.flatMap_cons,List.length_append,List.length_cons,Nat.succ_mul];have h1:=h x (by simp);have h2:=flat_leM f B L fun y hy=>h y (by simp [hy])
  omega
theorem grK_len {s:Sd} {node:Int} {ends:List Int} {P:List (List Int)} {i k:Nat} {cls:List Int} {L:List (List Int)} (hn:ends.length≤100) (hP:P.length≤5) (hl:∀ p∈P,p.length≤3) (hL:L.length≤1000000):(grK s node ends P i cls L k).length≤6000000:=by
 unfold grK;rw [List.length_append,List.length_map,List.length_take];have h1:=flat_leM (greP s node ends) 1000000 (P.take i) fun p hp=>by
  have hp:=hl p (List.mem_of_mem_take hp);unfold greP;rw [List.length_map];obtain ⟨q1,q2,q3⟩:=numN_len p p.length;exact choR_len3 hn (by omega)
 rw [List.length_take] at h1;have h2:min i P.length * 1000000≤5 * 1000000:=Nat.mul_le_mul_right _ (by omega)
 omega
theorem greatestP_c (s:Sd) (node:Int) (ends:List Int) (hn:ends.length≤100) (h0:0≤s.high) (h2:s.high≤2) (tok:Tks) (nt:Nat):DCall Tryz.prog 105 [s.av,I node,.d (ints ends)] tok nt (.tup [.d (.sl 5 (rCo (greL s node ends))),I 0]) tok nt:=by
 intro box nb;obtain ⟨h,hh⟩:=Int.eq_ofNat_of_zero_le h0;have hpa:=all45_c (h+1) (by omega);have hw1:IntKind.i64.wrap (s.high+1)=((h+1:Nat):Int):=by rw [hh,wrap_in (by omega) (by omega)]; rfl
 have hR:greL s node ends=(partsN (h+1)).flatMap (greP s node ends):=by unfold greL; rw [hh]; rfl
 have hPl:(partsN (h+1)).length≤5:=by
  have:h=0∨h=1∨h=2:=by omega
  rcases this with rfl|rfl|rfl <;> decide
 have hP1:=partsN_len (h+1);have hP2:=partsN_partL (h+1);refine sI Tryz.func105 Tryz.ntmps105 fun hbox htok=>?_
 repeat (first|simp [hw1]|refine sR ?_)
 refine Stop.of_d (hpa _ _) ?_;simp;rw [hR];generalize partsN (h+1)=P at *;try (simp)
 repeat (first|(refine sR ?_; simp)|(refine sC ?_; simp)|(refine sX ?_; simp only [AU, ↓reduceIte]))
 refine sN ?_;refine AL.loopT (stG1 s node ends P nb box) (fun x=>x.i≤P.length∧TK tok nt x.tok x.nt [x.own]) (fun x=>P.length - x.i) ⟨0,.full,tok,nt⟩ ⟨Nat.zero_le _,(TK.start htok).full⟩ (Weaks.mk (Nat.le_refl _) rfl (by simp [ToL,lk,grK]) (by simp [BoxL,lk])) ?_;rintro ⟨i,own,tok',nt'⟩ S ⟨hi,htk⟩ hS;simp only [stG1] at hS hi htk;subst hS;have hw:=sW (i:=i) (by omega);by_cases hlt:i<P.length
 ·have hpl:=hP1 _ (List.getElem_mem hlt);have hpp:=hP2 _ (List.getElem_mem hlt);have hq:=quotient86_c P[i] (by omega) hpp;have hnext:=grK_next (s:=s) (node:=node) (ends:=ends) hlt;try (simp [hlt])
  repeat (first|(refine sR ?_; simp [hlt])|(refine sC ?_; simp [hlt])|(refine sX ?_; simp only [AU, ↓reduceIte]))
  refine Stop.of_d (hq _ _) ?_;simp;obtain ⟨q1,q2,q3⟩:=numN_len P[i] P[i].length;obtain ⟨n,hn2⟩:=Int.eq_ofNat_of_zero_le q2;have hn3:n≤3:=by omega
  have hrg:=numN_range hpp P[i].length (Nat.le_refl _);have hn4:(numN P[i] P[i].length).2.toNat=n:=by omega
  rw [hn4] at hnext;rw [hn2];have hch:=choicesP_c ends n hn hn3;have hcl:=choR_len3 hn hn3;have hcm:=@choR_mem ends n;have hcls:∀ k∈(numN P[i] P[i].length).1,0≤k∧k<n:=by
   intro k hk;obtain ⟨j,hj,rfl⟩:=List.getElem_of_mem hk;have:=hrg j hj
   omega
  have hclen:(numN P[i] P[i].length).1.length≤3:=by omega
  generalize (numN P[i] P[i].length).1=cls at *;try (simp)
  repeat (first|(refine sR ?_; simp)|(refine sC ?_; simp)|(refine sX ?_; simp only [AU, ↓reduceIte]))
  refine Stop.of_d (hch _ _) ?_;simp;try (simp)
  repeat (first|(refine sR ?_; simp)|(refine sC ?_; simp)|(refine sX ?_; simp only [AU, ↓reduceIte]))
  refine sN ?_;refine AL.loopT (stG2 s node ends P i cls n nb box) (fun x=>x.i≤(choR ends n).length∧TK tok nt x.tok x.nt [x.own]) (fun x=>(choR ends n).length - x.i) ⟨0,own,tok',nt'⟩ ⟨Nat.zero_le _,htk⟩ (Weaks.mk htk.le rfl (by simp [ToL,lk,grK_zero]) (by simp [BoxL,lk])) ?_;rintro ⟨k,own2,tok2,nt2⟩ S ⟨hi2,htk2⟩ hS;simp only [stG2] at hS hi2 htk2;subst hS;have hw2:=sW (i:=k) (by omega);by_cases hlk:k<(choR ends n).length
  ·have hs:=grK_succ (s:=s) (node:=node) (ends:=ends) (P:=P) (i:=i) (cls:=cls) hlk;have hcn:=hcm (List.getElem_mem hlk);have hgk:=grK_len (s:=s) (node:=node) (i:=i) (k:=k) (cls:=cls) hn hPl (fun p hp=>by have:=hP1 p hp; omega) hcl;have hg:(choR ends n)[k]?.getD []=(choR ends n)[k]:=by simp [hlk]
   try (simp [hlk])
   repeat (first|(refine sR ?_; simp [hlk])|(refine sC ?_; simp [hlk])|(refine sX ?_; simp only [AU, ↓reduceIte]))
   refine ⟨by omega,?_⟩;try (simp [hlk])
   repeat (first|(refine sR ?_; simp [hlk])|(refine sC ?_; simp [hlk])|(refine sX ?_; simp only [AU, ↓reduceIte]))
   generalize (choR ends n)[k]=c at *;have haz:=atL_zero c;rw [hcn] at haz;rw [haz];refine sN ?_;refine AL.loopT (stG3 s node ends P i cls n k c own2 nb box) (fun x=>x.i≤c.length∧TK tok nt x.tok x.nt [x.own,own2]) (fun x=>c.length - x.i) ⟨0,.full,tok2,nt2⟩ ⟨Nat.zero_le _,htk2.full⟩ (Weaks.mk htk2.le rfl (by simp [ToL,lk]) (by simp [BoxL,lk,ndL])) ?_;rintro ⟨j,own3,tok3,nt3⟩ S ⟨hi3,htk3⟩ hS;simp only [stG3] at hS hi3 htk3;subst hS;have hw3:=sW (i:=j) (by omega);have hal:=atL_len c j;have hnl:=ndL_len node c j;have hcl:=cntO_le (c.take j);rw [List.length_take] at hcl;by_cases hlj:j<c.length
   ·by_cases h1:c[j] = -1
    ·have b1:(c[j] != -1)=false:=by simp [h1]
     have e1:=atL_skip hlj h1;have e2:=ndL_skip (node:=node) hlj h1;try (simp [hlj,b1,hw3])
     repeat (first|(refine sR ?_; simp [hlj,b1,hw3])|(refine sC ?_; simp [hlj,b1,hw3])|(refine sX ?_; simp only [AU, ↓reduceIte]))
     refine sE ?_;exact ⟨⟨j+1,_,_,_⟩,⟨hlj,htk3⟩,by simp only; omega,Weaks.mk htk3.le rfl (by simp [ToL,lk]) (by simp [BoxL,lk,←e1,e2])⟩
    ·have b1:(c[j] != -1)=true:=by simp [h1]
     have e1:=atL_set hlj h1;have e2:=ndL_succ (node:=node) hlj h1;have hjn:j<n:=by omega
     have e3:(atL c j).set j ((ndL node c j).length:Int)=atL c (j+1):=by rw [hnl,←e1]; simp
     have hbn:(ndL node c j).length≤4:=by omega
     try (simp [hlj,b1,hal,hjn,hcn])
     repeat (first|(refine sR ?_; simp [hlj,b1,hal,hjn,hcn])|(refine sC ?_; simp [hlj,b1,hal,hjn,hcn])|(refine sX ?_; simp only [AU, ↓reduceIte]))
     refine ⟨⟨by omega,htk3.live⟩,?_⟩;try (simp [hw3])
     repeat (first|(refine sR ?_; simp [hw3])|(refine sC ?_; simp [hw3])|(refine sX ?_; simp only [AU, ↓reduceIte]))
     refine sE ?_;exact ⟨⟨j+1,_,_,_⟩,⟨by simp only; omega,htk3.app⟩,by simp only; omega,Weaks.mk htk3.app.le rfl (by simp [ToL,lk,hcn]) (by simp [BoxL,lk,e3,e2])⟩
   ·have:j=c.length:=by omega
    subst this;try (simp)
    repeat (first|(refine sR ?_; simp)|(refine sC ?_; simp)|(refine sX ?_; simp only [AU, ↓reduceIte]))
    have hgl:(gAtL c).length=c.length:=by rw [←atL_end]; exact hal
    rw [atL_end];refine sN ?_;refine AL.loopT (stG4 s node ends P i cls n k c own2 nb box) (fun x=>x.i≤cls.length∧TK tok nt x.tok x.nt [x.own,own2]) (fun x=>cls.length - x.i) ⟨0,.full,tok3,nt3⟩ ⟨Nat.zero_le _,htk3.tail.full⟩ (Weaks.mk htk3.le rfl (by simp [ToL,lk]) (by simp [BoxL,lk,lkL])) ?_;rintro ⟨q,own4,tok4,nt4⟩ S ⟨hi4,htk4⟩ hS;simp only [stG4] at hS hi4 htk4;subst hS;have hw4:=sW (i:=q) (by omega);have hll:=lkL_len s c cls q;by_cases hlq:q<cls.length
    ·obtain ⟨z1,z2⟩:=hcls _ (List.getElem_mem hlq);have hsq:=lkL_succ (s:=s) (c:=c) hlq;have z3:cls[q].toNat<(gAtL c).length:=by omega
     have hgd:(gAtL c).getD cls[q].toNat 0=(gAtL c)[cls[q].toNat]:=by simp [z3]
     rw [hgd] at hsq;have hlk:=linkP_c s (gAtL c)[cls[q].toNat];try (simp [hlq,z1,z2,z3,hgl,hcn])
     repeat (first|(refine sR ?_; simp [hlq,z1,z2,z3,hgl,hcn])|(refine sC ?_; simp [hlq,z1,z2,z3,hgl,hcn])|(refine sX ?_; simp only [AU, ↓reduceIte]))
     refine Stop.of_d (hlk _ _) ?_;simp;refine ⟨⟨by omega,htk4.live⟩,?_⟩;try (simp [hw4])
     repeat (first|(refine sR ?_; simp [hw4])|(refine sC ?_; simp [hw4])|(refine sX ?_; simp only [AU, ↓reduceIte]))
     refine sE ?_;exact ⟨⟨q+1,_,_,_⟩,⟨hlq,htk4.app⟩,by simp only; omega,Weaks.mk htk4.app.le rfl (by simp [ToL,lk]) (by simp [BoxL,lk,hsq,hcn])⟩
    ·have:q=cls.length:=by omega
     subst this;have hfin:greC s node cls c=⟨⟨#[]⟩,1,⟨ndL node c c.length,lkL s c cls cls.length⟩,[]⟩:=by simp [greC,greG,ndL,lkL]
     rw [hfin] at hs;try (simp)
     repeat (first|(refine sR ?_; simp)|(refine sC ?_; simp)|(refine sX ?_; simp only [AU, ↓reduceIte]))
     refine ⟨⟨by omega,htk4.swap.live⟩,?_⟩;try (simp [hw2])
     repeat (first|(refine sR ?_; simp [hw2])|(refine sC ?_; simp [hw2])|(refine sX ?_; simp only [AU, ↓reduceIte]))
     refine sE ?_;refine ⟨⟨k+1,_,_,_⟩,⟨hlk,htk4.swap.app.swap.tail⟩,by simp only; omega,Weaks.mk htk4.swap.app.le rfl ?_ (by simp [BoxL,lk])⟩;simp [ToL,lk,hs];refine to_snoc ?_ _;simp [ints,AM.edges,xts]
  ·have:k=(choR ends n).length:=by omega
   subst this;rw [hnext];try (simp [hw])
   repeat (first|(refine sR ?_; simp [hw])|(refine sC ?_; simp [hw])|(refine sX ?_; simp only [AU, ↓reduceIte]))
   refine sE ?_;exact ⟨⟨i+1,_,_,_⟩,⟨hlt,htk2⟩,by simp only; omega,Weaks.mk htk2.le rfl (by simp [ToL,lk]) (by simp [BoxL,lk])⟩
 ·have:i=P.length:=by omega
  subst this;try (simp)
  repeat (first|(refine sR ?_; simp)|(refine sC ?_; simp)|(refine sX ?_; simp only [AU, ↓reduceIte]))
  refine sN ?_;refine AL.ret ?_;try simp only [AU]
  have hend:grK s node ends P P.length [] [] 0=P.flatMap (greP s node ends):=by simp [grK]
  rw [hend];exact ⟨by simp,Fin.data (av:=.tup [.d (.sl 5 (rCo (P.flatMap (greP s node ends)))),I 0]) (by simp [resAs,resA]; rfl) hbox rfl htok htk.old htk.le (by simp [packA])⟩
def bdN (t:Ty) (i:Nat):Bool:=if (t.nd i).abs=true then true else leafB t (i:Int)
def bdS (s:Sd):Bool:=if 1<s.low then false else decide (s.high≤2)
def bdR (t:Ty):Int:=if tyE t≠0 then tyE t else if (List.range t.nodes.length).all (bdN t)=false then 13 else if (sdsR t).all bdS=false then 6 else 0
def stBd1 (t:Ty) (nb:Nat) (box:Bxs) (tok:Tks) (nt:Nat) (i:Nat):AState :=
 ⟨tl [(20,I i),(19,I t.nodes.length),(18,.d (nts t.nodes)),(1,.ptr (nb+1) 0 0)],lb nb box [(1,[[.d (nts t.nodes),.d (ets t.edges)]])],tok,nt⟩
def stBd2 (t:Ty) (nb:Nat) (box:Bxs) (tok:Tks) (nt:Nat) (i:Nat):AState :=
 ⟨tl [(38,I i),(37,I (sdsR t).length),(36,.d (sds (sdsR t))),(1,.ptr (nb+1) 0 0)],lb nb box [(1,[[.d (nts t.nodes),.d (ets t.edges)]])],tok,nt⟩
theorem boundedP_c (t:Ty) (ht:t.Fit) (tok:Tks) (nt:Nat):DCall Tryz.prog 99 [t.av] tok nt (I (bdR t)) tok nt:=by
 intro box nb;have hv:=valid_c4 t ht ht.hM;have hs:=sidesP_c t ht;have htn:=ht.n;have hte:=ht.e;obtain ⟨R,hR⟩:∃ R,bdR t=R:=⟨_,rfl⟩
 rw [hR];unfold bdR at hR;refine sI Tryz.func99 Tryz.ntmps99 fun hbox htok=>?_
 repeat (first|simp|refine sR ?_)
 refine Stop.of_d (hv _ _) ?_;simp;by_cases e0:tyE t=0
 ·rw [if_neg (by simp [e0])] at hR;try (simp [e0])
  repeat (first|(refine sR ?_; simp [e0])|(refine sC ?_; simp [e0])|(refine sX ?_; simp only [AU, ↓reduceIte]))
  refine sN ?_;refine AL.loopT (stBd1 t nb box tok nt) (fun i=>i≤t.nodes.length∧∀ j,j<i→bdN t j=true) (fun i=>t.nodes.length - i) 0 ⟨Nat.zero_le _,fun j hj=>absurd hj (Nat.not_lt_zero _)⟩ wkA ?_;rintro i S ⟨hi,hall⟩ hS;simp only [stBd1] at hS;subst hS;have hw:=sW (i:=i) (by omega);by_cases hlt:i<t.nodes.length
  ·have hl:=leafK_c t (by omega) i;have hnd:t.nd i=t.nodes[i]:=by simp [Ty.nd,hlt]
   cases ea:t.nodes[i].abs
   ·have hb:bdN t i=leafB t (i:Int):=by unfold bdN; rw [hnd,ea]; simp
    try (simp [hlt,ea])
    repeat (first|(refine sR ?_; simp [hlt,ea])|(refine sC ?_; simp [hlt,ea])|(refine sX ?_; simp only [AU, ↓reduceIte]))
    refine Stop.of_d (hl _ _) ?_;simp;cases el:leafB t (i:Int)
    ·rw [el] at hb;have:(List.range t.nodes.length).all (bdN t)=false:=List.all_eq_false.2 ⟨i,List.mem_range.2 hlt,by simp [hb]⟩
     rw [if_pos this] at hR;try (simp)
     repeat (first|(refine sR ?_; simp)|(refine sC ?_; simp)|(refine sX ?_; simp only [AU, ↓reduceIte]))
     refine sT (sH hbox htok ?_);simp [packA,hR]
    ·rw [el] at hb;try (simp [hw])
     repeat (first|(refine sR ?_; simp [hw])|(refine sC ?_; simp [hw])|(refine sX ?_; simp only [AU, ↓reduceIte]))
     refine sE ?_;exact ⟨i+1,⟨hlt,fun j hj=>(Nat.lt_or_ge j i).elim (hall j) fun hh=>by rw [show j=i by omega]; exact hb⟩,by omega,wkA⟩
   ·have hb:bdN t i=true:=by unfold bdN; rw [hnd,ea]; simp
    try (simp [hlt,ea,hw])
    repeat (first|(refine sR ?_; simp [hlt,ea,hw])|(refine sC ?_; simp [hlt,ea,hw])|(refine sX ?_; simp only [AU, ↓reduceIte]))
    refine sE ?_;exact ⟨i+1,⟨hlt,fun j hj=>(Nat.lt_or_ge j i).elim (hall j) fun hh=>by rw [show j=i by omega]; exact hb⟩,by omega,wkA⟩
  ·have:i=t.nodes.length:=by omega
   subst this;have:(List.range t.nodes.length).all (bdN t)=true:=List.all_eq_true.2 fun j hj=>hall j (List.mem_range.1 hj)
   rw [if_neg (by simp [this])] at hR;try (simp)
   repeat (first|(refine sR ?_; simp)|(refine sC ?_; simp)|(refine sX ?_; simp only [AU, ↓reduceIte]))
   refine Stop.of_d (hs _ _) ?_;simp;try (simp)
   repeat (first|(refine sR ?_; simp)|(refine sC ?_; simp)|(refine sX ?_; simp only [AU, ↓reduceIte]))
   have hsl:(sdsR t).length≤2000000:=by
    unfold sdsR;rw [sdL_len (Nat.le_refl _)];omega
   refine sN ?_;refine AL.loopT (stBd2 t nb box tok nt) (fun i=>i≤(sdsR t).length∧∀ j (h:j<(sdsR t).length),j<i→bdS (sdsR t)[j]=true) (fun i=>(sdsR t).length - i) 0 ⟨Nat.zero_le _,fun j _ hj=>absurd hj (Nat.not_lt_zero _)⟩ wkA ?_;rintro i S ⟨hi,hall2⟩ hS;simp only [stBd2] at hS;subst hS;have hw:=sW (i:=i) (by omega);by_cases hlt:i<(sdsR t).length
   ·by_cases l1:1<(sdsR t)[i].low
    ·have hb:bdS (sdsR t)[i]=false:=by unfold bdS; rw [if_pos l1]
     have:(sdsR t).all bdS=false:=List.all_eq_false.2 ⟨_,List.getElem_mem hlt,by simp [hb]⟩
     rw [if_pos this] at hR;try (simp [hlt,l1])
     repeat (first|(refine sR ?_; simp [hlt,l1])|(refine sC ?_; simp [hlt,l1])|(refine sX ?_; simp only [AU, ↓reduceIte]))
     refine sT (sH hbox htok ?_);simp [packA,hR]
    ·by_cases l2:2<(sdsR t)[i].high
     ·have hb:bdS (sdsR t)[i]=false:=by unfold bdS; rw [if_neg l1]; simp; omega
      have:(sdsR t).all bdS=false:=List.all_eq_false.2 ⟨_,List.getElem_mem hlt,by simp [hb]⟩
      rw [if_pos this] at hR;try (simp [hlt,l1,l2])
      repeat (first|(refine sR ?_; simp [hlt,l1,l2])|(refine sC ?_; simp [hlt,l1,l2])|(refine sX ?_; simp only [AU, ↓reduceIte]))
      refine sT (sH hbox htok ?_);simp [packA,hR]
     ·have hb:bdS (sdsR t)[i]=true:=by unfold bdS; rw [if_neg l1]; simp; omega
      try (simp [hlt,l1,l2,hw])
      repeat (first|(refine sR ?_; simp [hlt,l1,l2,hw])|(refine sC ?_; simp [hlt,l1,l2,hw])|(refine sX ?_; simp only [AU, ↓reduceIte]))
      refine sE ?_;exact ⟨i+1,⟨hlt,fun j h hj=>(Nat.lt_or_ge j i).elim (hall2 j h) fun hh=>by simp only [show j=i by omega]; exact hb⟩,by omega,wkA⟩
   ·have:i=(sdsR t).length:=by omega
    subst this;have:(sdsR t).all bdS=true:=by
     rw [List.all_eq_true];intro x hx;obtain ⟨j,hj,rfl⟩:=List.getElem_of_mem hx;exact hall2 j hj hj
    rw [if_neg (by simp [this])] at hR;try (simp)
    repeat (first|(refine sR ?_; simp)|(refine sC ?_; simp)|(refine sX ?_; simp only [AU, ↓reduceIte]))
    refine sT (sH hbox htok ?_);simp [packA,hR]
 ·rw [if_pos e0] at hR;have b:(tyE t != 0)=true:=by simp [e0]
  try (simp [b])
  repeat (first|(refine sR ?_; simp [b])|(refine sC ?_; simp [b])|(refine sX ?_; simp only [AU, ↓reduceIte]))
  refine sT (sH hbox htok ?_);simp [packA,hR]
end Go.AM
namespace Go.Proofs
open Go.Shelf
def Tryz.lays171_ren:Go.Shelf.Ren:=⟨fun|171=>106|243=>177|246=>238|283=>279|284=>280|285=>281|286=>282|129=>276|317=>300|318=>301|319=>302|320=>303|337=>313|338=>314|n=>n,fun|3=>3|9=>9|2=>2|4=>4|171=>353|0=>0|53=>352|37=>66|5=>5|173=>355|212=>375|51=>283|20=>20|213=>376|46=>310|232=>385|233=>386|n=>n,fun|17=>3|18=>5|19=>6|n=>n⟩
theorem Tryz.lays171:Go.Proofs.Lays.n171 Tryz.prog Tryz.lays171_ren:={
 mixed:=by kernel_rfl
 f129:=Tryz.func276.trans (congrArg some (by kernel_rfl))
 f171:=Tryz.func106.trans (congrArg some (by kernel_rfl))
 f243:=Tryz.func177.trans (congrArg some (by kernel_rfl))
 f246:=Tryz.func238.trans (congrArg some (by kernel_rfl))
 f283:=Tryz.func279.trans (congrArg some (by kernel_rfl))
 f284:=Tryz.func280.trans (congrArg some (by kernel_rfl))
 f285:=Tryz.func281.trans (congrArg some (by kernel_rfl))
 f286:=Tryz.func282.trans (congrArg some (by kernel_rfl))
 f317:=Tryz.func300.trans (congrArg some (by kernel_rfl))
 f318:=Tryz.func301.trans (congrArg some (by kernel_rfl))
 f319:=Tryz.func302.trans (congrArg some (by kernel_rfl))
 f320:=Tryz.func303.trans (congrArg some (by kernel_rfl))
 f337:=Tryz.func313.trans (congrArg some (by kernel_rfl))
 f338:=Tryz.func314.trans (congrArg some (by kernel_rfl))
 t0:=Tryz.underlying0
 a0:=Tryz.isAgg0
 z0:=Tryz.sizeOf0
 v0:=Tryz.zeroValue0
 t2:=Tryz.underlying2
 a2:=Tryz.isAgg2
 z2:=Tryz.sizeOf2
 v2:=Tryz.zeroValue2
 t3:=Tryz.underlying3
 a3:=Tryz.isAgg3
 z3:=Tryz.sizeOf3
 v3:=Tryz.zeroValue3
 t4:=Tryz.underlying4
 a4:=Tryz.isAgg4
 z4:=Tryz.sizeOf4
 v4:=Tryz.zeroValue4
 t5:=Tryz.underlying5
 a5:=Tryz.isAgg5
 z5:=Tryz.sizeOf5
 v5:=Tryz.zeroValue5
 t9:=Tryz.underlying9
 a9:=Tryz.isAgg9
 z9:=Tryz.sizeOf9
 v9:=Tryz.zeroValue9
 t20:=Tryz.underlying20
 a20:=Tryz.isAgg20
 z20:=Tryz.sizeOf20
 v20:=Tryz.zeroValue20
 t37:=Tryz.underlying66
 a37:=Tryz.isAgg66
 z37:=Tryz.sizeOf66
 v37:=Tryz.zeroValue66
 t46:=Tryz.underlying310
 a46:=Tryz.isAgg310
 z46:=Tryz.sizeOf310
 v46:=Tryz.zeroValue310
 t51:=Tryz.underlying283
 a51:=Tryz.isAgg283
 z51:=Tryz.sizeOf283
 v51:=Tryz.zeroValue283
 t53:=Tryz.underlying352
 a53:=Tryz.isAgg352
 z53:=Tryz.sizeOf352
 v53:=Tryz.zeroValue352
 t171:=Tryz.underlying353
 a171:=Tryz.isAgg353
 z171:=Tryz.sizeOf353
 v171:=Tryz.zeroValue353
 t173:=Tryz.underlying355
 a173:=Tryz.isAgg355
 z173:=Tryz.sizeOf355
 v173:=Tryz.zeroValue355
 t212:=Tryz.underlying375
 a212:=Tryz.isAgg375
 z212:=Tryz.sizeOf375
 v212:=Tryz.zeroValue375
 t213:=Tryz.underlying376
 a213:=Tryz.isAgg376
 z213:=Tryz.sizeOf376
 t232:=Tryz.underlying385
 a232:=Tryz.isAgg385
 z232:=Tryz.sizeOf385
 v232:=Tryz.zeroValue385
 t233:=Tryz.underlying386
 a233:=Tryz.isAgg386
 z233:=Tryz.sizeOf386
 v233:=Tryz.zeroValue386
 g17:=by kernel_rfl
 g18:=by kernel_rfl
 g19:=by kernel_rfl }
open Go.RowKit Go.Sort Go.Lib in
theorem Tryz.strconv_Itoa_small (i:Nat) (hi:i<100) (w:World) :
  Calls Tryz.prog 106 #[.int .i64 i] w fun e w'=>e=.returned (.string ⟨(Lib.decDigits i).toArray⟩)∧w'=w:=Any.strconv_Itoa_small Tryz.lays171 i hi w
end Go.Proofs
namespace Go.AM
open Go Go.Proofs
def dgB (i:Nat):ByteArray:=⟨(Lib.decDigits i).toArray⟩
theorem dgB_size {i:Nat} (h:i<100):(dgB i).size≤2:=by
 unfold dgB;by_cases h1:i<10
 ·rw [Lib.decDigits_one h1]; exact Nat.le_succ _
 ·rw [Lib.decDigits_two h1 h]; exact Nat.le_refl _
theorem itoaD_c (i:Nat) (h:i<100) (tok:Tks) (nt:Nat):DCall Tryz.prog 106 [I i] tok nt (Sb (dgB i)) tok nt:=by
 intro box nb;refine ⟨Enters.mk Tryz.func106 rfl (by kernel_rfl),fun G w vals hm hr=>?_⟩;obtain ⟨hlen,hrv⟩:=hr
 match vals,hlen with
 | [v],_ =>
  have h0:=hrv 0 (by simp) (by simp);simp only [List.getElem_cons_zero] at h0;cases h0 with|d h0 =>
  cases h0;refine (Tryz.strconv_Itoa_small i h w).mono ?_;rintro e w' ⟨rfl,rfl⟩;exact ⟨_,_,_,G,rfl,⟨rfl,rfl⟩,rfl,hm,.d (.raw rfl),Le.refl _ _,fun k hk=>⟨hk,rfl⟩⟩
def mulLo (s:Sd) (node:Int) (ends:List Int) (out:List Co):Option (List Co):=if s.low=1 then (if 6<ends.length then none else some (out++[lstC s node ends])) else some out
def mulHi (s:Sd) (node:Int) (ends:List Int) (out:List Co):List Co:=if 0≤s.high then out++greL s node ends else out
def mulOk (t:Ty) (s:Sd) (node:Nat):Bool:=if leafB t (node:Int)=true then tIs t (node:Int) s.near else false
def mulN (t:Ty) (s:Sd) (node:Nat) (out:List Co):Option (List Co) :=
 if mulOk t s node=true then (match mulLo s node (endsR t s node) out with
  | none=>none
  | some o=>if 100<(mulHi s node (endsR t s node) o).length then none else some (mulHi s node (endsR t s node) o))
 else some out
def mulT (t:Ty) (s:Sd):Nat→Nat→List Co→Option (List Co)
 | _,0,out=>some out
 | i,n+1,out=>match mulN t s i out with|none=>none|some o=>mulT t s (i+1) n o
def mulS (t:Ty):List Sd→List Co→Option (List Co)
 | [],out=>some out
 | s::l,out=>match mulT t s 0 t.nodes.length out with|none=>none|some o=>mulS t l o
def mulR0 (t:Ty):Option (List Co):=mulS t (sdsR t) []
def nmC (c:Co) (i:Nat):Co:={ c with name:=⟨#[109]⟩++dgB i }
def nmL (l:List Co) (k:Nat):List Co:=(List.range l.length).map fun j=>if j<k then nmC (l.getD j ⟨⟨#[]⟩,0,⟨[],[]⟩,[]⟩) j else l.getD j ⟨⟨#[]⟩,0,⟨[],[]⟩,[]⟩
def mulR (t:Ty):List Co × Int:=if bdR t≠0 then ([],bdR t) else match mulR0 t with|none=>([],3)|some l=>(nmL l l.length,0)
theorem greL_len (s:Sd) (node:Int) (ends:List Int) (hn:ends.length≤100) (h0:0≤s.high) (h2:s.high≤2):(greL s node ends).length≤6000000:=by
 have h:greL s node ends=grK s node ends (partsN (s.high.toNat+1)) (partsN (s.high.toNat+1)).length [] [] 0:=by simp [greL,grK]
 rw [h];refine grK_len hn ?_ (fun p hp=>?_) (by simp)
 ·have:s.high.toNat=0∨s.high.toNat=1∨s.high.toNat=2:=by omega
  rcases this with h|h|h <;> rw [h] <;> decide
 ·have:=partsN_len _ p hp
  omega
structure MuX where
 i:Nat
 out:List Co
 tk:Nat
 tok:Nat→Bool
 nt:Nat
def mulX1 (t:Ty) (S:List Sd) (nb:Nat) (box:Bxs) (x:MuX):AState :=
 ⟨tl [(22,I x.i),(21,I S.length),(20,.d (sds S)),(5,.stk x.tk 5 (rCo x.out)),(1,.ptr (nb+1) 0 0)],lb nb box [(1,[[.d (nts t.nodes),.d (ets t.edges)]])],x.tok,x.nt⟩
def mulX2 (t:Ty) (S:List Sd) (i:Nat) (s:Sd) (nb:Nat) (box:Bxs) (x:MuX):AState :=
 ⟨tl [(29,I x.i),(28,I t.nodes.length),(7,.ptr (nb+7) 0 0),(22,I i),(21,I S.length),(20,.d (sds S)),(5,.stk x.tk 5 (rCo x.out)),(1,.ptr (nb+1) 0 0)],lb nb box [(7,[[I s.k,B s.o,I s.near,I s.far,I s.low,I s.high]]),(1,[[.d (nts t.nodes),.d (ets t.edges)]])],x.tok,x.nt⟩
theorem nmL_len (l:List Co) (k:Nat):(nmL l k).length=l.length:=by simp [nmL]
def mulX3 (out:List Co) (Z:List (List AV)) (nb:Nat) (box:Bxs) (tok:Tks) (nt:Nat) (k:Nat):AState :=
 ⟨tl [(86,I k),(85,I out.length),(5,.msl (nb+7) 0 out.length 5)],lb nb box [(7,rowsD (rCo (nmL out k))++Z)],tok,nt⟩
theorem nmL_zero (l:List Co):nmL l 0=l:=by
 refine List.ext_getElem (by simp [nmL]) fun i h1 h2=>?_
 simp [nmL,h2]
theorem nmL0 {l:List Co}:rCo l=rCo (nmL l 0):=by rw [nmL_zero]
theorem mul_rt {p q:Nat→Prop} {fz:Option (Nat × Nat × List (List D))} {a b:List (List D)} {m:Nat} {Z:List (List AV)} (h:a=b) (hZ:List.replicate m (List.replicate 5 AV.bot)=Z):RowsTo p q fz (rowsD a++Z) (rowsD b++Z):=by
 subst h;refine rowsTo_same fun r hr x hx=>?_
 rcases List.mem_append.1 hr with hr|hr
 ·obtain ⟨e,_,rfl⟩:=List.mem_map.1 hr;obtain ⟨d,_,rfl⟩:=List.mem_map.1 hx;exact .d
 ·rw [←hZ] at hr;rw [List.eq_of_mem_replicate hr] at hx;rw [List.eq_of_mem_replicate hx];exact .bot
theorem nmL_set {l:List Co} {k:Nat} (h:k<l.length):(nmL l k).set k (nmC l[k] k)=nmL l (k+1):=by
 refine List.ext_getElem (by simp [nmL]) fun i a b=>?_
 have hi:i<l.length:=by simpa [nmL] using a
 rw [List.getElem_set];simp only [nmL,List.getElem_map,List.getElem_range];by_cases e:k=i
 ·subst e;rw [if_pos rfl,if_pos (Nat.lt_succ_self _)];simp [hi]
 ·rw [if_neg e];by_cases h2:i<k
  ·rw [if_pos h2,if_pos (show i<k+1 by omega)]
  ·rw [if_neg h2,if_neg (show ¬ i<k+1 by omega)]
theorem nmL_row {l:List Co} {k:Nat} (h:k<l.length) (Z:List (List AV)):(rowsD (rCo (nmL l k))++Z)[k]?=some [Sb l[k].name,I l[k].kind,.d (ints l[k].g.nodes),.d (AM.edges l[k].g.edges),.d (xts l[k].exts)]:=by
 have hk:k<(nmL l k).length:=by rw [nmL_len]; exact h
 have hg:(nmL l k)[k]=l[k]:=by simp [nmL,h]
 rw [List.getElem?_append_left (by simp; exact hk)];simp [rowsD,hk,hg]
theorem nmL_put {l:List Co} {k:Nat} (h:k<l.length) (Z:List (List AV)):(rowsD (rCo (nmL l k))++Z).set k [Sb (⟨#[109]⟩++dgB k),I l[k].kind,.d (ints l[k].g.nodes),.d (AM.edges l[k].g.edges),.d (xts l[k].exts)]=rowsD (rCo (nmL l (k+1)))++Z:=by
 have hk:k<(nmL l k).length:=by rw [nmL_len]; exact h
 rw [List.set_append_left _ _ (by simp; exact hk),←nmL_set h];simp [rowsD,List.map_set,nmC]
def mulRest (t:Ty) (s:Sd) (l:List Sd) (j n:Nat) (out:List Co):Option (List Co):=match mulT t s j n out with|none=>none|some o=>mulS t l o
set_option maxRecDepth 100000 in
theorem multP_c (t:Ty) (ht:t.Fit) (tok:Tks) (nt:Nat) (box:Bxs) (nb:Nat):ACalls Tryz.prog 45 [t.av] ⟨box,nb,tok,nt⟩ fun v m=>m=⟨box,nb,tok,nt⟩∧(v=.tup [.d (.sl 5 (rCo (mulR t).1)),I (mulR t).2]∨(mulR t).1=[]∧v=.tup [.osl 0 [] .full,I (mulR t).2]):=by
 have hb:=boundedP_c t ht;have hs:=sidesP_c t ht;have htn:=ht.n;refine sI Tryz.func45 Tryz.ntmps45 fun hbox htok=>?_
 repeat (first|simp|refine sR ?_)
 refine Stop.of_d (hb _ _) ?_;simp;by_cases e0:bdR t=0
 ·have hR:mulR t=match mulR0 t with|none=>([],3)|some l=>(nmL l l.length,0):=by unfold mulR; rw [if_neg (by simp [e0])]
  have hbd:∀ s∈sdsR t,s.low≤1∧s.high≤2:=by
   unfold bdR at e0;split at e0
   ·rename_i e; exact absurd e0 e
   ·split at e0
    ·cases e0
    ·split at e0
     ·cases e0
     ·rename_i h;intro s hs;have:=List.all_eq_true.1 (by simpa using h) s hs
      unfold bdS at this;split at this
      ·cases this
      ·simp at this; omega
  have hn12:t.nodes.length≤12:=by
   unfold bdR at e0;split at e0
   ·rename_i e; exact absurd e0 e
   ·rename_i e;have e:tyE t=0:=by simpa using e
    unfold tyE at e;split at e
    ·cases e
    ·split at e
     ·cases e
     ·omega
  have h0:mulS t ((sdsR t).drop 0) []=mulR0 t:=rfl
  have hSl:(sdsR t).length≤2000000:=by
   unfold sdsR;rw [sdL_len (Nat.le_refl _)];have:=ht.e
   omega
  obtain ⟨R,hRR⟩:∃ R,mulR0 t=R:=⟨_,rfl⟩
  rw [hRR] at hR h0;try (simp [e0])
  repeat (first|(refine sR ?_; simp [e0])|(refine sC ?_; simp [e0])|(refine sX ?_; simp only [AU, ↓reduceIte]))
  refine Stop.of_d (hs _ _) ?_;simp;generalize sdsR t=S at *;try (simp)
  repeat (first|(refine sR ?_; simp)|(refine sC ?_; simp)|(refine sX ?_; simp only [AU, ↓reduceIte]))
  refine sN ?_;refine AL.weak (Weaks.mk (l':=[(22,I 0),(21,I S.length),(20,.d (sds S)),(5,.osl 0 [] .full),(1,.ptr (nb+1) 0 0)]) (loc':=[(1,[[.d (nts t.nodes),.d (ets t.edges)]])]) (Nat.le_refl _) rfl (by simp [ToL,lk]) (by simp [BoxL,lk])) ?_;refine AL.trans (Trans.opn (l':=[(22,I 0),(21,I S.length),(20,.d (sds S)),(5,.stk nt 5 []),(1,.ptr (nb+1) 0 0)]) (loc':=[(1,[[.d (nts t.nodes),.d (ets t.edges)]])]) 5 (by simp [CvL]) (by simp [CvB]; exact cvRs_same (fun _=>.same) _)) ?_;have htk0:=(TK.start htok).full.app;refine AL.loopT (mulX1 t S nb box) (fun x=>x.i≤S.length∧mulS t (S.drop x.i) x.out=R∧x.out.length≤100∧TK tok nt x.tok x.nt [.tok x.tk]) (fun x=>S.length - x.i) ⟨0,[],nt,upd tok nt true,nt+1⟩ ⟨Nat.zero_le _,h0,by simp,htk0⟩ (Weaks.mk (Nat.le_succ _) rfl (by simp [ToL,lk]) (by simp [BoxL,lk])) ?_;rintro ⟨i,out,tk,tok',nt'⟩ X ⟨hi,hout,hol,htk⟩ hS;simp only [mulX1] at hS hi hout hol htk;subst hS;have hw:=sW (i:=i) (by omega);by_cases hlt:i<S.length
  ·obtain ⟨hlo,hhi⟩:=hbd _ (List.getElem_mem hlt);have hout:mulRest t S[i] (S.drop (i+1)) 0 t.nodes.length out=R:=by
    rw [←hout,List.drop_eq_getElem_cons hlt];rfl
   try (simp [hlt])
   repeat (first|(refine sR ?_; simp [hlt])|(refine sC ?_; simp [hlt])|(refine sX ?_; simp only [AU, ↓reduceIte]))
   refine sN ?_;generalize S[i]=s at *;refine AL.loopT (mulX2 t S i s nb box) (fun x=>x.i≤t.nodes.length∧mulRest t s (S.drop (i+1)) x.i (t.nodes.length - x.i) x.out=R∧x.out.length≤100∧TK tok nt x.tok x.nt [.tok x.tk]) (fun x=>t.nodes.length - x.i) ⟨0,out,tk,tok',nt'⟩ ⟨Nat.zero_le _,hout,hol,htk⟩ (Weaks.mk htk.le rfl (by simp [ToL,lk]) (by simp [BoxL,lk])) ?_;rintro ⟨j,out2,tk2,tok2,nt2⟩ X ⟨hj,hout2,hol2,htk2⟩ hS;simp only [mulX2] at hS hj hout2 hol2 htk2;subst hS;have hwj:=sW (i:=j) (by omega);by_cases hlj:j<t.nodes.length
   ·have hout2:(match mulN t s j out2 with|none=>none|some o=>mulRest t s (S.drop (i+1)) (j+1) (t.nodes.length - (j+1)) o)=R:=by
     rw [←hout2,mulRest,show t.nodes.length - j=(t.nodes.length - (j+1))+1 by omega,mulT];cases mulN t s j out2 <;> rfl
    have hl:=leafK_c t (by omega) j;have hi:=isT_c t ht j s.near;have he:=endsP_c t ht s j;have hel:=endsN_len t s j t.nodes.length;have hel2:(endsR t s j).length≤13:=by unfold endsR; omega
    have hle:=leastP_c s j (endsR t s j) (by omega);have skip:mulOk t s j=false→mulRest t s (S.drop (i+1)) (j+1) (t.nodes.length - (j+1)) out2=R:=by
     intro h;rw [←hout2,mulN,if_neg (by simp [h])]
    unfold mulOk at skip;try (simp [hlj])
    repeat (first|(refine sR ?_; simp [hlj])|(refine sC ?_; simp [hlj])|(refine sX ?_; simp only [AU, ↓reduceIte]))
    refine Stop.of_d (hl _ _) ?_;simp;cases e1:leafB t (j:Int)
    ·have skip:=skip (by simp [e1]);try (simp [hwj])
     repeat (first|(refine sR ?_; simp [hwj])|(refine sC ?_; simp [hwj])|(refine sX ?_; simp only [AU, ↓reduceIte]))
     refine sE ?_;exact ⟨⟨j+1,out2,tk2,tok2,nt2⟩,⟨hlj,skip,hol2,htk2⟩,by simp only; omega,Weaks.mk htk2.le rfl (by simp [ToL,lk]) (by simp [BoxL,lk])⟩
    ·try (simp)
     repeat (first|(refine sR ?_; simp)|(refine sC ?_; simp)|(refine sX ?_; simp only [AU, ↓reduceIte]))
     refine Stop.of_d (hi _ _) ?_;simp;cases e2:tIs t (j:Int) s.near
     ·have skip:=skip (by simp [e1,e2]);try (simp [hwj])
      repeat (first|(refine sR ?_; simp [hwj])|(refine sC ?_; simp [hwj])|(refine sX ?_; simp only [AU, ↓reduceIte]))
      refine sE ?_;exact ⟨⟨j+1,out2,tk2,tok2,nt2⟩,⟨hlj,skip,hol2,htk2⟩,by simp only; omega,Weaks.mk htk2.le rfl (by simp [ToL,lk]) (by simp [BoxL,lk])⟩
     ·have hgo:mulOk t s j=true:=by unfold mulOk; rw [if_pos e1,e2]
      rw [mulN,if_pos hgo] at hout2;clear skip;try (simp)
      repeat (first|(refine sR ?_; simp)|(refine sC ?_; simp)|(refine sX ?_; simp only [AU, ↓reduceIte]))
      refine Stop.of_d (he _ _) ?_;simp;generalize endsR t s j=ends at *;by_cases h1:s.low=1
      ·have b1:(s.low==1)=true:=by simp [h1]
       have hml:mulLo s j ends out2=if 6<ends.length then none else some (out2++[lstC s j ends]):=by unfold mulLo; rw [if_pos h1]
       rw [hml] at hout2;have hex:(lstC s j ends).exts.length=ends.length:=by simp [lstC]
       generalize lstC s j ends=lc at *;try (simp [b1])
       repeat (first|(refine sR ?_; simp [b1])|(refine sC ?_; simp [b1])|(refine sX ?_; simp only [AU, ↓reduceIte]))
       refine Stop.of_d (hle _ _) ?_;simp;by_cases h6:6<ends.length
       ·rw [if_pos h6] at hout2;have b6:(6:Int)<(ends.length:Int):=by omega
        try (simp [hex,b6])
        repeat (first|(refine sR ?_; simp [hex,b6])|(refine sC ?_; simp [hex,b6])|(refine sX ?_; simp only [AU, ↓reduceIte]))
        refine sN ?_;refine AL.ret ?_;try simp only [AU]
        exact ⟨by simp,(Fin.data (av:=.tup [.osl 0 [] .full,I 3]) (by simp [resAs,resA]; rfl) hbox rfl htok htk2.old htk2.le (by simp [packA])).mono fun v m hq=>⟨hq.2,.inr (by rw [hR,←hout2]; exact ⟨rfl,hq.1⟩)⟩⟩
       ·rw [if_neg h6] at hout2;simp only at hout2;have b6:¬ (6:Int)<(ends.length:Int):=by omega
        try (simp [hex,b6])
        repeat (first|(refine sR ?_; simp [hex,b6])|(refine sC ?_; simp [hex,b6])|(refine sX ?_; simp only [AU, ↓reduceIte]))
        refine ⟨⟨by omega,htk2.live⟩,?_⟩;have htk3:=htk2.app;by_cases hh:0≤s.high
        ·have hgr:=greatestP_c s j ends (by omega) hh hhi;have hmh:mulHi s j ends ((out2++[lc]))=(out2++[lc])++greL s j ends:=by unfold mulHi; rw [if_pos hh]
         have hgl:=greL_len s j ends (by omega) hh hhi;rw [hmh] at hout2;generalize greL s j ends=gl at *;try (simp [hh])
         repeat (first|(refine sR ?_; simp [hh])|(refine sC ?_; simp [hh])|(refine sX ?_; simp only [AU, ↓reduceIte]))
         refine Stop.of_d (hgr _ _) ?_;simp;try (simp)
         repeat (first|(refine sR ?_; simp)|(refine sC ?_; simp)|(refine sX ?_; simp only [AU, ↓reduceIte]))
         refine ⟨⟨by omega,htk3.live⟩,?_⟩;have htk9:=htk3.app;obtain ⟨O,hO⟩:∃ O,(out2++[lc])++gl=O:=⟨_,rfl⟩
         rw [hO] at hout2;refine AL.weak (Weaks.mk (l':=[(5,.stk (nt2+1) 5 (rCo O)),(29,I j),(28,I t.nodes.length),(7,.ptr (nb+7) 0 0),(22,I i),(21,I S.length),(20,.d (sds S)),(1,.ptr (nb+1) 0 0)]) (loc':=[(7,[[I s.k,B s.o,I s.near,I s.far,I s.low,I s.high]]),(1,[[.d (nts t.nodes),.d (ets t.edges)]])]) htk9.le rfl (by simp [ToL,lk,←hO]) (by simp [BoxL,lk])) ?_;by_cases hb:100<O.length
         ·have bb:(100:Int)<(O.length:Int):=by omega
          rw [if_pos hb] at hout2;try (simp [bb])
          repeat (first|(refine sR ?_; simp [bb])|(refine sC ?_; simp [bb])|(refine sX ?_; simp only [AU, ↓reduceIte]))
          refine sN ?_;refine AL.ret ?_;try simp only [AU]
          exact ⟨by simp,(Fin.data (av:=.tup [.osl 0 [] .full,I 3]) (by simp [resAs,resA]; rfl) hbox rfl htok htk9.old htk9.le (by simp [packA])).mono fun v m hq=>⟨hq.2,.inr (by rw [hR,←hout2]; exact ⟨rfl,hq.1⟩)⟩⟩
         ·have bb:¬ (100:Int)<(O.length:Int):=by omega
          rw [if_neg hb] at hout2;try (simp [bb,hwj])
          repeat (first|(refine sR ?_; simp [bb,hwj])|(refine sC ?_; simp [bb,hwj])|(refine sX ?_; simp only [AU, ↓reduceIte]))
          refine sE ?_;exact ⟨⟨j+1,O,(nt2+1),_,_⟩,⟨hlj,hout2,by simp only; omega,htk9⟩,by simp only; omega,Weaks.mk htk9.le rfl (by simp [ToL,lk]) (by simp [BoxL,lk])⟩
        ·have hmh:mulHi s j ends ((out2++[lc]))=(out2++[lc]):=by unfold mulHi; rw [if_neg hh]
         rw [hmh] at hout2;refine sR ?_;simp [hh];refine sC ?_;simp;refine sN ?_;obtain ⟨O,hO⟩:∃ O,(out2++[lc])=O:=⟨_,rfl⟩
         rw [hO] at hout2;refine AL.weak (Weaks.mk (l':=[(5,.stk nt2 5 (rCo O)),(29,I j),(28,I t.nodes.length),(7,.ptr (nb+7) 0 0),(22,I i),(21,I S.length),(20,.d (sds S)),(1,.ptr (nb+1) 0 0)]) (loc':=[(7,[[I s.k,B s.o,I s.near,I s.far,I s.low,I s.high]]),(1,[[.d (nts t.nodes),.d (ets t.edges)]])]) htk3.le rfl (by simp [ToL,lk,←hO]) (by simp [BoxL,lk])) ?_;by_cases hb:100<O.length
         ·have bb:(100:Int)<(O.length:Int):=by omega
          rw [if_pos hb] at hout2;try (simp [bb])
          repeat (first|(refine sR ?_; simp [bb])|(refine sC ?_; simp [bb])|(refine sX ?_; simp only [AU, ↓reduceIte]))
          refine sN ?_;refine AL.ret ?_;try simp only [AU]
          exact ⟨by simp,(Fin.data (av:=.tup [.osl 0 [] .full,I 3]) (by simp [resAs,resA]; rfl) hbox rfl htok htk3.old htk3.le (by simp [packA])).mono fun v m hq=>⟨hq.2,.inr (by rw [hR,←hout2]; exact ⟨rfl,hq.1⟩)⟩⟩
         ·have bb:¬ (100:Int)<(O.length:Int):=by omega
          rw [if_neg hb] at hout2;try (simp [bb,hwj])
          repeat (first|(refine sR ?_; simp [bb,hwj])|(refine sC ?_; simp [bb,hwj])|(refine sX ?_; simp only [AU, ↓reduceIte]))
          refine sE ?_;exact ⟨⟨j+1,O,nt2,_,_⟩,⟨hlj,hout2,by simp only; omega,htk3⟩,by simp only; omega,Weaks.mk htk3.le rfl (by simp [ToL,lk]) (by simp [BoxL,lk])⟩
      ·have b1:(s.low==1)=false:=by simp [h1]
       have hml:mulLo s j ends out2=some out2:=by unfold mulLo; rw [if_neg h1]
       rw [hml] at hout2;simp only at hout2;refine sR ?_;simp [b1];refine sC ?_;simp;refine sN ?_;by_cases hh:0≤s.high
       ·have hgr:=greatestP_c s j ends (by omega) hh hhi;have hmh:mulHi s j ends (out2)=out2++greL s j ends:=by unfold mulHi; rw [if_pos hh]
        have hgl:=greL_len s j ends (by omega) hh hhi;rw [hmh] at hout2;generalize greL s j ends=gl at *;try (simp [hh])
        repeat (first|(refine sR ?_; simp [hh])|(refine sC ?_; simp [hh])|(refine sX ?_; simp only [AU, ↓reduceIte]))
        refine Stop.of_d (hgr _ _) ?_;simp;try (simp)
        repeat (first|(refine sR ?_; simp)|(refine sC ?_; simp)|(refine sX ?_; simp only [AU, ↓reduceIte]))
        refine ⟨⟨by omega,htk2.live⟩,?_⟩;have htk9:=htk2.app;obtain ⟨O,hO⟩:∃ O,out2++gl=O:=⟨_,rfl⟩
        rw [hO] at hout2;refine AL.weak (Weaks.mk (l':=[(5,.stk nt2 5 (rCo O)),(29,I j),(28,I t.nodes.length),(7,.ptr (nb+7) 0 0),(22,I i),(21,I S.length),(20,.d (sds S)),(1,.ptr (nb+1) 0 0)]) (loc':=[(7,[[I s.k,B s.o,I s.near,I s.far,I s.low,I s.high]]),(1,[[.d (nts t.nodes),.d (ets t.edges)]])]) htk9.le rfl (by simp [ToL,lk,←hO]) (by simp [BoxL,lk])) ?_;by_cases hb:100<O.length
        ·have bb:(100:Int)<(O.length:Int):=by omega
         rw [if_pos hb] at hout2;try (simp [bb])
         repeat (first|(refine sR ?_; simp [bb])|(refine sC ?_; simp [bb])|(refine sX ?_; simp only [AU, ↓reduceIte]))
         refine sN ?_;refine AL.ret ?_;try simp only [AU]
         exact ⟨by simp,(Fin.data (av:=.tup [.osl 0 [] .full,I 3]) (by simp [resAs,resA]; rfl) hbox rfl htok htk9.old htk9.le (by simp [packA])).mono fun v m hq=>⟨hq.2,.inr (by rw [hR,←hout2]; exact ⟨rfl,hq.1⟩)⟩⟩
        ·have bb:¬ (100:Int)<(O.length:Int):=by omega
         rw [if_neg hb] at hout2;try (simp [bb,hwj])
         repeat (first|(refine sR ?_; simp [bb,hwj])|(refine sC ?_; simp [bb,hwj])|(refine sX ?_; simp only [AU, ↓reduceIte]))
         refine sE ?_;exact ⟨⟨j+1,O,nt2,_,_⟩,⟨hlj,hout2,by simp only; omega,htk9⟩,by simp only; omega,Weaks.mk htk9.le rfl (by simp [ToL,lk]) (by simp [BoxL,lk])⟩
       ·have hmh:mulHi s j ends (out2)=out2:=by unfold mulHi; rw [if_neg hh]
        rw [hmh] at hout2;refine sR ?_;simp [hh];refine sC ?_;simp;refine sN ?_;obtain ⟨O,hO⟩:∃ O,out2=O:=⟨_,rfl⟩
        rw [hO] at hout2;refine AL.weak (Weaks.mk (l':=[(5,.stk tk2 5 (rCo O)),(29,I j),(28,I t.nodes.length),(7,.ptr (nb+7) 0 0),(22,I i),(21,I S.length),(20,.d (sds S)),(1,.ptr (nb+1) 0 0)]) (loc':=[(7,[[I s.k,B s.o,I s.near,I s.far,I s.low,I s.high]]),(1,[[.d (nts t.nodes),.d (ets t.edges)]])]) htk2.le rfl (by simp [ToL,lk,←hO]) (by simp [BoxL,lk])) ?_;by_cases hb:100<O.length
        ·have bb:(100:Int)<(O.length:Int):=by omega
         rw [if_pos hb] at hout2;try (simp [bb])
         repeat (first|(refine sR ?_; simp [bb])|(refine sC ?_; simp [bb])|(refine sX ?_; simp only [AU, ↓reduceIte]))
         refine sN ?_;refine AL.ret ?_;try simp only [AU]
         exact ⟨by simp,(Fin.data (av:=.tup [.osl 0 [] .full,I 3]) (by simp [resAs,resA]; rfl) hbox rfl htok htk2.old htk2.le (by simp [packA])).mono fun v m hq=>⟨hq.2,.inr (by rw [hR,←hout2]; exact ⟨rfl,hq.1⟩)⟩⟩
        ·have bb:¬ (100:Int)<(O.length:Int):=by omega
         rw [if_neg hb] at hout2;try (simp [bb,hwj])
         repeat (first|(refine sR ?_; simp [bb,hwj])|(refine sC ?_; simp [bb,hwj])|(refine sX ?_; simp only [AU, ↓reduceIte]))
         refine sE ?_;exact ⟨⟨j+1,O,tk2,_,_⟩,⟨hlj,hout2,by simp only; omega,htk2⟩,by simp only; omega,Weaks.mk htk2.le rfl (by simp [ToL,lk]) (by simp [BoxL,lk])⟩
   ·have:j=t.nodes.length:=by omega
    subst this;have hout3:mulS t (S.drop (i+1)) out2=R:=by
     rw [←hout2,mulRest,Nat.sub_self,mulT]
    try (simp [hw])
    repeat (first|(refine sR ?_; simp [hw])|(refine sC ?_; simp [hw])|(refine sX ?_; simp only [AU, ↓reduceIte]))
    refine sE ?_;exact ⟨⟨i+1,out2,tk2,tok2,nt2⟩,⟨hlt,hout3,hol2,htk2⟩,by simp only; omega,Weaks.mk htk2.le rfl (by simp [ToL,lk]) (by simp [BoxL,lk])⟩
  ·have:i=S.length:=by omega
   subst this;have hR2:mulR t=(nmL out out.length,0):=by
    rw [hR,←hout,List.drop_length];rfl
   try (simp)
   repeat (first|(refine sR ?_; simp)|(refine sC ?_; simp)|(refine sX ?_; simp only [AU, ↓reduceIte]))
   by_cases hne:out=[]
   ·subst hne;refine AL.stkD tk htk.live ?_;simp only [List.map_cons,List.map_nil,AV.sdT, ↓reduceIte];refine sN ?_;refine AL.loopT (fun _:Nat=>⟨tl [(86,I 0),(85,I 0),(5,.d (.sl 5 []))],lb nb box [],upd tok' tk false,nt'⟩) (fun _=>True) (fun k=>k) 0 trivial (Weaks.mk htk.le rfl (by simp [ToL,lk]) (by simp [BoxL,lk])) ?_;rintro k X _ hS;subst hS;try (simp)
    repeat (first|(refine sR ?_; simp)|(refine sC ?_; simp)|(refine sX ?_; simp only [AU, ↓reduceIte]))
    refine sT ?_;try simp only [AU]
    exact ⟨by simp,(Fin.data (av:=.tup [.d (.sl 5 []),I 0]) (by simp [resAs,resA]; rfl) hbox rfl htok htk.spend.old htk.le (by simp [packA])).mono fun v m hq=>⟨hq.2,.inl (by rw [hR2,hq.1]; rfl)⟩⟩
   ·refine AL.thawS (l':=[(86,I 0),(85,I out.length),(84,.msl (nb+7) 0 out.length 5),(23,.bot),(22,.bot),(21,.bot),(20,.bot),(5,.msl (nb+7) 0 out.length 5),(1,.bot)]) (loc':=[(1,[[.d (nts t.nodes),.d (ets t.edges)]])]) tk 7 5 (rCo out) 5 rfl (show (7:Nat)<98 by decide) rfl htk.live (by simpa using hne) rfl ?_ ?_ ?_
    ·simp [CvL]
    ·exact ⟨rfl,cvRs_same (fun _=>.same) _,trivial⟩
    intro m;generalize hRm:List.replicate m (List.replicate 5 AV.bot)=Z;have hbt:=htk.spend;refine sN ?_;refine AL.loopT (mulX3 out Z nb box (upd tok' tk false) nt') (fun k=>k≤out.length) (fun k=>out.length - k) 0 (Nat.zero_le _) (Weaks.mk htk.le rfl (by simp [ToL,lk,lb_at]) (by simp only [BoxL,lk_cons, ↓reduceIte,and_true]; exact ⟨_,rfl,mul_rt nmL0 hRm⟩)) ?_;rintro k X hk hS;simp only [mulX3] at hS;subst hS;have hwk:=sW (i:=k) (by omega);by_cases hlk:k<out.length
    ·have hit:=itoaD_c k (by omega);have hsz:=dgB_size (i:=k) (by omega);have hget:=nmL_row hlk Z;have hput:=nmL_put hlk Z;try (simp [hlk])
     repeat (first|(refine sR ?_; simp [hlk])|(refine sC ?_; simp [hlk])|(refine sX ?_; simp only [AU, ↓reduceIte]))
     refine Stop.of_d (hit _ _) ?_;simp [hget,hput];refine ⟨by have h1:(⟨#[109]⟩:ByteArray).size=1:=rfl; omega,?_⟩;try refine ⟨hlk,?_⟩
     try (simp [hget,hput,hwk])
     repeat (first|(refine sR ?_; simp [hget,hput,hwk])|(refine sC ?_; simp [hget,hput,hwk])|(refine sX ?_; simp only [AU, ↓reduceIte]))
     refine sE ?_;exact ⟨k+1,hlk,by omega,Weaks.mk htk.le rfl (by simp [ToL,lk,lb_at]) (by simp only [BoxL,lk_cons, ↓reduceIte,and_true]; exact ⟨_,rfl,mul_rt rfl hRm⟩)⟩
    ·have:k=out.length:=by omega
     subst this;have hll:=nmL_len out out.length;generalize nmL out out.length=F at *;try (simp)
     repeat (first|(refine sR ?_; simp)|(refine sC ?_; simp)|(refine sX ?_; simp only [AU, ↓reduceIte]))
     refine AL.weak (Weaks.mk (l':=[(3,I 0),(2,.msl (nb+7) 0 out.length 5)]) (loc':=[(7,rowsD (rCo F)++Z)]) htk.le rfl (by simp [ToL,lk,lb_at]) (by simp only [BoxL,lk_cons, ↓reduceIte,and_true]; exact ⟨_,rfl,mul_rt rfl hRm⟩)) ?_;refine AL.trans (Trans.sealD (l':=[(3,I 0),(2,.d (.sl 5 (rCo F)))]) (loc:=[]) (loc':=[]) 7 5 (rCo F) Z 2 rfl (fun e he=>by obtain ⟨c,_,rfl⟩:=List.mem_map.1 he; rfl) (by simp [tl_cons,hll]) rfl ⟨rfl,.same (by simp),rfl,by have:=@SpTo.msl (nb+7) 5 (rCo F); rw [List.length_map,hll] at this; exact this,trivial⟩ trivial) ?_;refine sN ?_;refine AL.ret ?_;try simp only [AU]
     exact ⟨by simp,(Fin.data (av:=.tup [.d (.sl 5 (rCo F)),I 0]) (by simp [resAs,resA]; rfl) hbox rfl htok hbt.old htk.le (by simp [packA])).mono fun v m hq=>⟨hq.2,.inl (by rw [hR2,hq.1])⟩⟩
 ·have hR:mulR t=([],bdR t):=by unfold mulR; rw [if_pos e0]
  have b:(bdR t != 0)=true:=by simp [e0]
  try (simp [b])
  repeat (first|(refine sR ?_; simp [b])|(refine sC ?_; simp [b])|(refine sX ?_; simp only [AU, ↓reduceIte]))
  refine sN ?_;refine AL.ret ?_;try simp only [AU]
  exact ⟨by simp,(Fin.data (av:=.tup [.osl 0 [] .full,I (bdR t)]) (by simp [resAs,resA]; rfl) hbox rfl htok (fun _ h=>h) (Nat.le_refl _) (by simp [packA])).mono fun v m hq=>⟨hq.2,.inr ⟨by rw [hR],by rw [hR,hq.1]⟩⟩⟩
abbrev b2s (l:List (Int × Int)):D:=.sl 2 (l.map fun x=>[u8 x.1,u8 x.2])
def U82 (l:List (Int × Int)):Prop:=∀ x∈l,(0≤x.1∧x.1<256)∧0≤x.2∧x.2<256
def abcS:ByteArray:=⟨#[65,66,67,68,69,70]⟩
def uvwS:ByteArray:=⟨#[117,118,119,120,121,122]⟩
def efgS:ByteArray:=⟨#[101,102,103,104,105]⟩
def offS:ByteArray:=⟨#[111,102,102]⟩
def onS:ByteArray:=⟨#[111,110]⟩
def mtO (i:Nat) (b:Int):List At:=if b % 4=1 then [⟨uvwS.extract i (i+1), -3,3+(b / 4) % 9,[]⟩] else if b % 4=2 then [⟨uvwS.extract i (i+1),0,1,[offS,onS]⟩] else []
def mtN (i:Nat) (x:Int × Int):NT:=⟨abcS.extract i (i+1),x.1 % (i+1) - 1,decide (x.1 / 16 % 4=3),mtO i x.2⟩
def mtNs (ns:List (Int × Int)) (i:Nat):List NT:=(List.range i).map fun j=>mtN j (ns.getD j (0,0))
def mtE (n:Nat) (j:Nat) (x:Int × Int):ET:=⟨efgS.extract j (j+1),x.1 % n,x.2 % n,0, -1,0, -1⟩
def mtEs (n:Nat) (es:List (Int × Int)) (i:Nat):List ET:=(List.range i).map fun j=>mtE n j (es.getD j (0,0))
def mtn (ns:List (Int × Int)):Nat:=max 1 (min ns.length 6)
def mtT (ns es:List (Int × Int)):Ty:=⟨mtNs ns (mtn ns),mtEs (mtn ns) es (min es.length 5)⟩
def stMa (ns es:List (Int × Int)) (nb:Nat) (box:Bxs) (x:Acc):AState :=
 ⟨tl [(6,I x.i),(0,.d (b2s ns)),(1,.d (b2s es)),(5,.ptr (nb+5) 0 0),(4,.ptr (nb+4) 0 0)],lb nb box [(5,[[.osl 4 ((mtNs ns x.i).map NT.cells) x.own,nilS]]),(4,[[nilS,nilS]])],x.tok,x.nt⟩
def stMb (ns es:List (Int × Int)) (n:Nat) (ND:List NT) (nb:Nat) (box:Bxs) (x:Acc):AState :=
 ⟨tl [(10,I x.i),(1,.d (b2s es)),(5,.ptr (nb+5) 0 0),(4,.ptr (nb+4) 0 0)],lb nb box [(5,[[.d (nts ND),.osl 7 ((mtEs n es x.i).map ET.cells) x.own]]),(4,[[nilS,nilS]])],x.tok,x.nt⟩
set_option maxRecDepth 100000 in
theorem madeT_c (ns es:List (Int × Int)) (h1:U82 ns) (h2:U82 es) (n1:ns.length≤200000000000000) (n2:es.length≤200000000000000) (tok:Tks) (nt:Nat):DCall Tryz.prog 42 [.d (b2s ns),.d (b2s es)] tok nt (mtT ns es).av tok nt:=by
 intro box nb;refine sI Tryz.func42 Tryz.ntmps42 fun hbox htok=>?_
 repeat (first|simp|refine sR ?_)
 refine sN ?_;refine AL.loopT (stMa ns es nb box) (fun x=>x.i≤mtn ns∧TK tok nt x.tok x.nt [x.own]) (fun x=>mtn ns - x.i) ⟨0,.full,tok,nt⟩ ⟨Nat.zero_le _,(TK.start htok).full⟩ (Weaks.mk (Nat.le_refl _) rfl (by simp [ToL,lk]) (by simp [BoxL,lk,mtNs])) ?_;rintro ⟨i,own,tok',nt'⟩ S ⟨hi,htk⟩ hS;simp only [stMa] at hS hi htk;subst hS;have h6:mtn ns≤6:=by unfold mtn; omega
 have hw:=sW (i:=i) (by omega);have hw2:IntKind.i64.wrap (↑i+1)=(i:Int)+1:=by rw [wrap_in (by omega) (by omega)]
 by_cases hc:i<mtn ns
 ·have hb0:i=0∨(i≠0∧i<ns.length∧i<6):=by unfold mtn at hc; omega
  have hx:∃ x:Int × Int,ns.getD i (0,0)=x:=⟨_,rfl⟩
  obtain ⟨x,hx⟩:=hx;have hxr:(0≤x.1∧x.1<256)∧0≤x.2∧x.2<256:=by
   by_cases hl:i<ns.length
   ·have:x=ns[i]:=by rw [←hx]; simp [hl]
    rw [this]; exact h1 _ (List.getElem_mem hl)
   ·have:x=(0,0):=by rw [←hx]; simp [hl]
    rw [this]; decide
  have hs:mtNs ns (i+1)=mtNs ns i++[mtN i x]:=by unfold mtNs; rw [List.range_succ,List.map_append,←hx]; rfl
  have hln:(mtNs ns i).length=i:=by simp [mtNs]
  have z1:(⟨#[65,66,67,68,69,70]⟩:ByteArray).size=6:=rfl
  have z2:(⟨#[117,118,119,120,121,122]⟩:ByteArray).size=6:=rfl
  have z3:i+1≤6:=by omega
  have z4:¬ (i:Int)+1=0:=by omega
  have z5:0≤(i:Int)+1:=by omega
  have e1:IntKind.i64.wrap x.1=x.1:=wrap_in (by omega) (by omega)
  have e2:x.1.tmod ((i:Int)+1)=x.1 % ((i:Int)+1):=Int.tmod_eq_emod_of_nonneg hxr.1.1
  have e2r:=Int.emod_nonneg x.1 (b:=(i:Int)+1) (by omega);have e2s:=Int.emod_lt_of_pos x.1 (b:=(i:Int)+1) (by omega);have e3:IntKind.i64.wrap (x.1 % ((i:Int)+1) - 1)=x.1 % ((i:Int)+1) - 1:=wrap_in (by omega) (by omega)
  have e4:x.1.tdiv 16=x.1 / 16:=Int.tdiv_eq_ediv_of_nonneg hxr.1.1
  have e4w:IntKind.u8.wrap (x.1 / 16)=x.1 / 16:=wrapU8 (by omega) (by omega)
  have e5:(x.1 / 16).tmod 4=x.1 / 16 % 4:=Int.tmod_eq_emod_of_nonneg (by omega)
  have f1:x.2.tmod 4=x.2 % 4:=Int.tmod_eq_emod_of_nonneg hxr.2.1
  have f2:x.2.tdiv 4=x.2 / 4:=Int.tdiv_eq_ediv_of_nonneg hxr.2.1
  have f2w:IntKind.u8.wrap (x.2 / 4)=x.2 / 4:=wrapU8 (by omega) (by omega)
  have f3:IntKind.i64.wrap (x.2 / 4)=x.2 / 4:=wrap_in (by omega) (by omega)
  have f4:(x.2 / 4).tmod 9=x.2 / 4 % 9:=Int.tmod_eq_emod_of_nonneg (by omega)
  have f5:IntKind.i64.wrap (3+x.2 / 4 % 9)=3+x.2 / 4 % 9:=wrap_in (by omega) (by omega)
  have key:AL Tryz.prog ⟨nb,nb+124,124,box⟩ nt=AL Tryz.prog ⟨nb,nb+124,124,box⟩ nt:=rfl
  rcases (by omega:(i=0∧¬ 0<ns.length)∨(i=0∧0<ns.length)∨i≠0) with ⟨h0,hl⟩|⟨h0,hl⟩|h0
  case' inl =>
   have hne:ns=[]:=List.length_eq_zero_iff.1 (by omega)
   have hx2:x=(0,0):=by rw [←hx,hne]; rfl
   have b0:((i:Int)==0)=true:=by simp [h0]
   refine sR ?_;simp [b0];refine sC ?_;simp;refine sR ?_;simp;have hlt:¬ i<ns.length:=by omega
   refine sR ?_;simp [hlt];refine sC ?_;simp
  case' inr.inl =>
   have hx2:ns[i]'(by omega)=x:=by rw [←hx]; simp [h0,hl]
   have b0:((i:Int)==0)=true:=by simp [h0]
   have hlt:i<ns.length:=by omega
   refine sR ?_;simp [b0];refine sC ?_;simp;refine sR ?_;simp;refine sR ?_;simp [hlt];refine sC ?_;simp;refine sR ?_;simp [hlt,hx2]
  case' inr.inr =>
   have hlt:i<ns.length:=by omega
   have h6i:(i:Int)<6:=by omega
   have hx2:ns[i]=x:=by rw [←hx]; simp [hlt]
   have b0:((i:Int)==0)=false:=by simp; omega
   refine sR ?_;simp [b0,hlt,h6i];refine sC ?_;simp;refine sR ?_;simp;refine sR ?_;simp [hlt];refine sC ?_;simp;refine sR ?_;simp [hlt,hx2]
  all_goals refine AL.weak (Weaks.mk (l':=[(6,I i),(0,.d (b2s ns)),(1,.d (b2s es)),(7,.ptr (nb+7) 0 0),(5,.ptr (nb+5) 0 0),(4,.ptr (nb+4) 0 0)]) (loc':=[(7,[[.d (u8 x.1),.d (u8 x.2)]]),(5,[[.osl 4 ((mtNs ns i).map NT.cells) own,nilS]]),(4,[[nilS,nilS]])]) htk.le rfl (by simp [ToL,lk]) (by simp [BoxL,lk,hx2])) ?_
  all_goals
   try (simp [hw2,e1,e2,e3,e4,e4w,e5,z1,z2,z3,z4,z5])
   repeat (first|(refine sR ?_; simp [hw2,e1,e2,e3,e4,e4w,e5,z1,z2,z3,z4,z5])|(refine sC ?_; simp [hw2,e1,e2,e3,e4,e4w,e5,z1,z2,z3,z4,z5])|(refine sX ?_; simp only [AU, ↓reduceIte]))
   by_cases c1:x.2 % 4=1
   ·try (simp [hw2,f1,f2,f2w,f3,f4,f5,c1,z2,z3,z5])
    repeat (first|(refine sR ?_; simp [hw2,f1,f2,f2w,f3,f4,f5,c1,z2,z3,z5])|(refine sC ?_; simp [hw2,f1,f2,f2w,f3,f4,f5,c1,z2,z3,z5])|(refine sX ?_; simp only [AU, ↓reduceIte]))
    refine ⟨⟨by omega,htk.live⟩,?_⟩;try (simp [hw])
    repeat (first|(refine sR ?_; simp [hw])|(refine sC ?_; simp [hw])|(refine sX ?_; simp only [AU, ↓reduceIte]))
    refine sE ?_;refine ⟨⟨i+1,_,_,_⟩,⟨hc,htk.app⟩,by simp only; omega,Weaks.mk htk.app.le rfl (by simp [ToL,lk]) ?_⟩;simp [BoxL,lk,hs,mtN,mtO,c1,NT.cells];refine to_snoc ?_ _;simp [dsub_one,atts,At.cells,strs,abcS,uvwS,beqD]
   by_cases c2:x.2 % 4=2
   ·try (simp [hw2,f1,c1,c2,z2,z3,z5])
    repeat (first|(refine sR ?_; simp [hw2,f1,c1,c2,z2,z3,z5])|(refine sC ?_; simp [hw2,f1,c1,c2,z2,z3,z5])|(refine sX ?_; simp only [AU, ↓reduceIte]))
    refine ⟨by decide,?_⟩;try (simp [hw2,f1,c1,c2,z2,z3,z5])
    repeat (first|(refine sR ?_; simp [hw2,f1,c1,c2,z2,z3,z5])|(refine sC ?_; simp [hw2,f1,c1,c2,z2,z3,z5])|(refine sX ?_; simp only [AU, ↓reduceIte]))
    refine ⟨⟨by omega,htk.live⟩,?_⟩;try (simp [hw])
    repeat (first|(refine sR ?_; simp [hw])|(refine sC ?_; simp [hw])|(refine sX ?_; simp only [AU, ↓reduceIte]))
    refine sE ?_;refine ⟨⟨i+1,_,_,_⟩,⟨hc,htk.app⟩,by simp only; omega,Weaks.mk htk.app.le rfl (by simp [ToL,lk]) ?_⟩;simp [BoxL,lk,hs,mtN,mtO,c1,c2,offS,onS,NT.cells];refine to_snoc ?_ _;simp [dsub_one,atts,At.cells,strs,abcS,uvwS,beqD]
   ·try (simp [hw2,f1,c1,c2,z2,z3,z5])
    repeat (first|(refine sR ?_; simp [hw2,f1,c1,c2,z2,z3,z5])|(refine sC ?_; simp [hw2,f1,c1,c2,z2,z3,z5])|(refine sX ?_; simp only [AU, ↓reduceIte]))
    refine ⟨⟨by omega,htk.live⟩,?_⟩;try (simp [hw])
    repeat (first|(refine sR ?_; simp [hw])|(refine sC ?_; simp [hw])|(refine sX ?_; simp only [AU, ↓reduceIte]))
    refine sE ?_;refine ⟨⟨i+1,_,_,_⟩,⟨hc,htk.app⟩,by simp only; omega,Weaks.mk htk.app.le rfl (by simp [ToL,lk]) ?_⟩;simp [BoxL,lk,hs,mtN,mtO,c1,c2,NT.cells];refine to_snoc ?_ _;simp [dsub_one,atts,At.cells,strs,abcS,uvwS,beqD]
 ·have:i=mtn ns:=by omega
  subst this;have hn1:1≤mtn ns:=by unfold mtn; omega
  have hb0:(¬ mtn ns<ns.length∨¬ mtn ns<6)∧((mtn ns:Int)==0)=false:=by
   refine ⟨by unfold mtn; omega,by simp; omega⟩
  have hln:(mtNs ns (mtn ns)).length=mtn ns:=by simp [mtNs]
  have hT:mtT ns es=⟨mtNs ns (mtn ns),mtEs (mtn ns) es (min es.length 5)⟩:=rfl
  obtain ⟨hb1,hb2⟩:=hb0;rw [hT];generalize mtNs ns (mtn ns)=ND at *;generalize mtn ns=n at *;rcases (by omega:¬ n<ns.length∨(n<ns.length∧¬ n<6)) with hb3|⟨hb3,hb4⟩
  case' inl =>
   try (simp [hb2,hb3])
   repeat (first|(refine sR ?_; simp [hb2,hb3])|(refine sC ?_; simp [hb2,hb3])|(refine sX ?_; simp only [AU, ↓reduceIte]))
  case' inr =>
   have hb5:¬ (n:Int)<6:=by omega
   try (simp [hb2,hb3,hb5])
   repeat (first|(refine sR ?_; simp [hb2,hb3,hb5])|(refine sC ?_; simp [hb2,hb3,hb5])|(refine sX ?_; simp only [AU, ↓reduceIte]))
  all_goals
   refine sN ?_;refine AL.loopT (stMb ns es n ND nb box) (fun x=>x.i≤min es.length 5∧TK tok nt x.tok x.nt [x.own]) (fun x=>min es.length 5 - x.i) ⟨0,.full,tok',nt'⟩ ⟨Nat.zero_le _,htk.tail.full⟩ (Weaks.mk htk.le rfl (by simp [ToL,lk]) (by simp [BoxL,lk,mtEs])) ?_;rintro ⟨j,own2,tok2,nt2⟩ S ⟨hj,htk2⟩ hS;simp only [stMb] at hS hj htk2;subst hS;have hwj:=sW (i:=j) (by omega);have hwj2:IntKind.i64.wrap (↑j+1)=(j:Int)+1:=by rw [wrap_in (by omega) (by omega)]
   by_cases hlj:j<min es.length 5
   ·have g1:j<es.length:=by omega
    have g2:(j:Int)<5:=by omega
    have hs:mtEs n es (j+1)=mtEs n es j++[mtE n j es[j]]:=by unfold mtEs; rw [List.range_succ,List.map_append]; simp [g1]
    have hle:(mtEs n es j).length=j:=by simp [mtEs]
    obtain ⟨⟨r1,r2⟩,r3,r4⟩:=h2 _ (List.getElem_mem g1);obtain ⟨y,hy⟩:∃ y,es[j]=y:=⟨_,rfl⟩
    rw [hy] at hs r1 r2 r3 r4;have z1:(⟨#[101,102,103,104,105]⟩:ByteArray).size=5:=rfl
    have z3:j+1≤5:=by omega
    have z4:¬ (n:Int)=0:=by omega
    have z5:0≤(j:Int)+1:=by omega
    have e1:IntKind.i64.wrap y.1=y.1:=wrap_in (by omega) (by omega)
    have e2:IntKind.i64.wrap y.2=y.2:=wrap_in (by omega) (by omega)
    have e3:y.1.tmod (n:Int)=y.1 % (n:Int):=Int.tmod_eq_emod_of_nonneg r1
    have e4:y.2.tmod (n:Int)=y.2 % (n:Int):=Int.tmod_eq_emod_of_nonneg r3
    have e5:=Int.emod_nonneg y.1 (b:=(n:Int)) (by omega);have e6:=Int.emod_lt_of_pos y.1 (b:=(n:Int)) (by omega);have e7:=Int.emod_nonneg y.2 (b:=(n:Int)) (by omega);have e8:=Int.emod_lt_of_pos y.2 (b:=(n:Int)) (by omega);have e9:IntKind.i64.wrap (y.1 % (n:Int))=y.1 % (n:Int):=wrap_in (by omega) (by omega)
    have e10:IntKind.i64.wrap (y.2 % (n:Int))=y.2 % (n:Int):=wrap_in (by omega) (by omega)
    try (simp [hwj2,g1,g2,hy,e1,e2,e3,e4,e9,e10,z1,z3,z4,z5,hln,hle])
    repeat (first|(refine sR ?_; simp [hwj2,g1,g2,hy,e1,e2,e3,e4,e9,e10,z1,z3,z4,z5,hln,hle])|(refine sC ?_; simp [hwj2,g1,g2,hy,e1,e2,e3,e4,e9,e10,z1,z3,z4,z5,hln,hle])|(refine sX ?_; simp only [AU, ↓reduceIte]))
    refine ⟨by omega,⟨by omega,htk2.live⟩,?_⟩;try (simp [hwj])
    repeat (first|(refine sR ?_; simp [hwj])|(refine sC ?_; simp [hwj])|(refine sX ?_; simp only [AU, ↓reduceIte]))
    refine sE ?_;refine ⟨⟨j+1,_,_,_⟩,⟨hlj,htk2.app⟩,by simp only; omega,Weaks.mk htk2.app.le rfl (by simp [ToL,lk]) ?_⟩;simp [BoxL,lk,hs,mtE,ET.cells];refine to_snoc ?_ _;simp [dsub_one,efgS]
   ·have:j=min es.length 5:=by omega
    subst this;rcases (by omega:¬ min es.length 5<es.length∨(min es.length 5<es.length∧¬ ((min es.length 5:Nat):Int)<5)) with g1|⟨g1,g2⟩
    case' inl =>
     generalize mtEs n es (min es.length 5)=ED at *;generalize min es.length 5=M at *;try (simp [g1])
     repeat (first|(refine sR ?_; simp [g1])|(refine sC ?_; simp [g1])|(refine sX ?_; simp only [AU, ↓reduceIte]))
    case' inr =>
     generalize mtEs n es (min es.length 5)=ED at *;generalize min es.length 5=M at *;try (simp [g1,g2])
     repeat (first|(refine sR ?_; simp [g1,g2])|(refine sC ?_; simp [g1,g2])|(refine sX ?_; simp only [AU, ↓reduceIte]))
    all_goals
     refine sT (sG hbox htok htk2.old htk2.le ?_);simp [packA, ]
theorem cvB_refl0 {R:AV→AV→Prop} (h:∀ x,R x x):∀ l:List (Nat × List (List AV)),CvB R l l
 | []=>trivial
 | (i,x)::l=>⟨rfl,⟨rfl,fun i h1 h2=>⟨rfl,fun j g1 g2=>h _⟩⟩,cvB_refl0 h l⟩
theorem attrsK_c (t:Ty) (ht:t.Fit) (hM:∀ i,(t.nd i).own.length≤1000):∀ (n i:Nat),i<n→i<t.nodes.length→(∀ j,j≤i→(t.nd j).par<j)→∀ (tok:Tks) (nt:Nat),∃ tok' nt' u,((∀ q,tok q=true→q<nt)→TK tok nt tok' nt' [.tok u]) ∧
  DCall Tryz.prog 212 [t.av,I i] tok nt (.stk u 4 ((atsL t i).map At.cells)) tok' nt'
 | 0,i,hi,_,_,_,_=>absurd hi (Nat.not_lt_zero _)
 | n+1,i,hi,hlt,hp,tok,nt=>by
  have hnd:=nd_at hlt;by_cases h0:0≤(t.nd i).par
  ·have hpi:=hp i (Nat.le_refl _);obtain ⟨tok1,nt1,o1,hk,hc⟩:=attrsK_c t ht hM n (t.nd i).par.toNat (by omega) (by omega) (fun j hj=>hp j (by omega)) tok nt;have hL:=atsL_up h0 (by omega);have hl1:=atsL_len hM (i+1) (t.nd i).par.toNat (by omega);have hl2:=hM i;have hb:((t.nd i).par.toNat+1) * 1000≤1000 * 1000:=Nat.mul_le_mul_right _ (by have:=ht.n; omega)
   refine ⟨_,_,nt1,fun h=>(hk h).app,?_⟩;rw [hL];rw [Int.toNat_of_nonneg h0] at hc;generalize atsL t (t.nd i).par.toNat=Q at *;rw [hnd] at h0 hc hl2 ⊢;intro box nb;have hc:=hc;refine sI Tryz.func212 Tryz.ntmps212 fun hbox htok=>?_
   have hkk:=hk htok;repeat (first|simp [hlt]|refine sR ?_)
   refine sC ?_;simp [h0];repeat (first|simp|refine sR ?_)
   refine Stop.of_d (hc) ?_;simp;repeat (first|simp [hlt]|refine sR ?_)
   refine ⟨⟨by omega,hkk.live⟩,?_⟩;refine sT ?_;try simp only [AU]
   exact ⟨by simp,(Fin.own (av:=.stk nt1 4 (Q.map At.cells++t.nodes[i].own.map At.cells)) (by simp [resAs,resA]; rfl) hbox rfl hkk.app.le (by simp [packA])).mono fun v m hq=>⟨by first|(rw [hq.1,List.map_append])|(rw [hq.1]; done)|(rw [hq.1]; simp),hq.2⟩⟩
  ·have hL:=atsL_top h0;have hl2:=hM i;refine ⟨_,_,nt+1,fun h=>(((TK.start h).full.app).app:TK _ _ _ _ _),?_⟩;rw [hL];rw [hnd] at h0 hl2 ⊢;intro box nb;refine sI Tryz.func212 Tryz.ntmps212 fun hbox htok=>?_
   have hkk:TK tok nt (upd tok nt true) (nt+1) [.tok nt]:=(TK.start htok).full.app
   repeat (first|simp [hlt]|refine sR ?_)
   refine sC ?_;simp [h0];refine AL.trans (Trans.opn (l':=[(14,.bot),(13,.bot),(6,.bot),(12,.bot),(11,.bot),(10,.bot),(9,.bot),(8,.bot),(7,.bot),(5,.stk nt 4 []),(4,.bot),(2,.ptr (nb+2) 0 0),(0,.bot),(1,I i)]) (loc':=[(2,[[.d (nts t.nodes),.d (ets t.edges)]])]) 4 (by simp [CvL]) (cvB_refl0 (fun _=>.same) _)) ?_;repeat (first|simp [hlt]|refine sR ?_)
   refine ⟨⟨by omega,hkk.live⟩,?_⟩;refine sT ?_;try simp only [AU]
   exact ⟨by simp,(Fin.own (av:=.stk (nt+1) 4 (t.nodes[i].own.map At.cells)) (by simp [resAs,resA]; rfl) hbox rfl (by omega) (by simp [packA])).mono fun v m hq=>⟨by rw [hq.1],hq.2⟩⟩
end Go.AM
