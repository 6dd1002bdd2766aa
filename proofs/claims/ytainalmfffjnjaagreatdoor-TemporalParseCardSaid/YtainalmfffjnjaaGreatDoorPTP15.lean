/-
 Parts of the proof, as merged from many texts: a machine over data, what the functions compute, plain laws.
-/
import Derived.Test.YtainalmfffjnjaaGreatDoorPTP14
import Derived.WalkKit
import Derived.ProofKit
import Derived.OpenShut
import Derived.ChangeStays
import Derived.SizedLaws
import Derived.Test.YtainalmfffjnjaaGreatDoorRows
import Derived.LaidMore
import Derived.ChangeBears2
set_option linter.unusedSimpArgs false
set_option linter.unusedVariables false
namespace Go.AM
open Go Go.ChangeShapes
open Go.Proofs.Tryz
variable {P:Program}
def Rd(w:World)(cs:List Value)(ds:List D):Prop:=cs.length=ds.length/\∀i (h1:i<cs.length) (h2:i<ds.length),RVd w.cell? (fun _=>True) ds[i] cs[i]
theorem Rd.append{w:World}{cs cs':List Value}{ds ds':List D}(h:Rd w cs ds)(k:Rd w cs' ds'):Rd w (cs++cs') (ds++ds'):=by
 refine⟨by simp[h.1,k.1],fun i h1 h2=>?_⟩;by_cases hi:i<cs.length
 .rw[List.getElem_append_left hi,List.getElem_append_left (by rw[<-h.1];exact hi)];exact h.2 i hi _
 .have hl:=h.1;rw[List.getElem_append_right (by omega),List.getElem_append_right (by omega)];have:=k.2 (i-cs.length) (by simp at h1;omega) (by have:=k.1;simp at h1;omega)
  simpa[hl] using this
theorem Rd.one{w:World}{c:Value}{d:D}(h:RVd w.cell? (fun _=>True) d c):Rd w [c] [d]:=⟨rfl,fun i h1 h2=>by
 have:i=0:=by simpa using h1
 subst this;exact h⟩
def Light{H:Type}(P:Program)(T:TypeId)(d:DataW H):Prop:=(d.weights P T).all (· <= reachBytes)=true
structure Rdr (P:Program) (T:TypeId) (α:Type) where
 enc:α->List D
 ok:α->Prop
 len:∀x,(enc x).length=P.cellsOf T
 sound:∀{H:Type} (e:TypeId × Value->H) (w:World) (base:Nat) (spare:Nat->Bool) (held:Bool) (fuel:Nat) (cs:List Value) (x:DataW H × List MemPlace),
  DataW.trod e P w base spare held fuel T cs=some x->∃y,Rd w cs (enc y)/\(Light P T x.1->ok y)
def Rdr.int{T:TypeId}{k:IntKind}(h:P.underlying T=some (.int k))(hc:P.cellsOf T=1):Rdr P T Int where
 enc n:=[.raw (.int k n)]
 ok n:=(Lit.int k n).wf=true
 len _:=by simp[hc]
 sound e w base spare held fuel cs x hx:=by
  cases fuel with
  | zero=>simp[DataW.trod] at hx
  | succ n =>
   unfold DataW.trod at hx;rw[h] at hx;split at hx<;>simp_all
   rename_i k' n' _;exact⟨n',Rd.one (.raw rfl),fun _=>hx.1.2⟩
theorem cells_spec{w:World}{base:Nat}{a:Addr}{n:Nat}{l:List Value}(h:w.cells? base a n=some l):l.length=n/\∀i (hi:i<l.length),w.cell? (a.add i)=some l[i]:=by
 unfold World.cells? at h;split at h
 .have h1:l.length=n:=by have:=mapM_some_length h;simpa using this
  refine⟨h1,fun i hi=>?_⟩;have hin:i<n:=by omega
  have:=mapM_some_get h i i (by simp[hin])
  rw[this];exact List.getElem?_eq_getElem hi
 .cases h
theorem light_slice{H:Type}{T E:TypeId}(h:P.underlying T=some (.slice E)){elems rest:List (DataW H)}(hl:Light P T (.slice elems rest)):elems.length*P.bytesOf E<=reachBytes/\∀d∈elems,Light P E d:=by
 unfold Light at hl ⊢;simp only[DataW.weights,h,List.all_cons,List.all_append,Bool.and_eq_true,decide_eq_true_eq] at hl;refine⟨Nat.le_trans (Nat.mul_le_mul_right _ (Nat.le_add_right _ _)) hl.1,?_⟩;have key:∀l:List (DataW H),(DataW.weightsAll P E l).all (· <= reachBytes)=true->∀d∈l,(d.weights P E).all (· <= reachBytes)=true:=by
  intro l;induction l with
  | nil=>intro _ d hd;simp at hd
  | cons x l ih =>
   intro hx d hd;simp only[DataW.weightsAll,List.all_append,Bool.and_eq_true] at hx;rcases List.mem_cons.1 hd with rfl|hd
   .exact hx.1
   .exact ih hx.2 d hd
 exact key elems hl.2.1
def Rdr.slice{T E:TypeId}{α:Type}(r:Rdr P E α)(h:P.underlying T=some (.slice E))(hc:P.cellsOf T=1):Rdr P T (List α) where
 enc l:=[.sl (P.cellsOf E) (l.map r.enc)]
 ok l:=(∀x∈l,r.ok x)/\l.length*P.bytesOf E<=reachBytes
 len _:=by simp[hc]
 sound e w base spare held fuel cs x hx:=by
  rcases DataW.trod_slice h hx with ⟨rfl,rfl⟩|⟨a,len,cap,elems,rest,n,rfl,rfl,rfl,hb,hl,hm,hel,hat,_⟩
  .exact⟨[],Rd.one (.sl (es:=[]) (fun _ _=>default) (nr _) (by decide) (by simp) (by simp) (by simp) (by simp)),fun _=>⟨by simp,by simp⟩⟩
  .have key:∀i (hi:i<elems.length),∃cs y,cs.length=P.cellsOf E/\(∀j (hj:j<cs.length),w.cell? (a.add (i*P.cellsOf E+j))=some cs[j])/\Rd w cs (r.enc y)/\(Light P E elems[i].1->r.ok y):=by
    intro i hi;have h1:=hat i (by omega);have h2:elems[i]?=some elems[i]:=List.getElem?_eq_getElem hi
    rw[h2,Option.bind_eq_some_iff] at h1;obtain⟨cs,hcs,htr⟩:=h1;obtain⟨hcl,hcc⟩:=cells_spec hcs;obtain⟨y,hy,hok⟩:=r.sound e w base spare held n cs _ htr;refine⟨cs,y,hcl,fun j hj=>?_,hy,hok⟩;rw[<-Addr.add_add];exact hcc j hj
   have pick:∀m,m<=elems.length->∃ys:List α,ys.length=m/\(∀i (hi:i<ys.length) (hi2:i<elems.length),∃cs,cs.length=P.cellsOf E/\(∀j (hj:j<cs.length),w.cell? (a.add (i*P.cellsOf E+j))=some cs[j])/\Rd w cs (r.enc ys[i])/\(Light P E elems[i].1->r.ok ys[i])):=by
    intro m;induction m with
    | zero=>intro _;exact⟨[],rfl,fun i hi=>by simp at hi⟩
    | succ m ih =>
     intro hm';obtain⟨ys,hys,hall⟩:=ih (by omega);obtain⟨cs,y,g1,g2,g3,g4⟩:=key m (by omega);refine⟨ys++[y],by simp[hys],fun i hi hi2=>?_⟩;by_cases him:i<ys.length
     .rw[List.getElem_append_left him];exact hall i him hi2
     .have:i=m:=by simp at hi;omega
      subst this;have e1:(ys++[y])[i]=y:=by
       rw[List.getElem_append_right (by omega)];simp
      rw[e1];exact⟨cs,g1,g2,g3,g4⟩
   obtain⟨ys,hys,hall⟩:=pick elems.length (nr _);refine⟨ys,Rd.one ?_,fun hli=>?_⟩
   .have hlen:len=ys.length:=by omega
    subst hlen;have hml:ys.length=(ys.map r.enc).length:=by simp
    rw[hml];refine .sl (fun i j=>(w.cell? (a.add (i*P.cellsOf E+j))).getD default) (by simpa using hl) hm (fun e he=>?_) (fun _=>⟨a,rfl⟩) (fun a' ha' i j hi hj=>?_) (fun i j hi hj=>?_)
    .obtain⟨y,_,rfl⟩:=List.mem_map.1 he;exact r.len y
    .cases ha'
     obtain⟨cs,g1,g2,_⟩:=hall i (by simpa using hi) (by simp at hi;omega);rw[g2 j (by omega)];exact⟨trivial,rfl⟩
    .obtain⟨cs,g1,g2,g3,_⟩:=hall i (by simpa using hi) (by simp at hi;omega);simp only[List.getElem_map] at hj ⊢;have hjc:j<cs.length:=by rw[g3.1];exact hj
     rw[g2 j hjc];exact g3.2 j hjc hj
   .obtain⟨w1,w2⟩:=light_slice h hli;refine⟨fun y hy=>?_,by simpa[hys] using w1⟩;obtain⟨i,hi,rfl⟩:=List.getElem_of_mem hy;obtain⟨_,_,_,_,h4⟩:=hall i hi (by omega);exact h4 (w2 _ (List.mem_map.2 ⟨_,List.getElem_mem _,rfl⟩))
def Rdr.map{T:TypeId}{α β:Type}(r:Rdr P T α)(f:α->β)(enc:β->List D)(ok:β->Prop)(he:∀x,enc (f x)=r.enc x)(hok:∀x,r.ok x->ok (f x))(hl:∀y,(enc y).length=P.cellsOf T):Rdr P T β where
 enc:=enc
 ok:=ok
 len:=hl
 sound e w base spare held fuel cs x hx:=by
  obtain⟨y,h1,h2⟩:=r.sound e w base spare held fuel cs x hx;exact⟨f y,by rw[he];exact h1,fun hl=>hok y (h2 hl)⟩
def G0:Gh:=⟨fun _=>none,fun _=>none,fun _=>.whole,0⟩
def m0:AMem:=⟨fun _=>none,0,fun _=>false,0⟩
theorem G0_ps(a:Addr):G0.ps a:=trivial
theorem relM_start(W:World)(hg:GlobOk G0 W:=by intro g cs h;simp[globD] at h):RelM G0 m0 W:=by
 constructor
 case glob=>exact hg
 case box=>intro k rows b sz h;cases h
 case nobox=>intro k _;rfl
 case inj=>intro k k' b sz sz' h;cases h
 case nb=>intro k _;rfl
 case nt=>rfl
 case toks=>intro t h;cases h
 case tokb=>intro t g h;cases h
 case tinj=>intro t t' g h;cases h
 case tnt=>intro t x h;cases h
 case fresh=>intro b _;rfl
theorem RVd.start{W:World}{d:D}{v:Value}(h:RVd W.cell? (fun _=>True) d v):RVd W.cell? G0.ps d v:=h.mono fun a u _ hc=>⟨G0_ps a,hc⟩
theorem Rdr.agg{T:TypeId}{α:Type}(r:Rdr P T α){W:World}{base base':Nat}{sp:Nat->Bool}{held:Bool}{H:Type}{enc:TypeId × Value->H}{v:Value}{d:DataW H}{p:List MemPlace}(hs:aggT P T=some true)(hv:Value.okWide P W .any base T v)(h:DataW.Trod enc P W base' sp held T v d p)(hli:Light P T d):∃y,r.ok y/\RV G0 W (.agg ((r.enc y).map .d)) v:=by
 have hcs:∃cs,v=.agg cs:=by
  unfold aggT at hs;unfold Value.okWide at hv;cases hu:P.underlying T with
  | none=>rw[hu] at hs;simp at hs
  | some u =>
   rw[hu] at hs hv;cases u<;>simp at hs hv<;>exact⟨_,hv.choose_spec.1⟩
 obtain⟨cs,rfl⟩:=hcs;obtain⟨fuel,h⟩:=h;obtain⟨y,⟨h1,h2⟩,hok⟩:=r.sound enc W base' sp held fuel _ _ h;refine⟨y,hok hli,?_⟩;simp only[Value.cells] at h1 h2;have:=RV.agg (G:=G0) (w:=W) (cs:=(r.enc y).map .d) (vs:=cs.toList) (by simp[h1]) (fun i g1 g2=>by
  simp only[List.getElem_map];exact .d (h2 i g2 (by simpa using g1)).start) (fun v hv=>by
  obtain⟨i,hi,rfl⟩:=List.getElem_of_mem hv;exact(h2 i hi (by omega)).one)
 simpa using this
theorem Rdr.cell{T:TypeId}{α:Type}(r:Rdr P T α){W:World}{base base':Nat}{sp:Nat->Bool}{held:Bool}{H:Type}{enc:TypeId × Value->H}{v:Value}{d:DataW H}{p:List MemPlace}(f:α->D)(hs:aggT P T=some false)(hf:∀y,r.enc y=[f y])(hv:Value.okWide P W .any base T v)(h:DataW.Trod enc P W base' sp held T v d p)(hli:Light P T d):∃y,r.ok y/\RV G0 W (.d (f y)) v:=by
 obtain⟨fuel,h⟩:=h;obtain⟨y,⟨h1,h2⟩,hok⟩:=r.sound enc W base' sp held fuel _ _ h;refine⟨y,hok hli,?_⟩;rw[hf] at h1;have hcs:v.cells.toList=[v]:=by
  cases v with
  | agg cs =>
   exfalso
   unfold aggT at hs;unfold Value.okWide Cell.okWide Cell.ok at hv;cases hu:P.underlying T with
   | none=>rw[hu] at hs;simp at hs
   | some u =>
    rw[hu] at hs hv;cases u<;>simp_all
  | _=>rfl
 have:=h2 0 (by rw[h1];simp) (by rw[hf];simp)
 simp only[hf,List.getElem_cons_zero] at this;have e:v.cells.toList[0]'(by rw[h1];simp)=v:=by simp[hcs]
 rw[e] at this;exact .d this.start
theorem light_arg{H:Type}{ts:List TypeId}{ds:List (DataW H)}(hz:(DataW.weightsEach P ts ds).all (· <= reachBytes)=true){j:Nat}{T:TypeId}{d:DataW H}(ht:ts[j]?=some T)(hd:ds[j]?=some d):Light P T d :=
 List.all_eq_true.2 fun x hx=>List.all_eq_true.1 hz x (DataW.weights_mem_each ht hd x hx)
theorem arg_cell{ps:Array TypeId}{args:Array Value}{W:World}{base base':Nat}{sp:Nat->Bool}{held:Bool}{H:Type}{enc:TypeId × Value->H}(hval:∀(j:Nat) t v,ps[j]?=some t->args[j]?=some v->Value.okWide P W .any base t v)(j:Nat)(T:TypeId)(v:Value)(hp:ps[j]?=some T)(ha:args[j]?=some v){α:Type}(r:Rdr P T α)(f:α->D){d:DataW H}{p:List MemPlace}(hs:aggT P T=some false)(hf:∀y,r.enc y=[f y])(h:DataW.Trod enc P W base' sp held T v d p)(hli:Light P T d):
  ∃y,r.ok y/\RV G0 W (.d (f y)) v:=r.cell f hs hf (hval j T v hp ha) h hli
theorem le_old{W W':World}{G':Gh}(h:Le G0 W G' W')(b:Nat)(hb:b<W.heap.size):W'.heap[b]?=W.heap[b]?:=(h.whole b hb rfl).2
theorem le_kept{W W':World}{G':Gh}(h:Le G0 W G' W')(may:MemPlace->Prop):W.keptBut W' may:=by
 refine⟨h.os,h.output,fun i hi=>?_⟩;rw[le_old h i hi];split
 .rename_i c t fr c' t' fr' e1 e2;rw[e1] at e2;cases e2;exact⟨rfl,rfl,rfl,fun _ _=>rfl⟩
 .rename_i e1 e2;rw[e1] at e2;cases e2;exact .inr ⟨rfl,rfl⟩
 .rfl
theorem le_same{W W':World}{G':Gh}(h:Le G0 W G' W'){p:MemPlace}(hp:p.block<W.heap.size):W.sameAt W' p:=by
 cases p with
 | cell b off=>exact World.cell?_of_block (w:=W) (a:=⟨b,off,none⟩) (le_old h b hp)
 | map b=>exact le_old h b hp
theorem trodAll_stays{H:Type}{enc:TypeId × Value->H}{W W':World}{T:TypeId->Prop}{sp':Nat->Bool}(K:Kids P T)(hsz:∀{t e:TypeId},T t->P.underlying t=some (.slice e)->0<P.cellsOf e):
  ∀{ts:List TypeId} {vs:List Value} {ds:List (DataW H)} {ps:List MemPlace},(∀t∈ts,T t)->DataW.TrodAll enc P W 0 (fun _=>true) true ts vs ds ps->(∀p∈ps,W.sameAt W' p)->(∀p∈ps,sp' p.block=true) ->
  DataW.TrodAll enc P W' 0 sp' true ts vs ds ps
 | [],[],[],_,_,h,_,_=>h
 | t::ts,v::vs,d::ds,_,hT,⟨p,q,⟨n,hn⟩,h2,e⟩,h3,h4=>by
  subst e;exact⟨p,q,⟨n,DataW.trod_stays K hsz (fun h=>by cases h) (hT t (by simp)) hn (fun x hx=>h3 x (by simp[hx])) (fun x hx=>h4 x (by simp[hx]))⟩,
   trodAll_stays K hsz (fun t ht=>hT t (by simp[ht])) h2 (fun x hx=>h3 x (by simp[hx])) (fun x hx=>h4 x (by simp[hx])),rfl⟩
theorem law_of{f:FuncId}{fn:Func}{s:ChangeSpec}{H:Type}{enc:TypeId × Value->H}{W:World}{args:Array Value}{ds:List (DataW H)}{before:List MemPlace}{avs:List AV}{tok':Nat->Bool}{nt':Nat}(hl:laidOutB P=true)(hm:mapsRowed P=true)(hz:((List.range P.types.size).all fun t=>match P.underlying t with|some (.slice e)=>decide (0<P.cellsOf e)|_=>true)=true)(hpar:fn.params.all (· < P.types.size)=true){tb:TypeId}(hres:fn.resultTypes = #[tb])(hb:P.underlying tb=some .bool)(hvars:s.vars=[])(hfn:s.fn H ds={ results:=[.lit (.bool true)],args:=ds })(hW:DataW.Whole enc P fn.params.toList s.vars false W args.toList ds [] before)(hr:RVs G0 W avs args.toList)(hc:DCall P f avs (fun _=>false) 0 (B true) tok' nt')(hgl:GlobOk G0 W:=by intro g cs h;simp[globD] at h):
  Calls P f args W fun e W'=>∃v,e=.returned v/\s.post enc P fn false true false false W args v W':=by
 have hcall:=(hc (fun _=>none) 0).2 G0 W args.toList (relM_start W hgl) hr;simp only[Array.toArray_toList] at hcall;refine hcall.mono ?_;rintro e W' ⟨v,av,m',G',rfl,⟨rfl,rfl⟩,_,_,hv,hle,_⟩;cases hv with
 | d hv =>
  cases hv with
  | raw =>
   refine⟨_,rfl,?_⟩;have hlt:=hW.lt;have hWW:=hW;obtain⟨p,q,hA,hV,rfl,hfz,hnd⟩:=hW;rw[hvars] at hV;obtain⟨_,rfl⟩:=trodVars_none hV;simp only[List.append_nil] at hlt hfz hWW ⊢;have hT:∀t∈fn.params.toList,t<P.types.size:=fun t ht=>by
    have:=Array.all_eq_true_iff_forall_mem.1 hpar t (by simpa using ht)
    simpa using this
   have hsz:∀{t e:TypeId},t<P.types.size->P.underlying t=some (.slice e)->0<P.cellsOf e:=by
    intro t e ht hu;have:=List.all_eq_true.1 hz t (List.mem_range.2 ht)
    rw[hu] at this;simpa using this
   have hargs:∀sp:Nat->Bool,(∀x∈p,sp x.block=true)->DataW.TrodAll enc P W' 0 sp true fn.params.toList args.toList ds p:=fun sp hsp =>
    trodAll_stays (kids_rows hl hm) hsz hT hA (fun x hx=>le_same hle (hlt x hx)) hsp
   have hnat:(Value.bool true).resultList fn.resultTypes.size=[.bool true]:=by rw[hres];rfl
   have hresb:∀(b:Nat) (sp:Nat->Bool) (hd:Bool),DataW.TrodAll enc P W' b sp hd fn.resultTypes.toList ((Value.bool true).resultList fn.resultTypes.size) [.lit (.bool true)] []:=fun b sp hd=>by
    rw[hnat,hres];exact trodAll_mk1 ⟨1,by simp[DataW.trod,hb,Value.cells]⟩
   have hfn':s.fn H (ds++[])={ results:=[.lit (.bool true)],args:=ds }:=by rw[List.append_nil];exact hfn
   refine⟨ds,[],p,[],p,[],hWW,?_,?_,?_,World.keptBut_mono (fun _ f=>f.elim) (le_kept hle fun _=>False),fun h=>by cases h⟩
   .rw[hfn'];exact hresb _ _ _
   .rw[hfn'];exact hargs _ fun x hx=>by simpa using hlt x hx
   .rw[hfn',hvars];exact rfl
open Go Go.Proofs
open Go.Proofs.Tryz
theorem own0:ownKnob prog.godebug=none:=by kernel_rfl
theorem laidOut0:laidOutB prog=true:=by kernel_rfl
theorem mapsRowed0:mapsRowed prog=true:=by kernel_rfl
theorem slices0:((List.range prog.types.size).all fun t=>match prog.underlying t with|some (.slice e)=>decide (0<prog.cellsOf e)|_=>true)=true:=by kernel_rfl
structure RdF (P:Program) (T:TypeId) {α:Type} (en:α->List D) (ok:α->Prop) (n:Nat):Prop where
 sound:∀{H:Type} (e:TypeId × Value->H) (w:World) (base:Nat) (spare:Nat->Bool) (held:Bool) (cs:List Value) (x:DataW H × List MemPlace),
  DataW.trod e P w base spare held n T cs=some x->∃y,Rd w cs (en y)/\(Light P T x.1->ok y)
theorem Rdr.f{P:Program}{T:TypeId}{α:Type}(r:Rdr P T α)(n:Nat):RdF P T r.enc r.ok n:=⟨fun e w base spare held cs x hx=>r.sound e w base spare held n cs x hx⟩
theorem RdF.zero{P:Program}{T:TypeId}{α:Type}{en:α->List D}{ok:α->Prop}:RdF P T en ok 0:=⟨fun e w base spare held cs x hx=>by simp[DataW.trod] at hx⟩
theorem RdF.slice{P:Program}{T E:TypeId}{α:Type}{en:α->List D}{ok:α->Prop}{n:Nat}(r:RdF P E en ok n)(k:Nat)(hk:P.cellsOf E=k)(hlen:∀x,(en x).length=k)(h:P.underlying T=some (.slice E)):
  RdF P T (fun l:List α=>[.sl k (l.map en)]) (fun l=>(∀x∈l,ok x)/\l.length*P.bytesOf E<=reachBytes) (n+1):=by
 subst hk;constructor
 intro H e w base spare held cs x hx;rcases DataW.trod_slice h hx with ⟨rfl,rfl⟩|⟨a,len,cap,elems,rest,n',hn',rfl,rfl,hb,hl,hm,hel,hat,_⟩
 .exact⟨[],Rd.one (.sl (es:=[]) (fun _ _=>default) (nr _) (by decide) (by simp) (by simp) (by simp) (by simp)),fun _=>⟨by simp,by simp⟩⟩
 .obtain rfl:n'=n:=by omega
  have key:∀i (hi:i<elems.length),∃cs y,cs.length=P.cellsOf E/\(∀j (hj:j<cs.length),w.cell? (a.add (i*P.cellsOf E+j))=some cs[j])/\Rd w cs (en y)/\(Light P E elems[i].1->ok y):=by
   intro i hi;have h1:=hat i (by omega);have h2:elems[i]?=some elems[i]:=List.getElem?_eq_getElem hi
   rw[h2,Option.bind_eq_some_iff] at h1;obtain⟨cs,hcs,htr⟩:=h1;obtain⟨hcl,hcc⟩:=cells_spec hcs;obtain⟨y,hy,hok⟩:=r.sound e w base spare held cs _ htr;refine⟨cs,y,hcl,fun j hj=>?_,hy,hok⟩;rw[<-Addr.add_add];exact hcc j hj
  have pick:∀m,m<=elems.length->∃ys:List α,ys.length=m/\(∀i (hi:i<ys.length) (hi2:i<elems.length),∃cs,cs.length=P.cellsOf E/\(∀j (hj:j<cs.length),w.cell? (a.add (i*P.cellsOf E+j))=some cs[j])/\Rd w cs (en ys[i])/\(Light P E elems[i].1->ok ys[i])):=by
   intro m;induction m with
   | zero=>intro _;exact⟨[],rfl,fun i hi=>by simp at hi⟩
   | succ m ih =>
    intro hm';obtain⟨ys,hys,hall⟩:=ih (by omega);obtain⟨cs,y,g1,g2,g3,g4⟩:=key m (by omega);refine⟨ys++[y],by simp[hys],fun i hi hi2=>?_⟩;by_cases him:i<ys.length
    .rw[List.getElem_append_left him];exact hall i him hi2
    .have:i=m:=by simp at hi;omega
     subst this;have e1:(ys++[y])[i]=y:=by
      rw[List.getElem_append_right (by omega)];simp
     rw[e1];exact⟨cs,g1,g2,g3,g4⟩
  obtain⟨ys,hys,hall⟩:=pick elems.length (nr _);refine⟨ys,Rd.one ?_,fun hli=>?_⟩
  .have hlen':len=ys.length:=by omega
   subst hlen';have hml:ys.length=(ys.map en).length:=by simp
   rw[hml];refine .sl (fun i j=>(w.cell? (a.add (i*P.cellsOf E+j))).getD default) (by simpa using hl) hm (fun e he=>?_) (fun _=>⟨a,rfl⟩) (fun a' ha' i j hi hj=>?_) (fun i j hi hj=>?_)
   .obtain⟨y,_,rfl⟩:=List.mem_map.1 he;exact hlen y
   .cases ha'
    obtain⟨cs,g1,g2,_⟩:=hall i (by simpa using hi) (by simp at hi;omega);rw[g2 j (by omega)];exact⟨trivial,rfl⟩
   .obtain⟨cs,g1,g2,g3,_⟩:=hall i (by simpa using hi) (by simp at hi;omega);simp only[List.getElem_map] at hj ⊢;have hjc:j<cs.length:=by rw[g3.1];exact hj
    rw[g2 j hjc];exact g3.2 j hjc hj
  .obtain⟨w1,w2⟩:=light_slice h hli;refine⟨fun y hy=>?_,by simpa[hys] using w1⟩;obtain⟨i,hi,rfl⟩:=List.getElem_of_mem hy;obtain⟨_,_,_,_,h4⟩:=hall i hi (by omega);exact h4 (w2 _ (List.mem_map.2 ⟨_,List.getElem_mem _,rfl⟩))
structure Gr.Big (g:Gr):Prop where
 n:g.nodes.length<=bigN
 e:g.edges.length<=bigN
def Cd.rowD(c:Cd):List D:=[.raw (.int .i64 c.kind),conds c.kids,ints c.m.nodes,ints c.m.edges,ints c.g.nodes,AM.edges c.g.edges,slots c.sl,.raw (.int .i64 c.vars),tests c.te]
abbrev Ch.cells(x:Ch):List D:=[.sl 1 (x.a.nodes.map fun n=>[u8 n]),.sl 3 (x.a.edges.map fun e=>[u8 e.1,u8 e.2.1,u8 e.2.2]),bytes x.b,bytes x.g,bytes x.c]
def Rdr.str{P:Program}{T:TypeId}(h:P.underlying T=some .string)(hc:P.cellsOf T=1):Rdr P T ByteArray where
 enc n:=[.raw (.string n)]
 ok n:=n.size<=maxLen
 len _:=by simp[hc]
 sound e w base spare held fuel cs x hx:=by
  cases fuel with
  | zero=>simp[DataW.trod] at hx
  | succ n =>
   unfold DataW.trod at hx;rw[h] at hx;split at hx<;>simp_all
   exact⟨_,Rd.one (.raw rfl),fun _=>hx.1⟩
def Rdr.bool{P:Program}{T:TypeId}(h:P.underlying T=some .bool)(hc:P.cellsOf T=1):Rdr P T Bool where
 enc n:=[.raw (.bool n)]
 ok n:=True
 len _:=by simp[hc]
 sound e w base spare held fuel cs x hx:=by
  cases fuel with
  | zero=>simp[DataW.trod] at hx
  | succ n =>
   unfold DataW.trod at hx;rw[h] at hx;split at hx<;>first|(simp_all;done)|skip
   exact⟨_,Rd.one (.raw rfl),fun _=>trivial⟩
def Ru.rowD(r:Ru):List D:=[.raw (.string r.name),ints r.lg.nodes,AM.edges r.lg.edges,slots r.lsl,.raw (.int .i64 r.lv),tests r.lte,ints r.rg.nodes,AM.edges r.rg.edges,slots r.rsl,.raw (.int .i64 r.rv),tests r.rte,
 ints r.k.nodes,ints r.k.edges,ints r.i.nodes,ints r.i.edges,.raw (.bool r.inj)]++r.c.cells
structure At.Big (a:At):Prop where
 n:a.name.size<=maxLen
 l:a.names.length<=bigN
 s:∀x∈a.names,x.size<=maxLen
structure NT.Big (x:NT):Prop where
 n:x.name.size<=maxLen
 l:x.own.length<=bigN
 a:∀y∈x.own,y.Big
structure Ty.Big (t:Ty):Prop where
 n:t.nodes.length<=bigN
 e:t.edges.length<=bigN
 nn:∀x∈t.nodes,x.Big
 en:∀x∈t.edges,x.name.size<=maxLen
structure Xt.Big (x:Xt):Prop where
 mn:x.m.nodes.length<=bigN
 me:x.m.edges.length<=bigN
 g:x.g.Big
structure Co.Big (c:Co):Prop where
 name:c.name.size<=maxLen
 g:c.g.Big
 n:c.exts.length<=bigN
 exts:∀x∈c.exts,x.Big
def Co.rowD(c:Co):List D:=[.raw (.string c.name),.raw (.int .i64 c.kind),ints c.g.nodes,AM.edges c.g.edges,xts c.exts]
def Rdr.strR{P:Program}{T:TypeId}(h:P.underlying T=some .string)(hc:P.cellsOf T=1):Rdr P T ByteArray where
 enc n:=[.raw (.string n)]
 ok n:=n.size<=reachBytes
 len _:=by simp[hc]
 sound e w base spare held fuel cs x hx:=by
  cases fuel with
  | zero=>simp[DataW.trod] at hx
  | succ n =>
   unfold DataW.trod at hx;rw[h] at hx;split at hx<;>simp_all
   refine⟨_,Rd.one (.raw rfl),fun hli=>?_⟩;obtain⟨_,rfl⟩:=hx;have:=hli
   simp[Light,DataW.weights] at this;exact this
def rdStrR:Rdr prog 9 ByteArray:=Rdr.strR underlying9 (by kernel_rfl)
theorem rch50:reachBytes=140737488351232:=rfl
structure Qf where
 f:Fo
 l:List Co
abbrev Qf.av(q:Qf):AV:=.agg [I q.f.kind,Sb q.f.name,.d (fos q.f.kids),.d (cosD q.l)]
structure Qf.Big (q:Qf):Prop where
 f:q.f.Sm
 n:q.l.length<=bigN
 l:∀c∈q.l,c.Big
structure Dr50 where
 cs:List Int
 ar:List (Int × Int)
structure Dr50.Big (d:Dr50):Prop where
 cs:U8s d.cs
 ar:∀a∈d.ar,(0<=a.1/\a.1<256)/\0<=a.2/\a.2<256
 n:d.cs.length<=200000000000000
 m:d.ar.length<=200000000000000
abbrev Dr50.av(d:Dr50):AV:=.agg [.d (bytes d.cs),.d (prU d.ar)]
set_option maxRecDepth 100000 in
theorem arg_text{ps:Array TypeId}{args:Array Value}{W:World}{base base':Nat}{sp:Nat->Bool}{held:Bool}{H:Type}{enc:TypeId × Value->H}(hval:∀(j:Nat) t v,ps[j]?=some t->args[j]?=some v->Value.okWide prog W .any base t v)(j:Nat)(v:Value)(hp:ps[j]?=some 9)(ha:args[j]?=some v){d:DataW H}{p:List MemPlace}(h:DataW.Trod enc prog W base' sp held 9 v d p)(hli:Light prog 9 d):∃s:ByteArray,s.size<=200000000000000/\RV G0 W (Sb s) v:=by
 refine Exists.elim (arg_cell hval j 9 v hp ha rdStrR (fun s=>.raw (.string s)) aggT_9 (fun _=>rfl) h hli) fun s hs=>⟨s,?_,hs.2⟩
 have h2:s.size<=reachBytes:=hs.1
 rw[rch50] at h2;omega
end Go.AM
namespace Go.Proofs.YtainalmfffjnjaaGreatDoor
open Go Go.AM Go.ChangeShapes
open Go.Proofs.Tryz
theorem str_of{P:Program}{T:TypeId}(hT:P.underlying T=some .string){w:World}{base fuel:Nat}{sp:Nat->Bool}{held:Bool}{H:Type}{enc:TypeId × Value->H}{v:Value}{bs:List UInt8}{q:List MemPlace}(h:DataW.trod enc P w base sp held fuel T [v]=some (.lit (.string bs),q)):v=.string ⟨bs.toArray⟩:=by
 cases fuel with
 | zero=>simp[DataW.trod] at h
 | succ n =>
  unfold DataW.trod at h;rw[hT] at h;cases v<;>simp at h
  rw[<-h.2.1]
theorem words_ds:(Rows.laid_scarfjoint_temporal_words:DataW Unit)=.slice (wordsL.map fun s=>.lit (.string s.data.toList)) []:=by
 unfold Rows.laid_scarfjoint_temporal_words wordsL;rfl
theorem words_glob{W:World}(h:laidMetH prog [("scarfjoint/temporal.words",Rows.laid_scarfjoint_temporal_words)] W):GlobOk G0 W:=by
 obtain⟨ps,⟨g,t,cs,fuel,p,q,hg,ht,hv,htr,hq,hps⟩,hnd,hcell⟩:=(show laidMet prog [("scarfjoint/temporal.words",Rows.laid_scarfjoint_temporal_words)] W from h);obtain rfl:1=g:=Option.some.inj ((show prog.globalNamed "scarfjoint/temporal.words" = some 1 by kernel_rfl).symm.trans hg);obtain rfl:130=t:=Option.some.inj ((show (prog.globals[1]?).map (·.type)=some 130 by kernel_rfl).symm.trans ht);rw[words_ds] at htr;obtain⟨a,cap,hcs,hcap,hel⟩:=open_row underlying130 (by kernel_rfl) htr;have hmax:cap<=maxLen:=by
  rcases DataW.trod_slice underlying130 htr with ⟨_,hx⟩|⟨a',len,cap',elems,rest,n,_,hcs',hx,_,_,hm,_,_,_,_⟩
  .simp at hx
  .rw[hcs] at hcs';simp only[List.cons.injEq,Value.slice.injEq,and_true] at hcs';omega
 have hc0:W.cell? ⟨1,0,none⟩=some (.slice (some a) 10 cap):=by
  rw[var?_cell hg hv 0,<-Array.getElem?_toList,hcs];rfl
 have hc1:∀i (hi:i<wordsL.length),W.cell? (a.add i)=some (.string wordsL[i]):=fun i hi=>by
  obtain⟨v,n,q,h1,h2⟩:=hel i _ (by rw[List.getElem?_map,List.getElem?_eq_getElem hi];rfl);rw[h1,str_of underlying9 h2]
 intro g cs' hgd;unfold globD at hgd;split at hgd
 .rename_i e;subst e;cases hgd;refine⟨fun _=>.slice (some a) 10 cap,fun j hj=>⟨G0_ps _,?_⟩,fun j hj=>?_⟩
  .have:j=0:=by simp at hj;omega
   subst this;exact hc0
  .have:j=0:=by simp at hj;omega
   subst this;refine RVd.sl (es:=wordsL.map fun s=>[.raw (.string s)]) (fun i _=>.string (wordsL.getD i ⟨#[]⟩)) hcap hmax ?_ (fun _=>⟨a,rfl⟩) ?_ ?_
   .intro e he;obtain⟨s,_,rfl⟩:=List.mem_map.1 he;rfl
   .intro b hb i j hi hj;cases hb;have:j=0:=by omega
    subst this;have hi2:i<wordsL.length:=by simpa using hi
    refine⟨G0_ps _,?_⟩;rw[Nat.mul_one,Nat.add_zero,hc1 i hi2];simp[hi2]
   .intro i j hi hj;have hi2:i<wordsL.length:=by simpa using hi
    have:j=0:=by simp at hj;omega
    subst this;simp only[List.getElem_map,List.getElem_cons_zero];rw[show wordsL.getD i ⟨#[]⟩=wordsL[i] by simp[hi2]];exact .raw rfl
 .cases hgd
end Go.Proofs.YtainalmfffjnjaaGreatDoor
