import Derived.Test.YtchfmhhbiealcaaGreatDoorPIB3
set_option linter.unusedSimpArgs false
set_option linter.unusedVariables false
namespace Go.AM
open Go
variable {P:Program}
def aKQ(P:Program)(op:BinOp)(T:TypeId):Value->Value->Option (Prop × Value)
 | .int k a,.int k' b=>match op with
  | .shr=>some (0<=b,.int k (a.fdiv (2 ^ min b.toNat k.bits)))
  | _=>match decide (k=k') with
   | true=>match op with
    | .lss=>some (True,.bool (decide (a<b)))
    | .leq=>some (True,.bool (decide (a<=b)))
    | .gtr=>some (True,.bool (decide (b<a)))
    | .geq=>some (True,.bool (decide (b<=a)))
    | .eql=>some (True,.bool (a==b))
    | .neq=>some (True,.bool (a != b))
    | .add=>some (True,.int k (k.wrap (a+b)))
    | .sub=>some (True,.int k (k.wrap (a-b)))
    | .mul=>some (True,.int k (k.wrap (a*b)))
    | .quo=>some (b≠0,.int k (k.wrap (a.tdiv b)))
    | .rem=>some (b≠0,.int k (a.tmod b))
    | .and=>some (True,.int k (k.wrap (BitVec.ofInt k.bits a &&& BitVec.ofInt k.bits b).toNat))
    | _=>none
   | false=>none
 | .bool a,.bool b=>match aJ P T,op with
  | true,.eql=>some (True,.bool (a==b))
  | true,.neq=>some (True,.bool (!(a==b)))
  | _,_=>none
 | .string a,.string b=>match op with
  | .eql=>some (True,.bool (a.toList==b.toList))
  | .neq=>some (True,.bool !(a.toList==b.toList))
  | .lss=>some (True,.bool (Op.bytesLess a.toList b.toList))
  | .add=>some (a.size+b.size<=1000000000000,.string (a++b))
  | _=>none
 | .agg xs,.agg ys=>match eqT P T,pS xs.toList,pS ys.toList with
  | some n,some k9,some bs=>match op with
   | .eql=>some (k9.length=n/\bs.length=n,.bool (decide (k9=bs)))
   | .neq=>some (k9.length=n/\bs.length=n,.bool (!decide (k9=bs)))
   | _=>none
  | _,_,_=>none
 | _,_=>none
theorem aEh{op:BinOp}{T:TypeId}{a b r:Value}{φ:Prop}(h:aKQ P op T a b=some (φ,r))(hφ:φ):eK P op T a b r:=by
 unfold aKQ at h;split at h
 .rename_i k a k' b;split at h
  .simp only[ad,aw] at h;obtain⟨rfl,rfl⟩:=h;exact(aK6 T k a b _ hφ).2 rfl
  .split at h
   .rename_i hk;have jv:k=k':=by simpa using hk
    subst jv;split at h<;>simp only[ad,aw,reduceCtorEq] at h<;>obtain⟨rfl,rfl⟩:=h
    .simp
    .simp
    .simp
    .simp
    .simp
    .simp
    .simp
    .simp
    .simp
    .exact(aKL T k a b _ hφ).2 rfl
    .exact(aKc T k a b _ hφ).2 rfl
    .exact(aKr T k a b _).2 rfl
   .cases h
 .rename_i a b;split at h
  .rename_i hb;simp only[ad,aw] at h;obtain⟨_,rfl⟩:=h;exact aHG hb a b
  .rename_i hb;simp only[ad,aw] at h;obtain⟨_,rfl⟩:=h;exact aKa hb a b
  .cases h
 .rename_i a b;split at h
  .simp only[ad,aw] at h;obtain⟨_,rfl⟩:=h;exact aJs a b
  .simp only[ad,aw] at h;obtain⟨_,rfl⟩:=h;exact aJD a b
  .simp only[ad,aw] at h;obtain⟨_,rfl⟩:=h;exact aHI a b
  .simp only[ad,aw] at h;obtain⟨rfl,rfl⟩:=h;exact aJZ a b hφ
  .cases h
 .rename_i xs ys;split at h
  .rename_i n k9 bs h1 h2 h3;have hx:xs=(k9.map (Value.int .i64)).toArray:=by rw[<-mV h2]
   have hy:ys=(bs.map (Value.int .i64)).toArray:=by rw[<-mV h3]
   subst hx;subst hy;split at h
   .simp only[ad,aw] at h;obtain⟨rfl,rfl⟩:=h;refine⟨rfl,fun x y w=>?_⟩;obtain⟨g1,g2,g3,g4⟩:=aD2 h1 hφ.1 hφ.2 x y w;simp only[ax,g1,aj,g3]
   .simp only[ad,aw] at h;obtain⟨rfl,rfl⟩:=h;refine⟨rfl,fun x y w=>?_⟩;obtain⟨g1,g2,g3,g4⟩:=aD2 h1 hφ.1 hφ.2 x y w;simp only[ax,g2,aj,g4]
   .cases h
  .cases h
 .cases h
def unF(op:UnOp):Value->Option Value
 | .bool t=>match op with
  | .not=>some (.bool (!t))
  | _=>none
 | _=>none
theorem aGT{op:UnOp}{a r:Value}(h:unF op a=some r):aK7 P op a r:=by
 unfold unF at h;split at h
 .cases op<;>simp only[ad,reduceCtorEq] at h
  subst h;simp
 .cases h
def aLy(P:Program)(T:TypeId):AV->Option AV
 | .msl _ _ n _=>match aF P T with
  | some _=>some (.d (.raw (.int .i64 n)))
  | none=>none
 | .d (.raw (.string s))=>match aY P T with
  | true=>some (.d (.raw (.int .i64 s.size)))
  | false=>none
 | .d (.sl _ es)=>match aF P T with
  | some _=>some (.d (.raw (.int .i64 es.length)))
  | none=>none
 | .osl _ es _=>match aF P T with
  | some _=>some (.d (.raw (.int .i64 es.length)))
  | none=>none
 | .stk _ _ es=>match aF P T with
  | some _=>some (.d (.raw (.int .i64 es.length)))
  | none=>none
 | .que _ _ es=>match aF P T with
  | some _=>some (.d (.raw (.int .i64 es.length)))
  | none=>none
 | _=>none
theorem aEf{T:TypeId}{x v:AV}(h:aLy P T x=some v):lenOf P T x v:=by
 unfold aLy at h;unfold lenOf;split at h
 .split at h<;>simp_all
 .split at h<;>simp_all
 .split at h<;>simp_all
 .split at h<;>simp_all
 .split at h<;>simp_all
 .split at h<;>simp_all
 .cases h
def aKJ(P:Program)(T:TypeId)(x:AV)(n:Int):Option (Prop × AV):=match aW P T,x with
 | some (_,sz,_),.msl k off len sz'=>some (0<=n/\n<len/\sz'=sz,.ptr k (off+n.toNat) 0)
 | some (_,sz,_),.d (.sl _ es)=>some (0<=n/\n<es.length/\(es.getD n.toNat []).length=sz,.cptr (es.getD n.toNat []) 0)
 | some (_,sz,_),.osl _ es _=>some (0<=n/\n<es.length/\(es.getD n.toNat []).length=sz,.cptr (es.getD n.toNat []) 0)
 | some (_,sz,_),.que _ _ es=>some (0<=n/\n<es.length/\(es.getD n.toNat []).length=sz,.cptr (es.getD n.toNat []) 0)
 | none,.cptr cs off=>match qC P T with
  | some (len,E)=>match aT P E with
   | some sz=>some (0<=n/\n<len,.cptr cs (off+n.toNat*sz))
   | none=>none
  | none=>none
 | none,.ptr k i off=>match qC P T with
  | some (len,E)=>match aT P E with
   | some sz=>some (0<=n/\n<len,.ptr k i (off+n.toNat*sz))
   | none=>none
  | none=>none
 | _,_=>none
theorem yA{α:Type}{l:List α}{n:Int}{d:α}(h0:0<=n)(h:n<l.length):l[n.toNat]?=some (l.getD n.toNat d):=by
 have:n.toNat<l.length:=by omega
 simp[this]
theorem aEL{T:TypeId}{x v:AV}{n:Int}{φ:Prop}(h:aKJ P T x n=some (φ,v))(hφ:φ):idxOf P T x n v:=by
 unfold aKJ at h;split at h
 .rename_i hr;simp only[ad,aw] at h;obtain⟨rfl,rfl⟩:=h;simp only[idxOf,hr];exact⟨hφ.1,hφ.2.1,hφ.2.2,by first|rfl|trivial⟩
 .rename_i hr;simp only[ad,aw] at h;obtain⟨rfl,rfl⟩:=h;simp only[idxOf,hr];exact⟨hφ.1,_,yA hφ.1 hφ.2.1,hφ.2.2,rfl⟩
 .rename_i hr;simp only[ad,aw] at h;obtain⟨rfl,rfl⟩:=h;simp only[idxOf,hr];exact⟨hφ.1,_,yA hφ.1 hφ.2.1,hφ.2.2,rfl⟩
 .rename_i hr;simp only[ad,aw] at h;obtain⟨rfl,rfl⟩:=h;simp only[idxOf,hr];exact⟨hφ.1,_,yA hφ.1 hφ.2.1,hφ.2.2,rfl⟩
 .rename_i hr;split at h
  .rename_i ha;split at h
   .rename_i hs;simp only[ad,aw] at h;obtain⟨rfl,rfl⟩:=h;simp only[idxOf,hr,ha,hs];exact⟨hφ.1,hφ.2,by first|rfl|trivial⟩
   .cases h
  .cases h
 .rename_i hr;split at h
  .rename_i ha;split at h
   .rename_i hs;simp only[ad,aw] at h;obtain⟨rfl,rfl⟩:=h;simp only[idxOf,hr,ha,hs];exact⟨hφ.1,hφ.2,by first|rfl|trivial⟩
   .cases h
  .cases h
 .cases h
def gK(ρ:Operand->AV)(o:Option Operand)(d:Nat):Option (Prop × Nat):=match o with
 | none=>some (True,d)
 | some x=>match ρ x with
  | .d (.raw (.int _ n))=>some (0<=n,n.toNat)
  | _=>none
theorem bM{ρ:Operand->AV}{o:Option Operand}{d n:Nat}{φ:Prop}(h:gK ρ o d=some (φ,n))(hφ:φ):dK ρ o d n:=by
 unfold gK at h;split at h
 .simp only[ad,aw] at h;exact h.2.symm
 .rename_i x;split at h
  .rename_i k m hx;simp only[ad,aw] at h;obtain⟨rfl,rfl⟩:=h;simp only[dK,hx];omega
  .cases h
def aBq(P:Program)(T:TypeId)(ρ:Operand->AV)(x:AV)(lo hi mx:Option Operand):Option (Prop × AV):=match x with
 | .msl k off n sz=>match aW P T,mx,gK ρ lo 0,gK ρ hi n with
  | some (_,sz',_),none,some (φ,l),some (ψ,h)=>some (sz'=sz/\φ/\ψ/\l<=h/\h<=n/\(l<n∨l=0),.msl k (off+l) (h-l) sz)
  | _,_,_,_=>none
 | .stk t sz es=>match aW P T,lo,gK ρ hi es.length with
  | some (_,sz',_),none,some (ψ,h)=>match mx with
   | none=>some (sz'=sz/\ψ/\h<=es.length,.stk t sz (es.take h))
   | some _=>match hi,gK ρ mx 0 with
    | some _,some (χ,m)=>some (sz'=sz/\ψ/\h=0/\χ/\m=0,.osl sz [] .full)
    | _,_=>none
  | _,_,_=>none
 | .que t sz es=>match aW P T,hi,mx,gK ρ lo 0 with
  | some (_,sz',_),none,none,some (φ,l)=>some (sz'=sz/\φ/\l<=es.length,.que t sz (es.drop l))
  | _,_,_,_=>none
 | .d (.raw (.string s))=>match aY P T,mx,gK ρ lo 0,gK ρ hi s.size with
  | true,none,some (φ,l),some (ψ,h)=>some (φ/\ψ/\l<=h/\h<=s.size,.d (.raw (.string (s.extract l h))))
  | _,_,_,_=>none
 | x=>match aW P T,x.elems? with
  | some (_,sz,_),some (sz',es)=>match gK ρ lo 0,gK ρ hi es.length with
   | some (φ,l),some (ψ,h)=>match mx with
    | none=>some ((sz'=sz∨es=[])/\φ/\ψ/\l<=h/\h<=es.length,.d (.sl sz ((es.take h).drop l)))
    | some _=>match hi,gK ρ mx 0 with
     | some _,some (χ,m)=>some ((sz'=sz∨es=[])/\φ/\ψ/\χ/\m=h/\l<=h/\h<=es.length,.osl sz ((es.take h).drop l) .full)
     | _,_=>none
   | _,_=>none
  | _,_=>none
theorem zD{T:TypeId}{ρ:Operand->AV}{x v:AV}{lo hi mx:Option Operand}(B4:∀k off n sz,x=.msl k off n sz->False)(wl:∀t sz es,x=.stk t sz es->False)(An:∀t sz es,x=.que t sz es->False)(uo:∀s,x=.d (.raw (.string s))->False):dG P T ρ x lo hi mx v↔match aW P T,x.elems? with
  | some (_,sz,_),some (sz',es)=>∃l q,(sz'=sz∨es=[])/\dK ρ lo 0 l/\dK ρ hi es.length q/\l<=q/\q<=es.length /\
    (match mx with
     | none=>v=.d (.sl sz ((es.take q).drop l))
     | some _=>hi.isSome=true/\dK ρ mx 0 q/\v=.osl sz ((es.take q).drop l) .full)
  | _,_=>False:=by
 unfold dG;split
 .rename_i k off n sz;exact absurd rfl (B4 k off n sz)
 .rename_i t sz es;exact absurd rfl (wl t sz es)
 .rename_i t sz es;exact absurd rfl (An t sz es)
 .rename_i s;exact absurd rfl (uo s)
 .rfl
theorem aBE{T:TypeId}{ρ:Operand->AV}{x v:AV}{lo hi mx:Option Operand}{φ:Prop}(h:aBq P T ρ x lo hi mx=some (φ,v))(hφ:φ):dG P T ρ x lo hi mx v:=by
 unfold aBq at h;split at h
 .rename_i k off n sz;split at h
  .rename_i E sz' by' φ1 l ψ1 hh hT h1 h2
   simp only[ad,aw] at h;obtain⟨rfl,rfl⟩:=h;simp only[dG,hT];exact⟨hφ.1,by first|rfl|trivial,l,hh,bM h1 hφ.2.1,bM h2 hφ.2.2.1,hφ.2.2.2.1,hφ.2.2.2.2.1,hφ.2.2.2.2.2,by first|rfl|trivial⟩
  .cases h
 .rename_i t sz es;split at h
  .rename_i E sz' by' ψ1 hh hT h2
   split at h
   .simp only[ad,aw] at h;obtain⟨rfl,rfl⟩:=h;simp only[dG,hT];exact⟨hφ.1,by first|rfl|trivial,hh,bM h2 hφ.2.1,hφ.2.2,by first|rfl|trivial⟩
   .split at h
    .rename_i χ m h3;simp only[ad,aw] at h;obtain⟨rfl,rfl⟩:=h;obtain⟨g1,g2,rfl,g4,rfl⟩:=hφ;simp only[dG,hT];exact⟨g1,by first|rfl|trivial,0,bM h2 g2,ai _,by first|rfl|trivial,rfl,bM h3 g4,by first|rfl|trivial⟩
    .cases h
  .cases h
 .rename_i t sz es;split at h
  .rename_i E sz' by' φ1 l hT h1
   simp only[ad,aw] at h;obtain⟨rfl,rfl⟩:=h;simp only[dG,hT];exact⟨hφ.1,by first|rfl|trivial,by first|rfl|trivial,l,bM h1 hφ.2.1,hφ.2.2,by first|rfl|trivial⟩
  .cases h
 .rename_i s;split at h
  .rename_i φ1 l ψ1 hh hT h1 h2;simp only[ad,aw] at h;obtain⟨rfl,rfl⟩:=h;simp only[dG];exact⟨hT,by first|rfl|trivial,l,hh,bM h1 hφ.1,bM h2 hφ.2.1,hφ.2.2.1,hφ.2.2.2,by first|rfl|trivial⟩
  .cases h
 .rename_i B4 wl An uo;rw[zD B4 wl An uo];split at h
  .rename_i E sz by' sz' es hr he
   split at h
   .rename_i φ1 l ψ1 hh h1 h2;split at h
    .simp only[ad,aw] at h;obtain⟨rfl,rfl⟩:=h;exact⟨l,hh,hφ.1,bM h1 hφ.2.1,bM h2 hφ.2.2.1,hφ.2.2.2.1,hφ.2.2.2.2,rfl⟩
    .split at h
     .rename_i χ m h3;simp only[ad,aw] at h;obtain⟨rfl,rfl⟩:=h;obtain⟨g1,g2,g3,g4,rfl,g6,g7⟩:=hφ;exact⟨l,_,g1,bM h1 g2,bM h2 g3,g6,g7,rfl,bM h3 g4,rfl⟩
     .cases h
   .cases h
  .cases h
def lZ(P:Program)(T:TypeId):Option IntKind:=match P.underlying T with
 | some (.int k)=>some k
 | _=>none
def aFz(P:Program)(s t:TypeId):Value->Option Value
 | .int _ n=>match lZ P s,lZ P t with
  | some _,some k=>some (.int k (k.wrap n))
  | _,_=>none
 | _=>none
theorem wK{T:TypeId}{k:IntKind}(h:lZ P T=some k):P.underlying T=some (.int k):=by
 unfold lZ at h;split at h
 .cases h;assumption
 .cases h
theorem aCI{s t:TypeId}{a r:Value}(h:aFz P s t a=some r):aEg P s t a r:=by
 unfold aFz at h;split at h
 .rename_i k n;split at h
  .rename_i ks kt h1 h2;cases h;exact(aHW k n _ (by rw[wK h1];rfl) (wK h2)).2 rfl
  .cases h
 .cases h
def fN(P:Program)(base:Nat)(o:Oper)(ρ:Operand->AV):Option (Prop × AV):=match o.op with
 | .move x=>some (True,ρ x)
 | .assign x=>some (True,ρ x)
 | .pick c a b=>match ρ c with
  | .d (.raw (.bool t))=>some (True,match t with|true=>ρ a|false=>ρ b)
  | _=>none
 | .alloc _=>match o.dst with
  | some s=>some (True,.ptr (base+s) 0 0)
  | none=>none
 | .build T parts=>match yT P T,aH P T with
  | some pl,some zs=>match qP pl (zs.map cF) (parts.toList.map fun p=>(p.1,ρ p.2)) with
   | some cs=>some (True,.agg cs)
   | none=>none
  | _,_=>none
 | .buildSlice T len parts=>match aW P T,nU (parts.toList.map fun p=>ρ p.2) with
  | some (_,sz,_),some rows=>some (parts.toList.map (·.1)=List.range len/\(∀r∈rows,r.length=sz)/\len*sz<=16777216,.osl sz rows .full)
  | _,_=>none
 | .nilCheck x=>match ρ x with
  | .ptr k i off=>some (True,.ptr k i off)
  | .cptr cs off=>some (True,.cptr cs off)
  | .fn (.func f) caps=>some (True,.fn (.func f) caps)
  | _=>none
 | .binOp op T x y _=>match iA (ρ x),iA (ρ y) with
  | some a,some b=>match aKQ P op T a b with
   | some (φ,r)=>some (φ,.d (.raw r))
   | none=>none
  | _,_=>none
 | .unOp op _ x=>match iA (ρ x) with
  | some a=>match unF op a with
   | some r=>some (True,.d (.raw r))
   | none=>none
  | none=>none
 | .convert s t x=>match iA (ρ x) with
  | some a=>match aFz P s t a with
   | some r=>some (True,.d (.raw r))
   | none=>none
  | none=>none
 | .makeFunc fn first caps=>match first.toList with
  | []=>some (True,.fn fn (caps.toList.map ρ))
  | _=>none
 | .fieldAddr T x f=>match aO P T with
  | some pl=>match pl[f]?,ρ x with
   | some (off,n+1),.cptr cs o'=>some (True,.cptr cs (o'+off))
   | some (off,n+1),.ptr k i o'=>some (True,.ptr k i (o'+off))
   | _,_=>none
  | none=>none
 | .field T x f=>match aB P T f,ρ x with
  | some (ft,off),.agg cs=>match aX P ft,aT P ft with
   | some ag,some n=>match rB ag n cs off with
    | some v=>some (True,v)
    | none=>none
   | _,_=>none
  | _,_=>none
 | .indexAddr T x i=>match ρ i with
  | .d (.raw (.int _ n))=>aKJ P T (ρ x) n
  | _=>none
 | .index T x i=>match aY P T,ρ x,ρ i with
  | true,.d (.raw (.string s)),.d (.raw (.int _ n))=>some (0<=n/\n<s.size,.d (.raw (.int .u8 (s.data.toList.getD n.toNat 0).toNat)))
  | _,_,_=>none
 | .extract t i=>match ρ t with
  | .tup vs=>match vs[i]? with
   | some v=>some (True,v)
   | none=>none
  | _=>none
 | .slice T x lo hi mx=>aBq P T ρ (ρ x) lo hi mx
 | .call c=>match c.callee,c.args.toList.map ρ,c.argTypes.toList with
  | .builtin .len,[x],[T]=>match aLy P T x with
   | some v=>some (True,v)
   | none=>none
  | .builtin .min,[.d (.raw (.int k a)),.d (.raw (.int _ b))],_=>some (True,.d (.raw (.int k (min a b))))
  | .builtin .max,[.d (.raw (.int k a)),.d (.raw (.int _ b))],_=>some (True,.d (.raw (.int k (max a b))))
  | .builtin .min,[.d (.raw (.string a)),.d (.raw (.string b))],_=>some (True,.d (.raw (.string (if Op.bytesLess a.toList b.toList||a.toList==b.toList then a else b))))
  | _,_,_=>none
 | _=>none
theorem aDh(ts:Array TypeId)(t:TypeId)(k k':IntKind)(a b:Int):oD P .min ts t [.int k a,.int k' b] (.int k (min a b)):=by
 refine⟨rfl,fun cs w=>?_⟩;have e:min a b=if b<a then b else a:=by omega
 rw[e];simp[builtin,Builtin.min_,Builtin.min2]
theorem aD4(ts:Array TypeId)(t:TypeId)(k k':IntKind)(a b:Int):oD P .max ts t [.int k a,.int k' b] (.int k (max a b)):=by
 refine⟨rfl,fun cs w=>?_⟩;have e:max a b=if b>a then b else a:=by omega
 rw[e];simp[builtin,Builtin.max_,Builtin.max2]
theorem aBX(ts:Array TypeId)(t:TypeId)(a b:ByteArray):oD P .min ts t [.string a,.string b] (.string (if Op.bytesLess a.toList b.toList||a.toList==b.toList then a else b)):=by
 refine⟨rfl,fun cs w=>?_⟩;simp[builtin,Builtin.min_,Builtin.min2,Op.stringOp,asBool]
theorem aJB{base:Nat}{o:Oper}{ρ:Operand->AV}{φ:Prop}{v:AV}(h:fN P base o ρ=some (φ,v))(hφ:φ):aBf P base o ρ v:=by
 unfold fN at h;unfold aBf;split at h
 .rename_i x ho;simp only[ad,aw] at h;simp only[ho];exact h.2.symm
 .rename_i x ho;simp only[ad,aw] at h;simp only[ho];exact h.2.symm
 .rename_i c a b ho;split at h
  .rename_i t hc;simp only[ad,aw] at h;simp only[ho,hc];exact h.2.symm
  .cases h
 .rename_i T ho;split at h
  .rename_i s hs;simp only[ad,aw] at h;simp only[ho,hs];exact h.2.symm
  .cases h
 .rename_i T parts ho;split at h
  .rename_i pl zs h1 h2;split at h
   .rename_i cs h3;simp only[ad,aw] at h;simp only[ho,h1,h2,h3];exact h.2.symm
   .cases h
  .cases h
 .rename_i T len parts ho;split at h
  .rename_i E sz by' rows h1 h2
   simp only[ad,aw] at h;obtain⟨rfl,rfl⟩:=h;simp only[ho,h1,h2];exact⟨hφ.1,hφ.2.1,hφ.2.2,by first|rfl|trivial⟩
  .cases h
 .rename_i x ho;split at h
  .rename_i k i off hx;simp only[ad,aw] at h;simp only[ho,hx];exact h.2.symm
  .rename_i cs off hx;simp only[ad,aw] at h;simp only[ho,hx];exact h.2.symm
  .rename_i f caps hx;simp only[ad,aw] at h;simp only[ho,hx];exact h.2.symm
  .cases h
 .rename_i op T x y T2 ho;split at h
  .rename_i a b ha hb;split at h
   .rename_i ψ r hr;simp only[ad,aw] at h;obtain⟨rfl,rfl⟩:=h;simp only[ho,ha,hb];exact⟨r,aEh hr hφ,rfl⟩
   .cases h
  .cases h
 .rename_i op T x ho;split at h
  .rename_i a ha;split at h
   .rename_i r hr;simp only[ad,aw] at h;obtain⟨rfl,rfl⟩:=h;simp only[ho,ha];exact⟨r,aGT hr,rfl⟩
   .cases h
  .cases h
 .rename_i s t x ho;split at h
  .rename_i a ha;split at h
   .rename_i r hr;simp only[ad,aw] at h;obtain⟨rfl,rfl⟩:=h;simp only[ho,ha];exact⟨r,aCI hr,rfl⟩
   .cases h
  .cases h
 .rename_i fn first caps ho;split at h
  .rename_i hf;simp only[ad,aw] at h;simp only[ho];exact⟨hf,h.2.symm⟩
  .cases h
 .rename_i T x f ho;split at h
  .rename_i pl mg;split at h
   .rename_i off n cs o' h1 h2;simp only[ad,aw] at h;simp only[ho,mg,h1,h2];exact⟨Nat.succ_ne_zero n,h.2.symm⟩
   .rename_i off n k i o' h1 h2;simp only[ad,aw] at h;simp only[ho,mg,h1,h2];exact⟨Nat.succ_ne_zero n,h.2.symm⟩
   .cases h
  .cases h
 .rename_i T x f ho;split at h
  .rename_i ft off cs h1 h2;split at h
   .rename_i ag n h3 h4;split at h
    .rename_i v' h5;simp only[ad,aw] at h;simp only[ho,h1,h2,h3,h4];rw[h5,h.2]
    .cases h
   .cases h
  .cases h
 .rename_i T x i ho;split at h
  .rename_i k n hi;simp only[ho,hi];exact aEL h hφ
  .cases h
 .rename_i T x i ho;split at h
  .rename_i s k n h1 h2 h3;simp only[ad,aw] at h;obtain⟨rfl,rfl⟩:=h;simp only[ho,h2,h3];have hs:n.toNat<s.size:=by omega
   refine⟨h1,hφ.1,s[n.toNat],by rw[getElem?_pos s n.toNat hs],?_⟩;have e:s.data.toList.getD n.toNat 0=s[n.toNat]:=by
    have:n.toNat<s.data.toList.length:=by simpa using hs
    rw[ao,ab this];rfl
   rw[e]
  .cases h
 .rename_i t i ho;split at h
  .rename_i vs ht;split at h
   .rename_i v' hv;simp only[ad,aw] at h;simp only[ho,ht];rw[hv,h.2]
   .cases h
  .cases h
 .rename_i T x lo hi mx ho;simp only[ho];exact aBE h hφ
 .rename_i c ho;split at h
  .rename_i x T h1 h2 h3;split at h
   .rename_i v' hv;simp only[ad,aw] at h;obtain⟨_,rfl⟩:=h;simp only[ho,h1,h2,h3];exact aEf hv
   .cases h
  .rename_i k a k' b h1 h2;simp only[ad,aw] at h;obtain⟨_,rfl⟩:=h;simp only[ho,h1,h2,gP,iA];exact⟨_,aDh _ _ _ _ _ _,rfl⟩
  .rename_i k a k' b h1 h2;simp only[ad,aw] at h;obtain⟨_,rfl⟩:=h;simp only[ho,h1,h2,gP,iA];exact⟨_,aD4 _ _ _ _ _ _,rfl⟩
  .rename_i a b h1 h2;simp only[ad,aw] at h;obtain⟨_,rfl⟩:=h;simp only[ho,h1,h2,gP,iA];exact⟨_,aBX _ _ _ _,rfl⟩
  .cases h
 .cases h
end Go.AM
