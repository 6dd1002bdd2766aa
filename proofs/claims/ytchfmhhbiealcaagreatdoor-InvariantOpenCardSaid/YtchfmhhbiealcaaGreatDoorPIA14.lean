/-
 Parts of the proof, as merged from many texts: a machine over data, what the functions compute, plain laws.
-/
import Derived.Test.YtchfmhhbiealcaaGreatDoorPIA13
import Derived.Shelf.Small.Strs
import Derived.Shelf.Strconv.Itoa0
import Derived.Shelf.Strconv.Itoa1
import Derived.Shelf.Strconv.Itoa2
import Derived.Shelf.Strconv.Itoa3
import Derived.Shelf.LaysM
import Derived.Ground.Names2Prog
import Derived.Test.YtchfmhhbiealcaaGreatDoorProg
set_option linter.unusedSimpArgs false
set_option linter.unusedVariables false
namespace Go.AM
open Go Go.Proofs
open Go.Proofs.Tryz
def gwN(ns cs:List Int)(i:Nat):List Int:=((cs.take i).drop 1).foldl (fun s c=>if c % 2=1 then s++[c / 2 % 3] else s) ns
def gwE(n:Nat)(es:List E)(cs:List Int)(i:Nat):List E:=((cs.take i).drop 4).foldl (fun s c=>s++[⟨c % 2,c / 2 % n,c / 16 % n⟩]) es
theorem aAe{l:List Int}{i k:Nat}(h:i<l.length)(hk:k<=i):(l.take (i+1)).drop k=(l.take i).drop k++[l[i]]:=by
 rw[List.take_succ_eq_append_getElem h,List.drop_append_of_le_length (by simp;omega)]
theorem aIm{ns cs:List Int}{i:Nat}(h:i<cs.length)(h1:1<=i):gwN ns cs (i+1)=if cs[i] % 2=1 then gwN ns cs i++[cs[i] / 2 % 3] else gwN ns cs i:=by
 rw[gwN,aAe h h1,List.foldl_append];rfl
theorem aHl{n:Nat}{es:List E}{cs:List Int}{i:Nat}(h:i<cs.length)(h1:4<=i):gwE n es cs (i+1)=gwE n es cs i++[⟨cs[i] % 2,cs[i] / 2 % n,cs[i] / 16 % n⟩]:=by
 rw[gwE,aAe h h1,List.foldl_append];rfl
def gwG(g:Gr)(cs:List Int):Gr :=
 ⟨gwN g.nodes cs (min cs.length 4),if (gwN g.nodes cs (min cs.length 4)).length=0 then g.edges else gwE (gwN g.nodes cs (min cs.length 4)).length g.edges cs (min cs.length 8)⟩
def mkL(b:Nat->Bool)(n:Nat):List Int:=((List.range n).filter b).map fun (k:Nat)=>(k:Int)
theorem uN{b:Nat->Bool}{n:Nat}{x:Int}:x∈mkL b n↔∃k:Nat,k<n/\b k=true/\(k:Int)=x:=by
 simp only[mkL,List.mem_map,List.mem_filter,List.mem_range];constructor
 .rintro⟨k,⟨h1,h2⟩,h3⟩;exact⟨k,h1,h2,h3⟩
 .rintro⟨k,h1,h2,h3⟩;exact⟨k,⟨h1,h2⟩,h3⟩
theorem aJg(b:Nat->Bool)(n:Nat):(mkL b n).Pairwise (· < ·):=by
 unfold mkL;rw[List.pairwise_map];refine List.Pairwise.filter _ (List.Pairwise.imp (R:=(· < ·)) (fun h=>by omega) List.pairwise_lt_range)
def lsN(g:Gr)(bn be:Nat->Bool)(i k:Nat):Bool:=bn k||(List.range i).any fun (j:Nat)=>be j&&(decide ((g.edges.getD j default).fr=(k:Int))||decide ((g.edges.getD j default).to=(k:Int)))
def aOU(g:Gr)(bn be:Nat->Bool):Mo:=⟨mkL (lsN g bn be g.edges.length) g.nodes.length,mkL be g.edges.length⟩
theorem aJC{g:Gr}{bn be:Nat->Bool}(hv:vG g=0):VP g (aOU g bn be):=by
 refine⟨hv,fun x hx=>?_,fun x hx=>?_,jG (aJg _ _),jG (aJg _ _),fun x hx=>?_⟩
 .obtain⟨k,hk,_,rfl⟩:=uN.1 hx;omega
 .obtain⟨k,hk,_,rfl⟩:=uN.1 hx;omega
 .obtain⟨k,hk,hb,rfl⟩:=uN.1 hx;obtain⟨b1,b2,b3,b4⟩:=aE hv (g.edges.getD k default) (aR hk);have key:∀y:Int,0<=y->y<g.nodes.length->((g.edges.getD k default).fr=y∨(g.edges.getD k default).to=y)->y∈mkL (lsN g bn be g.edges.length) g.nodes.length:=fun y h0 h1 h=>by
   refine uN.2 ⟨y.toNat,by omega,?_,by omega⟩;unfold lsN;rw[Bool.or_eq_true,List.any_eq_true];refine .inr ⟨k,List.mem_range.2 hk,?_⟩;rw[hb,show ((y.toNat:Nat):Int)=y by omega];simpa using h
  rw[Int.toNat_natCast];exact⟨key _ b1 b2 (.inl rfl),key _ b3 b4 (.inr rfl)⟩
structure Gw (l g:Gr) (n m:Nat):Prop where
 ex:∃T U,g.nodes=l.nodes++T/\g.edges=l.edges++U/\T.length<=n/\U.length<=m/\(∀a∈T,0<=a/\a<3)/\∀e∈U,(0<=e.ty/\e.ty<2)/\(0<=e.fr/\e.fr<g.nodes.length)/\0<=e.to/\e.to<g.nodes.length
theorem Gw.refl(l:Gr):Gw l l 0 0:=⟨[],[],by simp,by simp,by simp,by simp,by simp,by simp⟩
theorem Gw.mono{l g:Gr}{n m n' m':Nat}(h:Gw l g n m)(h1:n<=n')(h2:m<=m'):Gw l g n' m':=by
 obtain⟨T,U,k1,k2,k3,k4,k5,k6⟩:=h.ex;exact⟨T,U,k1,k2,by omega,by omega,k5,k6⟩
theorem Gw.len{l g:Gr}{n m:Nat}(h:Gw l g n m):l.nodes.length<=g.nodes.length/\g.nodes.length<=l.nodes.length+n/\g.edges.length<=l.edges.length+m:=by
 obtain⟨T,U,k1,k2,k3,k4,k5,k6⟩:=h.ex;rw[k1,k2,List.length_append,List.length_append];omega
theorem Gw.pre{l g:Gr}{n m:Nat}(h:Gw l g n m)(hv:vG l=0)(h1:l.nodes.length+n<=40)(h2:l.edges.length+m<=80):Pre l g:=by
 have hl:=h.len;obtain⟨T,U,k1,k2,k3,k4,k5,k6⟩:=h.ex;obtain⟨v0,v1,v2⟩:=bG hv;refine⟨hv,oF (by omega) (fun x hx=>?_) (fun e he=>?_),⟨T,k1⟩,⟨U,k2⟩⟩
 .rw[k1] at hx;rcases List.mem_append.1 hx with hx|hx
  .exact v1 x hx
  .have:=k5 x hx
   exact zC this.1 (by omega)
 .rw[k2] at he;rcases List.mem_append.1 he with he|he
  .have:=v2 e he
   rw[fC] at this ⊢;exact⟨this.1,by omega,by omega⟩
  .obtain⟨t1,t2,t3⟩:=k6 e he;rw[fC];exact⟨zC t1.1 (by omega),t2,t3⟩
structure InK (g:Gr):Prop where
 n:∀a∈g.nodes,0<=a/\a<3
 e:∀x∈g.edges,0<=x.ty/\x.ty<2
theorem aIw(x:Dr):InK (iG x):=by
 refine⟨fun a ha=>?_,fun e he=>?_⟩
 .simp only[iG,mN,List.mem_map] at ha;obtain⟨k,hk,rfl⟩:=ha;omega
 .simp only[iG] at he;split at he
  .simp at he
  .simp only[mE,List.mem_map] at he;obtain⟨k,hk,rfl⟩:=he;simp only;omega
theorem aHI(ns cs:List Int):∀i,∃T,gwN ns cs i=ns++T/\T.length<=i/\∀a∈T,0<=a/\a<3
 | 0=>⟨[],by simp[gwN],by simp,by simp⟩
 | i+1=>by
  obtain⟨T,h1,h2,h3⟩:=aHI ns cs i;by_cases h:i<cs.length
  .by_cases h0:1<=i
   .rw[aIm h h0];split
    .refine⟨T++[cs[i] / 2 % 3],by rw[h1,List.append_assoc],by simp;omega,fun a ha=>?_⟩;rcases List.mem_append.1 ha with ha|ha
     .exact h3 a ha
     .rw[List.mem_singleton.1 ha];omega
    .exact⟨T,h1,by omega,h3⟩
   .refine⟨[],?_,by simp,by simp⟩;rw[gwN,List.drop_eq_nil_of_le (by simp;omega)];simp
  .refine⟨T,?_,by omega,h3⟩;rw[<-h1];unfold gwN;rw[List.take_of_length_le (by omega),List.take_of_length_le (by omega)]
theorem aG0{n:Nat}(hn:0<n)(es:List E)(cs:List Int):∀i,∃U,gwE n es cs i=es++U/\U.length<=i/\∀e∈U,(0<=e.ty/\e.ty<2)/\(0<=e.fr/\e.fr<n)/\0<=e.to/\e.to<n
 | 0=>⟨[],by simp[gwE],by simp,by simp⟩
 | i+1=>by
  obtain⟨T,h1,h2,h3⟩:=aG0 hn es cs i;by_cases h:i<cs.length
  .by_cases h0:4<=i
   .rw[aHl h h0];refine⟨T++[⟨cs[i] % 2,cs[i] / 2 % n,cs[i] / 16 % n⟩],by rw[h1,List.append_assoc],by simp;omega,fun a ha=>?_⟩;rcases List.mem_append.1 ha with ha|ha
    .exact h3 a ha
    .rw[List.mem_singleton.1 ha];have hnz:(n:Int)≠0:=by omega
     have hp:(0:Int)<n:=by omega
     exact⟨by simp only;omega,⟨Int.emod_nonneg _ hnz,Int.emod_lt_of_pos _ hp⟩,Int.emod_nonneg _ hnz,Int.emod_lt_of_pos _ hp⟩
   .refine⟨[],?_,by simp,by simp⟩;rw[gwE,List.drop_eq_nil_of_le (by simp;omega)];simp
  .refine⟨T,?_,by omega,h3⟩;rw[<-h1];unfold gwE;rw[List.take_of_length_le (by omega),List.take_of_length_le (by omega)]
theorem aMR(g:Gr)(cs:List Int):Gw g (gwG g cs) 4 8:=by
 obtain⟨T,h1,h2,h3⟩:=aHI g.nodes cs (min cs.length 4);by_cases h0:(gwN g.nodes cs (min cs.length 4)).length=0
 .refine⟨T,[],h1,?_,by omega,by simp,h3,by simp⟩;simp only[gwG,if_pos h0,List.append_nil]
 .obtain⟨U,k1,k2,k3⟩:=aG0 (show 0<(gwN g.nodes cs (min cs.length 4)).length by omega) g.edges cs (min cs.length 8);refine⟨T,U,h1,?_,by omega,by omega,h3,k3⟩;simp only[gwG,if_neg h0];exact k1
open Go Go.Proofs Go.ChangeShapes
open Go.Proofs.Tryz
abbrev Ch.cells(x:Ch):List D:=[.sl 1 (x.a.nodes.map fun n=>[u8 n]),.sl 3 (x.a.edges.map fun e=>[u8 e.1,u8 e.2.1,u8 e.2.2]),bytes x.b,bytes x.g,bytes x.c]
structure Dx where
 left:Dr
 keep:Int
 more:List Int
structure Dx.U8 (x:Dx):Prop where
 l:x.left.U8
 m:U8s x.more
 ml:x.more.length<=200000000000000
 nl:x.left.nodes.length<=200000000000000
 el:x.left.edges.length<=200000000000000
structure Scn where
 r:Dx
 codes:List Int
 more:List Int
structure Scn.U8 (x:Scn):Prop where
 r:x.r.U8
 c:U8s x.codes
 m:U8s x.more
 ml:x.more.length<=200000000000000
abbrev u64(n:Int):D:=.raw (.int .u64 n)
abbrev Dx.cells(x:Dx):List D:=[.sl 1 (x.left.nodes.map fun n=>[u8 n]),.sl 3 (x.left.edges.map fun e=>[u8 e.1,u8 e.2.1,u8 e.2.2]),u64 x.keep,bytes x.more]
abbrev Scn.cells(x:Scn):List D:=[.sl 1 (x.r.left.nodes.map fun n=>[u8 n]),.sl 3 (x.r.left.edges.map fun e=>[u8 e.1,u8 e.2.1,u8 e.2.2]),u64 x.r.keep,bytes x.r.more,bytes x.codes,bytes x.more]
abbrev Dx.av(x:Dx):AV:=.agg [.d (.sl 1 (x.left.nodes.map fun n=>[u8 n])),.d (.sl 3 (x.left.edges.map fun e=>[u8 e.1,u8 e.2.1,u8 e.2.2])),.d (u64 x.keep),.d (bytes x.more)]
abbrev Scn.av(x:Scn):AV:=.agg [.d (.sl 1 (x.r.left.nodes.map fun n=>[u8 n])),.d (.sl 3 (x.r.left.edges.map fun e=>[u8 e.1,u8 e.2.1,u8 e.2.2])),.d (u64 x.r.keep),.d (bytes x.r.more),.d (bytes x.codes),.d (bytes x.more)]
def aOZ(S:Int)(j:Nat):Bool:=(IntKind.u64.wrap ((((S.fdiv (2 ^ min (((j:Int) % 64)).toNat IntKind.u64.bits) % 2 ^ IntKind.u64.bits).toNat &&& (1 % 2 ^ IntKind.u64.bits):Nat):Int))==1)
def Dx.dr(x:Dx):Dr:=⟨x.left.nodes.take (min x.left.nodes.length 3),x.left.edges.take (min x.left.edges.length 3)⟩
def Dx.g(x:Dx):Gr:=iG x.dr
def aRc(g:Gr)(S:Int):Mo:=aOU g (aOZ S) (fun j=>aOZ S (g.nodes.length+j))
def Dx.k(x:Dx):Mo:=aRc x.g x.keep
def Dx.cs(x:Dx):List Int:=255::x.more.take (min x.more.length 6)
def Dx.right(x:Dx):Gr:=gwG (exG x.g x.k) x.cs
def Dx.sp(x:Dx):Sp:=⟨x.g,x.right,x.k,idM (exG x.g x.k)⟩
def scS(g:Gr)(a b c:Int):Gr :=
 ⟨if a % 2=0 then g.nodes++[b % 3] else g.nodes,if 0<(if a % 2=0 then g.nodes++[b % 3] else g.nodes).length/\0<a % 3 then g.edges++[⟨a / 8 % 2,b / 4 % (if a % 2=0 then g.nodes++[b % 3] else g.nodes).length,c % (if a % 2=0 then g.nodes++[b % 3] else g.nodes).length⟩] else g.edges⟩
def scK(g:Gr)(cs:List Int):Nat->Gr
 | 0=>g
 | j+1=>scS (scK g cs j) (cs.getD (3*j) 0) (cs.getD (3*j+1) 0) (cs.getD (3*j+2) 0)
def scN(cs:List Int):Nat:=min 3 (cs.length / 3)
def Scn.g(x:Scn):Gr:=scK x.r.g x.more (scN x.more)
structure Dx.Ok (x:Dx):Prop where
 v:vG x.g=0
 i:InK x.g
 n:x.g.nodes.length<=3
 e:x.g.edges.length<=3
 k:VP x.g x.k
 w:Gw (exG x.g x.k) x.right 4 8
theorem Dx.U8.dr{x:Dx}(h:x.U8):x.dr.U8:=⟨fun k hk=>h.l.n k (List.mem_of_mem_take hk),fun k hk=>h.l.e k (List.mem_of_mem_take hk)⟩
theorem Dx.U8.cs{x:Dx}(h:x.U8):U8s x.cs:=fun k hk=>by
 rcases List.mem_cons.1 hk with rfl|hk
 .exact⟨by decide,by decide⟩
 .exact h.m k (List.mem_of_mem_take hk)
theorem Dx.ok{x:Dx}(h:x.U8):x.Ok:=by
 have hv:=aCh h.dr;have hl:x.g.nodes.length<=3/\x.g.edges.length<=3:=by
  refine⟨by simp only[Dx.g,Dx.dr,iG,aEl,List.length_take];omega,?_⟩;have hl:x.dr.edges.length<=3:=by simp only[Dx.dr,List.length_take];omega
  simp only[Dx.g,iG];by_cases h0:x.dr.nodes.length=0
  .rw[if_pos h0];simp
  .rw[if_neg h0];simp only[aHh];omega
 exact⟨hv,aIw _,hl.1,hl.2,aJC hv,aMR _ _⟩
end Go.AM
namespace Go.Proofs
open Go.Shelf
open Go.Proofs.Tryz
def Tryz.lays171_ren:Go.Shelf.Ren:=⟨fun|171=>87|243=>135|246=>200|283=>258|284=>259|285=>260|286=>261|129=>290|317=>289|318=>291|319=>292|320=>293|337=>323|338=>324|n=>n,fun|3=>3|9=>9|2=>2|4=>4|171=>299|0=>0|53=>129|37=>74|5=>5|173=>302|212=>328|51=>321|20=>20|213=>329|46=>238|232=>358|233=>359|n=>n,fun|17=>0|18=>1|19=>2|n=>n⟩
theorem Tryz.lays171:Go.Proofs.Lays.n171 prog Tryz.lays171_ren:={
 mixed:=by kernel_rfl
 f129:=func290.trans (congrArg some (by kernel_rfl))
 f171:=func87.trans (congrArg some (by kernel_rfl))
 f243:=func135.trans (congrArg some (by kernel_rfl))
 f246:=func200.trans (congrArg some (by kernel_rfl))
 f283:=func258.trans (congrArg some (by kernel_rfl))
 f284:=func259.trans (congrArg some (by kernel_rfl))
 f285:=func260.trans (congrArg some (by kernel_rfl))
 f286:=func261.trans (congrArg some (by kernel_rfl))
 f317:=func289.trans (congrArg some (by kernel_rfl))
 f318:=func291.trans (congrArg some (by kernel_rfl))
 f319:=func292.trans (congrArg some (by kernel_rfl))
 f320:=func293.trans (congrArg some (by kernel_rfl))
 f337:=func323.trans (congrArg some (by kernel_rfl))
 f338:=func324.trans (congrArg some (by kernel_rfl))
 t0:=underlying0
 a0:=isAgg0
 z0:=sizeOf0
 v0:=zeroValue0
 t2:=underlying2
 a2:=isAgg2
 z2:=sizeOf2
 v2:=zeroValue2
 t3:=underlying3
 a3:=isAgg3
 z3:=sizeOf3
 v3:=zeroValue3
 t4:=underlying4
 a4:=isAgg4
 z4:=sizeOf4
 v4:=zeroValue4
 t5:=underlying5
 a5:=isAgg5
 z5:=sizeOf5
 v5:=zeroValue5
 t9:=underlying9
 a9:=isAgg9
 z9:=sizeOf9
 v9:=zeroValue9
 t20:=underlying20
 a20:=isAgg20
 z20:=sizeOf20
 v20:=zeroValue20
 t37:=underlying74
 a37:=isAgg74
 z37:=sizeOf74
 v37:=zeroValue74
 t46:=underlying238
 a46:=isAgg238
 z46:=sizeOf238
 v46:=zeroValue238
 t51:=underlying321
 a51:=isAgg321
 z51:=sizeOf321
 v51:=zeroValue321
 t53:=underlying129
 a53:=isAgg129
 z53:=sizeOf129
 v53:=zeroValue129
 t171:=underlying299
 a171:=isAgg299
 z171:=sizeOf299
 v171:=zeroValue299
 t173:=underlying302
 a173:=isAgg302
 z173:=sizeOf302
 v173:=zeroValue302
 t212:=underlying328
 a212:=isAgg328
 z212:=sizeOf328
 v212:=zeroValue328
 t213:=underlying329
 a213:=isAgg329
 z213:=sizeOf329
 t232:=underlying358
 a232:=isAgg358
 z232:=sizeOf358
 v232:=zeroValue358
 t233:=underlying359
 a233:=isAgg359
 z233:=sizeOf359
 v233:=zeroValue359
 g17:=by kernel_rfl
 g18:=by kernel_rfl
 g19:=by kernel_rfl }
open Go.RowKit Go.Sort Go.Lib in
theorem Tryz.strconv_Itoa_small(i:Nat)(hi:i<100)(w:World):
  Calls prog 87 #[.int .i64 i] w fun e w'=>e=.returned (.string ⟨(Lib.decDigits i).toArray⟩)/\w'=w:=Any.strconv_Itoa_small Tryz.lays171 i hi w
end Go.Proofs
namespace Go.AM
open Go Go.Proofs
open Go.Proofs.Tryz
def dgB(i:Nat):ByteArray:=⟨(Lib.decDigits i).toArray⟩
theorem aKF(i:Nat)(h:i<100):DC 87 [I i] (Sb (dgB i)):=by
 intro tok nt box nb;refine⟨iJ.mk func87 rfl (by kernel_rfl),fun G w vals hm hr=>?_⟩;obtain⟨hlen,hrv⟩:=hr
 match vals,hlen with
 | [v],_ =>
  have h0:=hrv 0 (by simp) (by simp);simp only[List.getElem_cons_zero] at h0;cases h0 with|d h0 =>
  cases h0;refine(Tryz.strconv_Itoa_small i h w).mono ?_;rintro e w' ⟨rfl,rfl⟩;exact⟨_,_,_,G,rfl,⟨rfl,rfl⟩,rfl,hm,.d (.raw rfl),Le.refl _ _,fun k hk=>⟨hk,rfl⟩⟩
variable {P:Program}
def aKu(P:Program)(T E:TypeId)(x i:Operand)(d1 d2:Tmp)(K:AS->Prop)(S:AS):Prop:=match S.ev x,S.ev i with
 | .stk t sz es,.d (.raw (.int k q))=>match es[q.toNat]? with
  | some [.raw v]=>0<=q/\S.tok t=true/\K ⟨bV (bV S.tmps (some d1) .bot) (some d2) (.d (.raw v)),S.box,S.tok,S.nt⟩
  | _=>False
 | _,_=>False
theorem aKl{base:Nat}{o:Oper}{G:Gh}{box:Bxs}(h:kX o.op=false):oI P base o G box:=by
 unfold oI;split
 .rename_i h1 _;rw[h1] at h;cases h
 .trivial
theorem Op1.mono{cx:Cx}{o:Oper}{S:AS}{K K':AS->Prop}(hk:∀S,K S->K' S)(h:Op1 P cx o S K):Op1 P cx o S K':=by
 unfold Op1 at h ⊢;split at h
 .exact h.mono fun _ _ q=>hk _ q
 .rcases h with ⟨S1,a,b⟩|⟨t,es,a,b⟩
  .exact .inl ⟨S1,a,hk _ b⟩
  .exact .inr ⟨t,es,a,fun x y=>hk _ (b x y)⟩
theorem lX.mono{cx:Cx}{ops:Array Oper}{K K':AS->Prop}(hk:∀S,K S->K' S):∀(l:List Oper) (S:AS),lX P cx ops l S K->lX P cx ops l S K'
 | [],S,h=>hk S h
 | o::r,S,h=>by
  unfold lX at h ⊢;split at h
  .exact h.mono fun S1 q=>lX.mono hk r S1 q
  .split at h
   .exact⟨fun e=>(h.1 e).mono fun S1 q=>lX.mono hk r S1 q,fun e=>lX.mono hk r _ (h.2 e)⟩
   .exact h
theorem aKu.mono{T E:TypeId}{x i:Operand}{d1 d2:Tmp}{K K':AS->Prop}(hk:∀S,K S->K' S){S:AS}(h:aKu P T E x i d1 d2 K S):aKu P T E x i d1 d2 K' S:=by
 unfold aKu at h ⊢;split at h
 .split at h
  .exact⟨h.1,h.2.1,hk _ h.2.2⟩
  .exact h
 .exact h
theorem tE{ops ops':Array Oper}{Q:Exit->Act->World->Prop}{l2:List Nat}:∀(l:List Nat),(∀i∈l,∃o,ops[i]?=some o/\ops'[i]?=some o/\∀tm,Region.wanted o (yielded ops' tm)=Region.wanted o (yielded ops tm))->∀(a:Act) (w:World),
  wpOps P ops' (fun e a w=>match e with|.normal=>wpOps P ops Q l2 a w|e=>Q e a w) l a w->wpOps P ops Q (l++l2) a w
 | [],_,a,w,h=>h
 | i::l,hl,a,w,h=>by
  obtain⟨o,h1,h2,h3⟩:=hl i (by simp);have ih:=tE (Q:=Q) (l2:=l2) l fun j hj=>hl j (by simp[hj])
  rw[List.cons_append];unfold wpOps at h ⊢;rw[h2] at h;rw[h1];simp only at h ⊢;rw[h3] at h;have hlo:LetsOut (fun e a w=>match e with|.normal=>wpOps P ops Q l2 a w|e=>Q e a w)->LetsOut Q:=fun ⟨a,w,h⟩=>⟨a,w,h⟩
  split at h
  .rename_i hw;rw[if_pos hw];rcases h with h|⟨h,k⟩
   .left;unfold Oper.wp at h ⊢;generalize (execOp a.eval o).run P w=r at *;cases r with
    | ok n w' =>
     cases n<;>simp only[Oper.upon] at h ⊢ <;>
      first
       | exact ih _ _ h
       | exact Calls.mono h (fun e w'' he=>by cases e<;>first|exact ih _ _ he|exact hlo he|exact he)
       | exact Rows.mono h (fun _ _ he=>ih _ _ he)
    | halt x w'=>cases x<;>simp only[Oper.upon] at h ⊢<;>first|exact h|exact hlo h
   .exact .inr ⟨h,hlo k⟩
  .rename_i hw;rw[if_neg hw];exact ih _ _ h
def Seg(P:Program)(cx:Cx)(ops:Array Oper)(k:Nat)(K:AS->Prop)(S:AS):Prop:=∀(G0:Gh) (w0:World) (Q:Exit->Act->World->Prop),(∀S a w G,K S->cP cx.n cx.nb G S a w->LeC cx G0 w0 G w S->Q .normal a w) ->
 ∀G a w,cP cx.n cx.nb G S a w->LeC cx G0 w0 G w S->wpOps P ops Q (List.range' k (ops.size-k)) a w
def aOL(ops:Array Oper):Bool:=ops.toList.all fun o=>!kX o.op
theorem aF1{ops:Array Oper}(h:aOL ops=true){o:Oper}(ho:o∈ops):kX o.op=false:=by
 have:=List.all_eq_true.1 h o (by simpa using ho)
 simpa using this
theorem zT{n:Nat}{ops:Array Oper}(h:iH n ops false=true):eQ ops=true/\mL n ops=true:=by
 simpa[iH] using h
def aQQ(ops:Array Oper)(p:Nat):Bool:=(ops.toList.take p).all fun o=>match o.guard with|none=>true|some (j,_)=>decide (j<p)
theorem Seg.pre{cx:Cx}{ops:Array Oper}{k:Nat}{K:AS->Prop}{S:AS}(p:Nat)(hkp:k<=p)(hps:p<=ops.size)(hnb:cx.base+cx.n<=cx.nb)(hok:iH cx.n (ops.extract 0 p) false=true)(hna:aOL ops=true)(hg:aQQ ops p=true){ops':Array Oper}{mid:List Oper}(hx:ops.extract 0 p=ops')(hm:ops'.toList.drop k=mid)(h:kN P cx ops' false mid (Seg P cx ops p K) S):Seg P cx ops k K S:=by
 subst hx hm;intro G0 w0 Q hQ G a w hr hl;have hsplit:List.range' k (ops.size-k)=List.range' k (p-k)++List.range' p (ops.size-p):=by
  rw[show ops.size-k=(p-k)+(ops.size-p) by omega,<-List.range'_append_1,show k+(p-k)=p by omega]
 rw[hsplit];have hlook:∀j,j<p->(ops.extract 0 p)[j]?=ops[j]?:=fun j hj=>by
  rw[Array.getElem?_extract];have:j<min p ops.size:=by omega
  simp[this]
 refine tE (ops':=ops.extract 0 p) (List.range' k (p-k)) (fun j hj=>?_) a w ?_
 .have hj':j<p:=by simp at hj;omega
  have hjs:j<ops.size:=by omega
  refine⟨ops[j],by simp[hjs],by rw[hlook j hj'];simp[hjs],fun tm=>?_⟩;have h5:=List.all_eq_true.1 hg ops[j] (by rw[List.mem_take_iff_getElem];exact⟨j,by simp;omega,by simp⟩);unfold Region.wanted;cases hgu:ops[j].guard with
  | none=>rfl
  | some g =>
   obtain⟨q,want⟩:=g;rw[hgu] at h5;have hq:q<p:=by simpa using h5
   simp only;unfold yielded;rw[hlook q hq]
 have hmem:∀o,o∈(ops.extract 0 p).toList.drop k->o∈ops:=fun o ho=>by
  have:=List.mem_of_mem_drop ho
  rw[Array.toList_extract,List.extract_eq_take_drop] at this;simpa using List.mem_of_mem_take this
 have:=pT (ops:=ops.extract 0 p) (G0:=G0) (w0:=w0) (K:=Seg P cx ops p K) (Q:=fun e a' w'=>match e with|.normal=>wpOps P ops Q (List.range' p (ops.size-p)) a' w'|e=>Q e a' w')
  (lI (zT hok).2) hnb (zT hok).1 (fun S1 a1 w1 G1 hK hr1 hl1=>hK G0 w0 Q hQ G1 a1 w1 hr1 hl1) ((ops.extract 0 p).toList.drop k) k S a w G rfl (fun o ho=>aKl (aF1 hna (hmem o ho))) hr hl (eX _ _ h)
 have hlen:((ops.extract 0 p).toList.drop k).length=p-k:=by simp;omega
 rw[hlen] at this;exact this
variable {P:Program}
theorem aV.conv{R:AV->AV->Prop}{G G':Gh}{w w':World}{base nb nt nt':Nat}{out:Bxs}{loc loc':List (Nat × List (List AV))}{tok tok':Nat->Bool}(hm:aV G ⟨lb base out loc,nb,tok,nt⟩ w)(hm':aV G' ⟨lb base out loc,nb,tok',nt'⟩ w')(hbx:G'.bx=G.bx)(hto:∀x y v,R x y->RV G w x v->RV G' w' y v)(hh:∀b,G.kind b=.box->w'.heap[b]?=w.heap[b]?)(hb:CvB R loc loc'):
  aV G' ⟨lb base out loc',nb,tok',nt'⟩ w':=by
 constructor
 case box =>
  intro k rows b z hk hbk;simp only at hk;by_cases hkb:k<base
  .rw[lO hkb] at hk;exact hm'.box k rows b z (by simp only;rw[lO hkb];exact hk) hbk
  .have hkk:k=base+(k-base):=by omega
   rw[hkk,aQ] at hk;rcases hb.at (k-base) with ⟨_,h2⟩|⟨r0,r',h1,h2,h3⟩
   .rw[h2] at hk;cases hk
   .rw[h2] at hk;cases hk;obtain⟨g0,cs,e,g2,g3,g4,g5⟩:=hm.box k r0 b z (by simp only;rw[hkk,aQ];exact h1) (by rw[<-hbx];exact hbk);obtain⟨g1,_⟩:=hm'.box k r0 b z (by simp only;rw[hkk,aQ];exact h1) hbk;refine⟨g1,cs,e,(hh b g0).trans g2,fun q hq=>?_,⟨h3.flat.1.symm.trans g4.1,fun i h1 h2=>hto _ _ _ (h3.flat.2 i (by rw[h3.flat.1];exact h1) h1) (g4.2 i _ h2)⟩,g5⟩;obtain⟨i,hi,rfl⟩:=List.getElem_of_mem hq;have hi0:i<r0.length:=by rw[h3.1];exact hi
    rw[<-(h3.2 i hi0 hi).1];exact g3 _ (List.getElem_mem _)
 case nobox =>
  intro k hk;refine hm'.nobox k ?_;simp only at hk ⊢;by_cases hkb:k<base
  .rw[lO hkb] at hk ⊢;exact hk
  .have hkk:k=base+(k-base):=by omega
   rw[hkk,aQ] at hk ⊢;rcases hb.at (k-base) with ⟨h1,_⟩|⟨r0,r',_,h2,_⟩
   .exact h1
   .rw[h2] at hk;cases hk
 case inj=>exact hm'.inj
 case nb =>
  intro k hk;have h0:=hm'.nb k hk;simp only at h0 ⊢;by_cases hkb:k<base
  .rw[lO hkb] at h0 ⊢;exact h0
  .have hkk:k=base+(k-base):=by omega
   rw[hkk,aQ] at h0 ⊢;rcases hb.at (k-base) with ⟨_,h2⟩|⟨r0,r',h1,_,_⟩
   .exact h2
   .rw[h1] at h0;cases h0
 case nt=>exact hm'.nt
 case toks=>exact hm'.toks
 case tokb=>exact hm'.tokb
 case tinj=>exact hm'.tinj
 case tnt=>exact hm'.tnt
 case glob=>exact hm'.glob
 case fresh=>exact hm'.fresh
def AV.mpF(t:Nat):AV->AV
 | .mp t' es=>if t'=t then .mpd (mpE es) else .mp t' es
 | x=>x
def World.setMap(w:World)(r:Nat)(en:Array MapEntry)(k:Nat):World:={ w with heap:=w.heap.setIfInBounds r (.map en k) }
theorem aCK{w:World}{r:Nat}{o:Obj}(h:w.heap[r]?=some o)(en:Array MapEntry)(k:Nat):(World.setMap w r en k).heap[r]?=some (.map en k):=by
 have:=bW h
 simp[World.setMap,this]
theorem dP{w:World}{r b:Nat}(h:b≠r)(en:Array MapEntry)(k:Nat):(World.setMap w r en k).heap[b]?=w.heap[b]?:=by
 simp[World.setMap,Ne.symm h]
theorem tH(w:World)(r:Nat)(en:Array MapEntry)(k:Nat):(World.setMap w r en k).heap.size=w.heap.size:=by simp[World.setMap]
theorem Le.setMap{G:Gh}{w:World}{r:Nat}(hk:G.kind r=.ex)(ht:∀t,G.tk t≠some (some r)){en0:Array MapEntry}{k0:Nat}(hg:w.heap[r]?=some (.map en0 k0))(en:Array MapEntry)(k:Nat):Le G w G (World.setMap w r en k) where
 os:=rfl
 tape:=rfl
 output:=rfl
 size:=by rw[tH];exact nr0 _
 whole b hb h:=⟨h,dP (fun e=>by subst e;rw[hk] at h;cases h) en k⟩
 part b f0 c0 h:=⟨⟨f0,nr0 _,h⟩,fun a ha _=>World.cell?_of_block (dP (fun e=>by
  have:G.kind r=.part f0 c0:=by rw[<-e,ha];exact h
  rw[hk] at this;cases this) en k)⟩
 bx _ _ h:=h
 nt:=nr0 _
 tk t _:=.inr ⟨rfl,fun j hj=>⟨rfl,fun _=>dP (fun e=>by subst e;exact ht t hj) en k⟩⟩
 ty b c0 T f0 hb:=⟨c0,f0,by rw[dP (fun e=>by subst e;rw[hg] at hb;cases hb) en k];exact hb⟩
theorem aV.setMap{G:Gh}{m:bH}{w:World}(h:aV G m w){r:Nat}(hk:G.kind r=.ex)(ht:∀t,G.tk t≠some (some r)){en0:Array MapEntry}{k0:Nat}(hg:w.heap[r]?=some (.map en0 k0))(en:Array MapEntry)(k:Nat):aV G m (World.setMap w r en k):=by
 have hle:=Le.setMap hk ht hg en k;constructor
 case box =>
  intro q rows b sz hkk hb;obtain⟨h1,cs,e',h2,h3,h4,h5⟩:=h.box q rows b sz hkk hb;exact⟨h1,cs,e',(dP (fun e=>by subst e;rw[hk] at h1;cases h1) en k).trans h2,h3,h4.mono hle,h5⟩
 case nobox=>exact h.nobox
 case inj=>exact h.inj
 case nb=>exact h.nb
 case nt=>exact h.nt
 case toks=>exact h.toks
 case tokb =>
  intro t j hj;obtain⟨f0,cur0,e0,h1,h2⟩:=h.tokb t j hj;exact⟨f0,cur0,e0,h1,(dP (fun e=>by subst e;exact ht t hj) en k).trans h2⟩
 case tinj=>exact h.tinj
 case tnt=>exact h.tnt
 case glob=>exact h.glob.mono hle.cells
 case fresh =>
  intro b hb;exact h.fresh b (by rw[tH] at hb;exact hb)
def jA(es:List (ByteArray × List (List D) × Own))(s:ByteArray)(xs:List (List D))(o:Own):List (ByteArray × List (List D) × Own):=match es.findIdx? fun e=>decide (e.1=s) with
 | some i=>es.set i (s,xs,o)
 | none=>es++[(s,xs,o)]
theorem aBz(n:Nat)(s:ByteArray):Instr.sameBits n (.string s) (.string s)=true:=by
 cases n<;>simp[Instr.sameBits,aG5]
theorem pW{w:World}{T:TypeId}{r:Nat}{en:Array MapEntry}{k:Nat}{c:Addr->Option Value}{ps:Addr->Prop}{es:List (ByteArray × List (List D))}(hT:aD4 P T=true)(hb:w.heap[r]?=some (.map en k))(he:EnR c ps es en)(s:ByteArray)(v:Value):
  ∃en' k',(Instr.mapUpdate T (.map (some r)) (.string s) v).run P w=.ok () (World.setMap w r en' k')/\(match es.findIdx? fun e=>decide (e.1=s) with
   | some i=>en'.size=en.size/\(∀j (h:j<en'.size) (h2:j<en.size),j≠i->en'[j].key=en[j].key/\en'[j].val=en[j].val)/\∀h:i<en'.size,en'[i].key=.string s/\en'[i].val=v
   | none=>en'.size=en.size+1/\(∀j (h:j<en'.size) (h2:j<en.size),en'[j].key=en[j].key/\en'[j].val=en[j].val)/\∀h:en.size<en'.size,en'[en.size].key=.string s/\en'[en.size].val=v):=by
 obtain⟨kt,et,h1,h2,h3⟩:=aAA hT;have hf:=nD s en.toList (es.map (·.1)) 0 he.keys;have hc:(Instr.checkKey false 10000 kt (.string s)).run P w=.ok () w:=MapKept.run_checkKey (k:=.string s) h2 (by simp[MapKept.IsKey]) _ 9999
 have hk:=MapKept.run_findKey (w:=w) h2 hf;rw[uV] at hk;cases hi:es.findIdx? fun e=>decide (e.1=s) with
 | none =>
  rw[hi] at hk;simp only[Option.bind_none] at hk;refine⟨en.push { key:=.string s,val:=v,born:=k },k+1,?_,by simp,fun j h h2=>?_,fun h=>by simp⟩
  .simp[Instr.mapUpdate,run_underlying h1,MapKept.run_getObj_map hb,hc,hk,MapKept.run_setObj_map _ hb,Result.andThen,World.setMap]
  .rw[Array.getElem_push_lt h2];exact⟨rfl,rfl⟩
 | some i =>
  have hlt:i<en.size:=by
   have:=(List.findIdx?_eq_some_iff_getElem.1 hi).1
   rw[he.1] at this;exact this
  have hkey:en[i].key=.string s:=by
   obtain⟨g1,g2,_⟩:=List.findIdx?_eq_some_iff_getElem.1 hi;rw[(he.2 i g1 hlt).1];simp at g2;rw[g2]
  rw[hi] at hk;have hg:en.toList[i]?=some en[i]:=by simp[hlt]
  simp only[Option.bind_some,hg,Option.map_some,Nat.zero_add] at hk;refine⟨en.modify i fun e=>{ e with key:=.string s,val:=v },k,?_,by simp,fun j h h2 hne=>?_,fun h=>?_⟩
  .simp[Instr.mapUpdate,run_underlying h1,MapKept.run_getObj_map hb,hc,hk,hlt,hkey,Instr.keyThatStays,aBz,MapKept.run_setObj_map _ hb,Result.andThen,World.setMap]
  .rw[Array.getElem_modify,if_neg (Ne.symm hne)];exact⟨rfl,rfl⟩
  .rw[Array.getElem_modify,if_pos rfl];exact⟨rfl,rfl⟩
def AV.mpU(t nt:Nat)(es':List (ByteArray × List (List D) × Own)):AV->AV
 | .mp t' es=>if t'=t then .mp nt es' else .mp t' es
 | x=>x
def aLJ(P:Program)(cx:Cx)(o:Oper)(S:AS)(K:AS->Prop):Prop:=∀(G0:Gh) (w0:World) (Q:Act->World->Prop) (E:Exit->Act->World->Prop),(∀S a w G,K S->cP cx.n cx.nb G S a w->LeC cx G0 w0 G w S->Q a w) ->
 ∀G a w,cP cx.n cx.nb G S a w->LeC cx G0 w0 G w S->o.wp P a w Q E
theorem aLJ.put{cx:Cx}{o:Oper}{K:AS->Prop}{l:List (Nat × AV)}{out:Bxs}{loc:List (Nat × List (List AV))}{tok:Nat->Bool}{nt:Nat}{T:TypeId}{m k v:Operand}(t:Nat)(es:List (ByteArray × List (List D) × Own))(s:ByteArray)(xs:List (List D))(own:Own)(ho:o.op=.mapUpdate T m k v)(hd:o.dst=none)(hT:aD4 P T=true)(ht:tok t=true)(hmv:AS.ev ⟨tl l,lb cx.base out loc,tok,nt⟩ m=.mp t es)(hkv:AS.ev ⟨tl l,lb cx.base out loc,tok,nt⟩ k=.d (.raw (.string s)))(hvv:AS.ev ⟨tl l,lb cx.base out loc,tok,nt⟩ v=.osl 1 xs own)(h:K ⟨tl (l.map fun q=>(q.1,q.2.mpU t nt (jA es s xs own))),lb cx.base out (loc.map fun q=>(q.1,q.2.map fun r=>r.map (AV.mpU t nt (jA es s xs own)))),upd (upd tok t false) nt true,nt+1⟩):
  aLJ P cx o ⟨tl l,lb cx.base out loc,tok,nt⟩ K:=by
 intro G0 w0 Q E hQ G a w hS hL;have hm:=hS.mem;have hmr:=hS.ev m;have hkr:=hS.ev k;have hvr:=hS.ev v;rw[hmv] at hmr;rw[hkv] at hkr;rw[hvv] at hvr;generalize hmx:a.eval m=mx at hmr;generalize hkx:a.eval k=kx at hkr;generalize hvx:a.eval v=vx at hvr;have hk1:kx=.string s:=by cases hkr with|d h=>cases h;rfl
 subst hk1;cases hmr with
 | mp hmr =>
  obtain⟨htl,hts,r,rfl,hmr⟩:=hmr;obtain⟨_,x,hx⟩:=hm.toks t ht;obtain⟨rfl,hkr2,en,k0,hh,he,how⟩:=hmr x hx;obtain⟨en',k',hrun,hen⟩:=pW (P:=P) hT hh he s vx;have hnot:=vN hm hx;have hmk:=hm.kill (.tok t);have hlk:=Le.kill (G:=G) (w:=w) (.tok t);have hms:=hmk.setMap hkr2 hnot hh en' k';have hls:=Le.setMap (G:=G.kill (.tok t)) hkr2 hnot hh en' k';have hhe:(World.setMap w r en' k').heap[r]?=some (.map en' k'):=aCK hh en' k'
  have hmn:=hms.newtok (some r) (fun g hg=>by cases hg;exact⟨hnot,0, #[],_,.inr hkr2,hhe⟩);have hln:=Le.newtok (G:=G.kill (.tok t)) (w:=World.setMap w r en' k') (some r);have hle:=(hlk.trans hls).trans hln;have hgnt:G.nt=nt:=hm.nt
  have hvd:RVd w.cell? G.ps (.sl 1 xs) vx/\sZ G 1 xs.length own vx:=by cases hvr with|osl h1 h2=>exact⟨h1,h2⟩
  have hown1:∀t',own=.tok t'->t'<G.nt:=fun t' e=>by subst e;exact hvd.2.1
  have hmp:MpR ((G.kill (.tok t)).newtok (some r)) (World.setMap w r en' k') nt (jA es s xs own) (.map (some r)):=by
   refine⟨by simp only[Gh.newtok,Gh.kill];omega,fun e he' t' e1=>?_,r,rfl,fun y hy=>?_⟩
   .have:t'<G.nt:=by
     unfold jA at he';split at he'
     .rcases List.mem_or_eq_of_mem_set he' with h5|h5
      .exact hts e h5 t' e1
      .subst h5;exact hown1 t' e1
     .rcases List.mem_append.1 he' with h5|h5
      .exact hts e h5 t' e1
      .simp at h5;subst h5;exact hown1 t' e1
    simp only[Gh.newtok,Gh.kill];omega
   .simp only[Gh.newtok,Gh.kill,hgnt,uS,Option.some.injEq] at hy;subst hy;refine⟨rfl,hkr2,en',k',hhe,?_⟩;have hfi:(mpE es).findIdx? (fun e=>decide (e.1=s))=es.findIdx? fun e=>decide (e.1=s):=by
     rw[mpE,List.findIdx?_map];rfl
    rw[hfi] at hen;have hsz:es.length=en.size:=by have:=he.1;simpa[mpE] using this
    cases hi:es.findIdx? fun e=>decide (e.1=s) with
    | some i =>
     rw[hi] at hen;simp only at hen;obtain⟨e1,e2,e3⟩:=hen;have hp:jA es s xs own=es.set i (s,xs,own):=by simp only[jA,hi]
     rw[hp];refine⟨⟨by simp[mpE,e1,hsz],fun j h1 h2=>?_⟩,fun j h1 h2=>?_⟩
     .have hj:j<es.length:=by simpa[mpE] using h1
      by_cases hji:j=i
      .subst hji;simp only[mpE,List.getElem_map,List.getElem_set_self];exact⟨(e3 h2).1,by rw[(e3 h2).2];exact hvd.1.mono hle.cells⟩
      .simp only[mpE,List.getElem_map,List.getElem_set_ne (Ne.symm hji)];obtain⟨q1,q2⟩:=e2 j h2 (by omega) hji;have:=he.2 j (by simpa[mpE] using hj) (by omega)
       simp only[mpE,List.getElem_map] at this;rw[q1,q2];exact⟨this.1,this.2.mono hle.cells⟩
     .have hj:j<es.length:=by simpa using h1
      by_cases hji:j=i
      .subst hji;simp only[List.getElem_set_self];rw[(e3 h2).2];exact hvd.2.mono hle
      .simp only[List.getElem_set_ne (Ne.symm hji)];rw[(e2 j h2 (by omega) hji).2];exact(how j hj (by omega)).mono hle
    | none =>
     rw[hi] at hen;simp only at hen;obtain⟨e1,e2,e3⟩:=hen;have hp:jA es s xs own=es++[(s,xs,own)]:=by simp only[jA,hi]
     rw[hp];have hval:∀j (h1:j<(es++[(s,xs,own)]).length),(es++[(s,xs,own)])[j]=if h:j<es.length then es[j] else (s,xs,own):=fun j h1=>by
      by_cases h:j<es.length
      .rw[dif_pos h,List.getElem_append_left h]
      .rw[dif_neg h];simp at h1;have:j=es.length:=by omega
       subst this;simp
     refine⟨⟨by simp[mpE,e1,hsz],fun j h1 h2=>?_⟩,fun j h1 h2=>?_⟩
     .simp only[mpE,List.getElem_map];rw[hval j (by simpa[mpE] using h1)];by_cases h:j<es.length
      .rw[dif_pos h];obtain⟨q1,q2⟩:=e2 j h2 (by omega);have:=he.2 j (by simpa[mpE] using h) (by omega)
       simp only[mpE,List.getElem_map] at this;rw[q1,q2];exact⟨this.1,this.2.mono hle.cells⟩
      .rw[dif_neg h];have:j=en.size:=by omega
       subst this;exact⟨(e3 h2).1,by rw[(e3 h2).2];exact hvd.1.mono hle.cells⟩
     .rw[hval j h1];by_cases h:j<es.length
      .rw[dif_pos h];rw[(e2 j h2 (by omega)).2];exact(how j h (by omega)).mono hle
      .rw[dif_neg h];have:j=en.size:=by omega
       subst this;rw[(e3 h2).2];exact hvd.2.mono hle
  have hto:∀x y v,y=AV.mpU t nt (jA es s xs own) x->RV G w x v->RV ((G.kill (.tok t)).newtok (some r)) (World.setMap w r en' k') y v:=fun x y v h hr=>by
   subst h;cases x with
   | mp t' es0 =>
    simp only[AV.mpU];split
    .rename_i h;subst h;cases hr with
     | mp hr =>
      obtain⟨_,_,r2,rfl,hr⟩:=hr;have:=(hr _ hx).1
      cases this;exact .mp hmp
    .exact hr.mono hle
   | _=>exact hr.mono hle
  have hS':cP cx.n cx.nb ((G.kill (.tok t)).newtok (some r)) ⟨tl (l.map fun q=>(q.1,q.2.mpU t nt (jA es s xs own))),lb cx.base out (loc.map fun q=>(q.1,q.2.map fun r=>r.map (AV.mpU t nt (jA es s xs own)))),upd (upd tok t false) nt true,nt+1⟩ a (World.setMap w r en' k') :=
   ⟨hS.defers,hS.size,fun i=>hto _ _ _ (CvL.at (R:=fun x y=>y=AV.mpU t nt (jA es s xs own) x) rfl (aBq (R:=fun x y=>y=AV.mpU t nt (jA es s xs own) x) (fun _=>rfl) l) i) (hS.tmps i),
    hm.conv hmn rfl hto (fun b hb=>dP (fun e=>by subst e;rw[hkr2] at hb;cases hb) en' k') (aBC (R:=fun x y=>y=AV.mpU t nt (jA es s xs own) x) (fun _=>rfl) loc)⟩
  unfold Oper.wp;have hex:(execOp a.eval o).run P w=.ok .skip (World.setMap w r en' k'):=by
   simp only[execOp,ho,hmx,hkx,hvx,Sem.run_bind,hrun,Result.andThen_ok,Sem.run_pure]
  rw[hex];simp only[Oper.upon,hd,Act.put];exact hQ _ _ _ _ h hS' (hL.step ⟨hle,fun k hkb hg=>⟨hg,by simp only;rw[lO hkb,lO hkb]⟩⟩)
inductive uE (t sz:Nat):AV->AV->Prop
 | bot {x}:uE t sz x .bot
 | same {x}:uE t sz x x
 | nil {n}:uE t sz (.osl n [] .full) (.que t sz [])
 | tok {t' s es}:uE t sz (.osl s es (.tok t')) (.que t' s es)
theorem uE.rv{G:Gh}{w:World}{t sz:Nat}(ht:t<G.nt)(hk:G.tk t=some none){x y:AV}{v:Value}(h:uE t sz x y)(hr:RV G w x v):RV G w y v:=by
 cases h with
 | bot=>exact .bot
 | same=>exact hr
 | nil =>
  cases hr with
  | osl _ ho =>
   obtain⟨A,rfl,_⟩:=ho;exact .que (.sl (es:=[]) (fun _ _=>default) (nr0 _) (Nat.zero_le _) (by simp) (by simp) (fun a _ i j hi _=>by simp at hi) (fun i j hi _=>by simp at hi)) ⟨ht,fun x hx=>.inl ⟨A,rfl⟩⟩
 | tok =>
  cases hr with
  | osl h1 ho =>
   refine .que h1 ⟨ho.1,fun x hx=>?_⟩;have:=ho.2 x hx
   cases x with
   | none=>exact .inl this
   | some g =>
    obtain⟨cap,hv,hk⟩:=this;exact .inr ⟨g,0,cap,rfl,hv,by simpa using hk⟩
theorem iR.que{cx:Cx}{nt0 nt:Nat}{l l':List (Nat × AV)}{out:Bxs}{loc loc':List (Nat × List (List AV))}{tok:Nat->Bool}(sz:Nat)(hl:CvL (uE nt sz) l l')(hb:CvB (uE nt sz) loc loc'):
  iR cx nt0 ⟨tl l,lb cx.base out loc,tok,nt⟩ ⟨tl l',lb cx.base out loc',upd tok nt true,nt+1⟩:=by
 intro G0 w0 G a w he hn0 hS hL;have hm:=hS.mem;have hgnt:G.nt=nt:=hm.nt
 have hle:=Le.newtok (G:=G) (w:=w) none;have hm':=hm.newtok none (fun g h=>by cases h)
 have h1:nt<(G.newtok none).nt:=by simp only[Gh.newtok];omega
 have h2:(G.newtok none).tk nt=some none:=by simp only[Gh.newtok];rw[<-hgnt,uS]
 refine⟨G.newtok none,⟨hS.defers,hS.size,fun i=>(hl.at .bot i).rv h1 h2 ((hS.tmps i).mono hle),hm'.rows (fun x y v h hr=>h.rv h1 h2 hr) hb⟩,?_⟩;refine hL.step ⟨hle,fun k hkb hg=>⟨hg,?_⟩⟩;simp only;rw[lO hkb,lO hkb]
section
variable {t sz:Nat}
@[simp] theorem aNF(x:AV):uE t sz x .bot:=.bot
@[simp] theorem aNz(x:AV):uE t sz x x:=.same
@[simp] theorem aPe(n:Nat):uE t sz (.osl n [] .full) (.que t sz []):=.nil
@[simp] theorem aO1(t' s:Nat)(es:List (List D)):uE t sz (.osl s es (.tok t')) (.que t' s es):=.tok
end
section
variable {p:Nat->Prop} {fz:Option (Nat × Nat × List (List D))}
@[simp] theorem aSd(t:Nat)(es:List (ByteArray × List (List D) × Own)):To p (fun _=>True) fz (.mp t es) (.mp t es):=.same (.mp trivial fun _ _ _ _=>trivial)
@[simp] theorem aRJ{q:Nat->Prop}(es:List (ByteArray × List (List D))):To p q fz (.mpd es) (.mpd es):=.same .mpd
@[simp] theorem aO4{q:Nat->Prop}{es:List (ByteArray × List (List D))}:bF p q (.mpd es):=.mpd
end
attribute [simp] fM AV.mpF AV.mpU
variable {P:Program}
theorem Seg.opn{cx:Cx}{ops:Array Oper}{k nt:Nat}{K:AS->Prop}{l l':List (Nat × AV)}{out:Bxs}{loc loc':List (Nat × List (List AV))}{tok:Nat->Bool}(sz:Nat)(hl:CvL (uF nt sz) l l')(hb:CvB (uF nt sz) loc loc')(h:Seg P cx ops k K ⟨tl l',lb cx.base out loc',upd tok nt true,nt+1⟩):Seg P cx ops k K ⟨tl l,lb cx.base out loc,tok,nt⟩:=by
 intro G0 w0 Q hQ G a w hS hL;have hm:=hS.mem;have hgnt:G.nt=nt:=hm.nt
 have hle:=Le.newtok (G:=G) (w:=w) none;have hm':=hm.newtok none (fun g h=>by cases h)
 have h1:nt<(G.newtok none).nt:=by simp only[Gh.newtok];omega
 have h2:(G.newtok none).tk nt=some none:=by simp only[Gh.newtok];rw[<-hgnt,uS]
 refine h G0 w0 Q hQ (G.newtok none) a w ⟨hS.defers,hS.size,fun i=>(hl.at .bot i).rv h1 h2 ((hS.tmps i).mono hle),hm'.rows (fun x y v h hr=>h.rv h1 h2 hr) hb⟩ ?_;refine hL.step ⟨hle,fun k hkb hg=>⟨hg,?_⟩⟩;simp only;rw[lO hkb,lO hkb]
inductive Fo where
 | mk (kind:Int) (name:ByteArray) (kids:List Fo)
 deriving Inhabited
def Fo.kind:Fo->Int|.mk k _ _=>k
def Fo.name:Fo->ByteArray|.mk _ s _=>s
def Fo.kids:Fo->List Fo|.mk _ _ c=>c
mutual
def Fo.cells:Fo->List D
 | .mk k s c=>[.raw (.int .i64 k),.raw (.string s),.sl 3 (Fo.rows c)]
def Fo.rows:List Fo->List (List D)
 | []=>[]
 | x::r=>Fo.cells x::Fo.rows r
end
theorem Fo.rows_map:∀l:List Fo,Fo.rows l=l.map Fo.cells
 | []=>by simp[Fo.rows]
 | x::r=>by simp[Fo.rows,Fo.rows_map r]
abbrev fos(l:List Fo):D:=.sl 3 (l.map Fo.cells)
theorem Fo.cells_eq(c:Fo):c.cells=[.raw (.int .i64 c.kind),.raw (.string c.name),fos c.kids]:=by
 cases c;simp[Fo.cells,Fo.rows_map,Fo.kind,Fo.name,Fo.kids]
abbrev Fo.row(c:Fo):List AV:=[I c.kind,Sb c.name,.d (fos c.kids)]
abbrev Fo.av(c:Fo):AV:=.agg c.row
theorem Fo.get{l:List Fo}{i:Nat}(h:i<l.length):(l.map Fo.cells)[i]?=some [.raw (.int .i64 l[i].kind),.raw (.string l[i].name),fos l[i].kids]:=by
 simp[h,Fo.cells_eq l[i]]
mutual
def Fo.size:Fo->Nat
 | .mk _ _ c=>1+Fo.sizeL c
def Fo.sizeL:List Fo->Nat
 | []=>0
 | x::r=>Fo.size x+Fo.sizeL r
end
mutual
def Fo.depth:Fo->Nat
 | .mk _ _ c=>1+Fo.depthL c
def Fo.depthL:List Fo->Nat
 | []=>0
 | x::r=>max (Fo.depth x) (Fo.depthL r)
end
structure Mdl where
 next:List (List Int)
 prev:List (List Int)
 atoms:List (ByteArray × List Bool)
def inR(n:Nat)(k:Int):Prop:=0<=k/\k<n
structure Mdl.Ok (m:Mdl) (n:Nat):Prop where
 pos:0<n
 le:n<=300
 next:m.next.length=n
 prev:m.prev.length=n
 mK:∀r∈m.next,∀k∈r,inR n k
 prevR:∀r∈m.prev,∀k∈r,inR n k
 nextL:∀r∈m.next,r.length<=n
 prevL:∀r∈m.prev,r.length<=n
 atoms:∀a∈m.atoms,a.2.length=n
def aMM(l:List Bool):List Bool:=l.map fun b=>!b
def aPg(n:Nat):List Bool:=aMM (List.replicate n false)
@[simp] theorem aPA(l:List Bool):(aMM l).length=l.length:=by simp[aMM]
@[simp] theorem aOI(n:Nat):(aPg n).length=n:=by simp[aPg]
def aLQ(nx:List (List Int))(l:List Bool):List Bool:=nx.map fun r=>r.any fun k=>l.getD k.toNat false
@[simp] theorem aNw(nx:List (List Int))(l:List Bool):(aLQ nx l).length=nx.length:=by simp[aLQ]
abbrev rBo(xs:List Bool):List (List D):=xs.map fun b=>[D.raw (.bool b)]
abbrev lls(l:List (List Int)):D:=.sl 1 (l.map fun r=>[ints r])
abbrev Mdl.row(m:Mdl):List AV:=[.d (lls m.next),.d (lls m.prev),.mpd (m.atoms.map fun a=>(a.1,rBo a.2))]
abbrev Mdl.av(m:Mdl):AV:=.agg m.row
structure Hs where
 g:Gr
 vals:List (List Int)
abbrev Hs.av(h:Hs):AV:=.agg [.d (ints h.g.nodes),.d (AM.edges h.g.edges),.d (lls h.vals)]
def Sd.nr(s:Sd)(e:E):Int:=if s.o=true then e.fr else e.to
def Sd.fa(s:Sd)(e:E):Int:=if s.o=true then e.to else e.fr
theorem pL{α:Type}{f:List Ov->α->List Ov}{B:Nat}(hf:∀out k,(f out k).length<=out.length+B):∀(l:List α) (out:List Ov),(l.foldl f out).length<=out.length+l.length*B
 | [],out=>by simp
 | x::l,out=>by
  have h1:=pL hf l (f out x);have h2:=hf out x;rw[List.foldl_cons,List.length_cons,Nat.add_mul];omega
theorem wW(a b:Gr)(nodes:List Int):∀(n:Nat) (es:List Int) (out:List Ov),(ovE a b nodes n es out).length<=out.length+(1+a.edges.length) ^ n
 | 0,es,out=>by
  unfold ovE;split<;>simp
 | n+1,es,out=>by
  unfold ovE;split
  .omega
  .have h1:=wW a b nodes n (es++[-1]) out;have h2:=pL (f:=fun (out:List Ov) (k:Nat)=>if a.edges.getD k default=lK b nodes es/\(k:Int)∉es then ovE a b nodes n (es++[(k:Int)]) out else out) (B:=(1+a.edges.length) ^ n) (fun out k=>by
    split
    .exact wW a b nodes n _ out
    .omega) (List.range a.edges.length) (ovE a b nodes n (es++[-1]) out)
   rw[List.length_range] at h2;rw[Nat.pow_succ,Nat.mul_comm,Nat.add_mul];omega
theorem vW(a b:Gr):∀(n:Nat) (l:List Int) (out:List Ov),(ovN a b n l out).length<=out.length+(1+a.nodes.length) ^ n*(1+a.edges.length) ^ b.edges.length
 | 0,l,out=>by
  unfold ovN;split
  .omega
  .have:=wW a b l b.edges.length [] out
   simpa using this
 | n+1,l,out=>by
  unfold ovN;split
  .omega
  .have h1:=vW a b n (l++[-1]) out;have h2:=pL (f:=cT a b (ovN a b n) l) (B:=(1+a.nodes.length) ^ n*(1+a.edges.length) ^ b.edges.length) (fun out k=>by
    unfold cT;split
    .exact vW a b n _ out
    .omega) (List.range a.nodes.length) (ovN a b n (l++[-1]) out)
   rw[List.length_range] at h2;rw[Nat.pow_succ,Nat.mul_comm ((1+a.nodes.length) ^ n),Nat.mul_assoc,Nat.add_mul];omega
structure Lf (t:Ty) (g:Gr):Prop where
 ty:tyE t=0
 va:vG g=0
 lf:∀x∈g.nodes,(0<=x/\x<t.nodes.length)/\eE t x=true
 fr:∀e∈g.edges,oL t e.ty (g.nodes.getD e.fr.toNat 0) (g.nodes.getD e.to.toNat 0)=true
structure Rc (t:Ty) (r:Ru) (c:Co):Prop where
 sp:aBe r.sp
 st:cN r=0
 gv:rM t r c=0
 k1:c.kind=1
 ex:c.exts=[]
 vl:vG r.lg=0
 vr:vG r.rg=0
 vc:vG c.g=0
 sh:lA c=0
theorem Rc.left{t:Ty}{r:Ru}{c:Co}(h:Rc t r c)(x:Cd):aLT r x=aPz r.sp x:=by
 unfold aLT;rw[if_neg (by simp[h.st])]
def cK(k:List Int)(i:Nat):Nat:=(bE k i).length
theorem zE(k:List Int)(i:Nat):bE k (i+1)=bE k i++if (i:Int)∈k then [] else [(i:Int)]:=by
 unfold bE;rw[List.range_succ,List.filter_append,List.map_append];by_cases h:(i:Int)∈k<;>simp[h]
theorem aBd(k:List Int)(i:Nat):cK k (i+1)=cK k i+if (i:Int)∈k then 0 else 1:=by
 unfold cK;rw[zE,List.length_append];by_cases h:(i:Int)∈k<;>simp[h]
theorem aEQ(k:List Int){i:Nat}:∀{j:Nat},i<=j->cK k i<=cK k j
 | 0,h=>by
  have:i=0:=by omega
  rw[this];exact nr0 _
 | j+1,h=>by
  by_cases e:i=j+1
  .rw[e];exact nr0 _
  .have:=aEQ k (i:=i) (j:=j) (by omega)
   rw[aBd];omega
theorem aMe{k:List Int}{i j:Nat}(h:i<j)(hi:(i:Int)∉k):cK k i<cK k j:=by
 have:=aEQ k (show i+1<=j from h)
 rw[aBd,if_neg hi] at this;omega
theorem aLX(k:List Int)(n:Nat):cK k n<=n:=by
 unfold cK bE;rw[List.length_map];exact Nat.le_trans (List.length_filter_le _ _) (by simp)
theorem aE7{k:List Int}:∀{n i:Nat},i<n->(i:Int)∉k->(bE k n).getD (cK k i) 0=i
 | n+1,i,h,hi=>by
  rw[zE];by_cases e:i=n
  .subst e;rw[if_neg hi,List.getD_eq_getElem?_getD,List.getElem?_append_right (by unfold cK;exact nr0 _)];simp[cK]
  .have hl:cK k i<(bE k n).length:=aMe (show i<n by omega) hi
   rw[List.getD_eq_getElem?_getD,List.getElem?_append_left hl,<-List.getD_eq_getElem?_getD];exact aE7 (by omega) hi
theorem aCE{k:List Int}:∀{n b:Nat},b<cK k n->∃i,i<n/\(i:Int)∉k/\cK k i=b
 | 0,b,h=>absurd h (Nat.not_lt_zero _)
 | n+1,b,h=>by
  by_cases e:b<cK k n
  .obtain⟨i,a,b,c⟩:=aCE e;exact⟨i,by omega,b,c⟩
  .rw[aBd] at h;by_cases hn:(n:Int)∈k
   .rw[if_pos hn] at h;omega
   .rw[if_neg hn] at h;exact⟨n,by omega,hn,by omega⟩
structure yB (k i a z:List Int) (nl nr nx:Nat):Prop where
 kn:k.Nodup
 kr:∀x∈k,0<=x/\x<(nl:Int)
 sn:i.Nodup
 sr:∀x∈i,0<=x/\x<(nr:Int)
 lk:i.length=k.length
 an:a.Nodup
 ar:∀x∈a,0<=x/\x<(nx:Int)
 al:a.length=nr
 zn:z.Nodup
 zr:∀x∈z,0<=x/\x<(nx:Int)
 zi:∀v,v<nx->((∃j,j<z.length/\atN z j=v)↔¬∃b,b<nr/\atN a b=v/\¬∃j,j<k.length/\atN i j=b)
def fK(k i a z:List Int)(j:Nat):Int:=if (j:Int)∈k then aU z (a.getD (i.getD (aU k j).toNat 0).toNat 0) else ((z.length+cK k j:Nat):Int)
theorem aFA{l:List Int}{n v:Nat}(hr:∀x∈l,0<=x/\x<(n:Int)):(v:Int)∈l↔∃j,j<l.length/\atN l j=v:=by
 constructor
 .intro h;obtain⟨j,j1,j2⟩:=eH h;exact⟨j,j1,by unfold atN;rw[j2];rfl⟩
 .rintro⟨j,j1,j2⟩;have:=jN hr j1
  rw[<-j2,this.1];exact aR j1
theorem yB.at{k i a z:List Int}{nl nr nx:Nat}(h:yB k i a z nl nr nx){j:Nat}(hj:j<k.length):
  0<=fK k i a z (atN k j)/\(fK k i a z (atN k j)).toNat<z.length/\atN z (fK k i a z (atN k j)).toNat=atN a (atN i j):=by
 have e1:=jN h.kr hj;have e2:=jN h.sr (show j<i.length by rw[h.lk];exact hj);have e3:=jN h.ar (show atN i j<a.length by rw[h.al];exact e2.2);have hm:((atN k j:Nat):Int)∈k:=by rw[e1.1];exact aR hj
 have hix:aU k ((atN k j:Nat):Int)=j:=by rw[e1.1];exact zK h.kn hj
 have hv:a.getD (i.getD (aU k ((atN k j:Nat):Int)).toNat 0).toNat 0=((atN a (atN i j):Nat):Int):=by
  rw[hix,Int.toNat_natCast,e3.1];rfl
 have hz:((atN a (atN i j):Nat):Int)∈z:=by
  rw[aFA h.zr,h.zi _ e3.2];rintro⟨b,b1,b2,b3⟩;refine b3 ⟨j,hj,?_⟩;exact(aBp h.an h.ar (by rw[h.al];exact b1) (by rw[h.al];exact e2.2) b2).symm
 have hi:=eZ hz;unfold fK;rw[if_pos hm,hv];refine⟨hi.1,by omega,?_⟩;unfold atN at hi ⊢;rw[hi.2.2];omega
theorem yB.off{k i a z:List Int}{nl nr nx:Nat}(h:yB k i a z nl nr nx){j:Nat}(hj:(j:Int)∉k):fK k i a z j=((z.length+cK k j:Nat):Int):=if_neg hj
theorem yB.rng{k i a z:List Int}{nl nr nx:Nat}(h:yB k i a z nl nr nx){j:Nat}(hj:j<nl):0<=fK k i a z j/\(fK k i a z j).toNat<z.length+cK k nl:=by
 by_cases e:(j:Int)∈k
 .obtain⟨q,q1,rfl⟩:=(aFA h.kr).1 e;have:=h.at q1
  exact⟨this.1,by omega⟩
 .have:=aMe hj e
  rw[h.off e];omega
theorem aLv{s:Sp}(hs:aBe s){x:Gr}{a:Mo}(hm:Emb s.r x a):yB s.k.nodes s.i.nodes a.nodes (s.z a x).nodes s.l.nodes.length s.r.nodes.length x.nodes.length/\yB s.k.edges s.i.edges a.edges (s.z a x).edges s.l.edges.length s.r.edges.length x.edges.length:=by
 obtain⟨k1,k2⟩:=aHo hs.i;have zn:=aB6 (n:=x.nodes.length) hm.vm.ln hm.vm.n k1;have ze:=aB6 (n:=x.edges.length) hm.vm.le hm.vm.e k2;have l1:(exG s.l s.k).nodes.length=s.k.nodes.length:=by simp[exG]
 have l2:(exG s.l s.k).edges.length=s.k.edges.length:=by simp[exG]
 rw[l1] at zn;rw[l2] at ze;have hiv:=hs.i.vm;exact⟨⟨dK hs.k.sn,hs.k.n,hs.i.n,hiv.n,by rw[hiv.ln,l1],hm.n,hm.vm.n,hm.vm.ln,dK (jG (qF _ _ _)),fun v hv=>(eA.1 hv).1,zn⟩,
  ⟨dK hs.k.se,hs.k.e,hs.i.e,hiv.e,by rw[hiv.le,l2],hm.e,hm.vm.e,hm.vm.le,dK (jG (qF _ _ _)),fun v hv=>(eA.1 hv).1,ze⟩⟩
theorem aIo(r:Ru)(o:Ov):(xN r o).nodes.length=(eG r o).nodes.length+cK r.k.nodes r.lg.nodes.length/\(xN r o).edges.length=(eG r o).edges.length+cK r.k.edges r.lg.edges.length:=by
 constructor
 .simp[xN,exG,cK]
 .simp[xN,exG,cK]
def afA(k:List Int)(f:Nat->Int)(n j:Nat):List Int:=(List.range n).map fun (v:Nat)=>if (v:Int)∈k.take j then f v else 0
def afB(k:List Int)(f:Nat->Int)(n j:Nat):List Int:=(List.range n).map fun (v:Nat)=>if (v:Int)∈k∨(v:Int)∈(bE k n).take j then f v else 0
theorem aJw(k:List Int)(f:Nat->Int)(n j:Nat):(afA k f n j).length=n:=by simp[afA]
theorem aLe(k:List Int)(f:Nat->Int)(n j:Nat):(afB k f n j).length=n:=by simp[afB]
theorem aI5(k:List Int)(f:Nat->Int)(n:Nat):afA k f n 0=List.replicate n 0:=by
 refine List.ext_getElem (by simp[afA]) fun i h1 h2=>?_
 simp[afA]
theorem aEW{f g:Nat->Int}{n i:Nat}{x:Int}(hi:i<n)(h1:g i=x)(h2:∀v,v<n->v≠i->g v=f v):((List.range n).map f).set i x=(List.range n).map g:=by
 refine List.ext_getElem (by simp) fun v h3 h4=>?_
 have hv:v<n:=by simpa using h4
 rw[List.getElem_set];split
 .rename_i e;subst e;simp[h1]
 .rename_i e;simp[h2 v hv (fun h=>e h.symm)]
theorem aDs{k:List Int}{f:Nat->Int}{n j:Nat}(hn:k.Nodup)(hr:∀x∈k,0<=x/\x<(n:Int))(hj:j<k.length):(afA k f n j).set (k[j]).toNat (f (k[j]).toNat)=afA k f n (j+1):=by
 have h0:=hr _ (List.getElem_mem hj);have e0:(((k[j]).toNat:Nat):Int)=k[j]:=by omega
 have ht:k.take (j+1)=k.take j++[k[j]]:=List.take_succ_eq_append_getElem hj
 refine aEW (by omega) ?_ fun v hv hne=>?_
 .rw[if_pos];rw[ht,e0];exact List.mem_append_right _ (List.mem_singleton.2 rfl)
 .have:(v:Int)≠k[j]:=by omega
  have:(v:Int)∈k.take (j+1)↔(v:Int)∈k.take j:=by rw[ht,List.mem_append,List.mem_singleton];exact or_iff_left this
  by_cases hm:(v:Int)∈k.take j
  .rw[if_pos hm,if_pos (this.2 hm)]
  .rw[if_neg hm,if_neg (fun h=>hm (this.1 h))]
theorem aJV(k:List Int)(f:Nat->Int)(n:Nat):afA k f n k.length=afB k f n 0:=by
 unfold afA afB;refine List.map_congr_left fun v _=>?_
 simp
theorem aHn{k:List Int}{f:Nat->Int}{n j:Nat}(hj:j<(bE k n).length):(afB k f n j).set ((bE k n)[j]).toNat (f ((bE k n)[j]).toNat)=afB k f n (j+1):=by
 have h0:=vD _ (List.getElem_mem hj);generalize hm:(bE k n)[j]=x at *;have e0:((x.toNat:Nat):Int)=x:=by omega
 have ht:(bE k n).take (j+1)=(bE k n).take j++[x]:=by rw[List.take_succ_eq_append_getElem hj,hm]
 refine aEW (by omega) ?_ fun v hv hne=>?_
 .rw[if_pos];rw[ht,e0];simp
 .have:(v:Int)≠x:=by omega
  have:(v:Int)∈(bE k n).take (j+1)↔(v:Int)∈(bE k n).take j:=by rw[ht];simp[this]
  simp only[this]
theorem aIX{k:List Int}{n v:Nat}(hv:v<n)(h:(v:Int)∉k):(v:Int)∈bE k n:=List.mem_map.2 ⟨v,List.mem_filter.2 ⟨List.mem_range.2 hv,decide_eq_true h⟩,rfl⟩
theorem aJ2(k:List Int)(f:Nat->Int)(n:Nat):afB k f n (bE k n).length=(List.range n).map f:=by
 unfold afB;refine List.map_congr_left fun v hv=>?_
 rw[if_pos];rw[List.take_length];by_cases h:(v:Int)∈k
 .exact .inl h
 .exact .inr (aIX (List.mem_range.1 hv) h)
theorem aIp{k:List Int}:∀{n j:Nat} (hj:j<(bE k n).length),cK k ((bE k n)[j]).toNat=j/\((bE k n)[j]).toNat<n/\((((bE k n)[j]).toNat:Nat):Int)∉k:=fun {n j} hj=>by
 obtain⟨i,i1,i2,i3⟩:=aCE (k:=k) (n:=n) (b:=j) hj;have:=aE7 i1 i2
 rw[i3] at this;have e:(bE k n)[j]=(i:Int):=by rw[<-this];simp[hj]
 rw[e];simp only[Int.toNat_natCast];exact⟨i3,i1,i2⟩
structure BfA where
 i:Nat
 tok:Nat->Bool
 nt:Nat
structure BfB where
 i:Nat
 o:Own
 tok:Nat->Bool
 nt:Nat
abbrev Ov.row(o:Ov):List AV:=[.d (ints o.g.nodes),.d (AM.edges o.g.edges),.d (ints o.l.nodes),.d (ints o.l.edges),.d (ints o.r.nodes),.d (ints o.r.edges)]
abbrev aCF(g:Gr):List AV:=[.d (ints g.nodes),.d (AM.edges g.edges)]
def aGS(r:Ru)(f:Nat->Int)(n:Int):E:=⟨(r.lg.edges.getD n.toNat default).ty,f (r.lg.edges.getD n.toNat default).fr.toNat,f (r.lg.edges.getD n.toNat default).to.toNat⟩
def bfN(r:Ru)(i:Nat):List Int:=((bE r.k.nodes r.lg.nodes.length).take i).map fun n=>r.lg.nodes.getD n.toNat 0
def bfE(r:Ru)(f:Nat->Int)(i:Nat):List E:=((bE r.k.edges r.lg.edges.length).take i).map (aGS r f)
theorem aJc(r:Ru):bfN r 0=[]:=by simp[bfN]
theorem aHr(r:Ru)(f:Nat->Int):bfE r f 0=[]:=by simp[bfE]
theorem aKD{r:Ru}{i:Nat}(h:i<=(bE r.k.nodes r.lg.nodes.length).length):(bfN r i).length=i:=by unfold bfN;rw[List.length_map,List.length_take];omega
theorem aJ7{r:Ru}{f:Nat->Int}{i:Nat}(h:i<=(bE r.k.edges r.lg.edges.length).length):(bfE r f i).length=i:=by unfold bfE;rw[List.length_map,List.length_take];omega
theorem aIq{r:Ru}{i:Nat}(h:i<(bE r.k.nodes r.lg.nodes.length).length)(q:((bE r.k.nodes r.lg.nodes.length)[i]).toNat<r.lg.nodes.length):bfN r (i+1)=bfN r i++[r.lg.nodes[((bE r.k.nodes r.lg.nodes.length)[i]).toNat]]:=by
 unfold bfN;rw[List.take_succ_eq_append_getElem h,List.map_append,List.map_singleton,show r.lg.nodes.getD ((bE r.k.nodes r.lg.nodes.length)[i]).toNat 0=r.lg.nodes[((bE r.k.nodes r.lg.nodes.length)[i]).toNat] by simp[q]]
theorem aG8{r:Ru}{f:Nat->Int}{i:Nat}(h:i<(bE r.k.edges r.lg.edges.length).length)(q:((bE r.k.edges r.lg.edges.length)[i]).toNat<r.lg.edges.length):bfE r f (i+1)=bfE r f i++[⟨r.lg.edges[((bE r.k.edges r.lg.edges.length)[i]).toNat].ty,f r.lg.edges[((bE r.k.edges r.lg.edges.length)[i]).toNat].fr.toNat,f r.lg.edges[((bE r.k.edges r.lg.edges.length)[i]).toNat].to.toNat⟩]:=by
 unfold bfE;rw[List.take_succ_eq_append_getElem h,List.map_append,List.map_singleton];unfold aGS;rw[show r.lg.edges.getD ((bE r.k.edges r.lg.edges.length)[i]).toNat default=r.lg.edges[((bE r.k.edges r.lg.edges.length)[i]).toNat] by simp[q]]
theorem aJU(r:Ru):bfN r (bE r.k.nodes r.lg.nodes.length).length=(bE r.k.nodes r.lg.nodes.length).map fun n=>r.lg.nodes.getD n.toNat 0:=by unfold bfN;rw[List.take_length]
theorem aKj(r:Ru)(f:Nat->Int):bfE r f (bE r.k.edges r.lg.edges.length).length=(bE r.k.edges r.lg.edges.length).map (aGS r f):=by unfold bfE;rw[List.take_length]
def aLk(r:Ru)(o:Ov)(Z:Mo)(DN:List (List D))(DE:List (List D))(f:Nat->Int)(o1 o2:Own)(nb:Nat)(box:Bxs)(x:BfA):AS :=
 ⟨tl [(66,I x.i),(65,I r.k.nodes.length),(64,.d (ints r.k.nodes)),(12,.msl (nb+61) 0 r.lg.nodes.length 1),(11,.ptr (nb+11) 0 0),(9,.ptr (nb+9) 0 0),(7,.ptr (nb+7) 0 0),(4,.ptr (nb+4) 0 0),(3,.ptr (nb+3) 0 0),(2,.ptr (nb+2) 0 0)],
  lb nb box [(61,dG (afA r.k.nodes f r.lg.nodes.length x.i)),(11,[aCF r.lg]),(9,[[.osl 1 DN o1,.osl 3 DE o2]]),(7,[[.d (ints Z.nodes),.d (ints Z.edges)]]),(4,[[cQ,cQ]]),(3,[o.row]),(2,[r.row])],x.tok,x.nt⟩
def aL2(r:Ru)(Z:Mo)(DN:List Int)(DE:List (List D))(f:Nat->Int)(o2:Own)(nb:Nat)(box:Bxs)(x:BfB):AS :=
 ⟨tl [(97,I x.i),(96,I (bE r.k.nodes r.lg.nodes.length).length),(95,.d (ints (bE r.k.nodes r.lg.nodes.length))),(12,.msl (nb+61) 0 r.lg.nodes.length 1),(11,.ptr (nb+11) 0 0),(9,.ptr (nb+9) 0 0),(4,.ptr (nb+4) 0 0),(2,.ptr (nb+2) 0 0)],
  lb nb box [(61,dG (afB r.k.nodes f r.lg.nodes.length x.i)),(11,[aCF r.lg]),(9,[[.osl 1 (rI (DN++bfN r x.i)) x.o,.osl 3 DE o2]]),(4,[[cQ,cQ]]),(2,[r.row])],x.tok,x.nt⟩
def aLM(r:Ru)(DN:List Int)(DE:List E)(f:Nat->Int)(o1:Own)(nb:Nat)(box:Bxs)(x:BfB):AS :=
 ⟨tl [(126,I x.i),(125,I (bE r.k.edges r.lg.edges.length).length),(124,.d (ints (bE r.k.edges r.lg.edges.length))),(12,.msl (nb+61) 0 r.lg.nodes.length 1),(11,.ptr (nb+11) 0 0),(9,.ptr (nb+9) 0 0),(4,.ptr (nb+4) 0 0)],
  lb nb box [(61,dG ((List.range r.lg.nodes.length).map f)),(11,[aCF r.lg]),(9,[[.osl 1 (rI DN) o1,.osl 3 (rE (DE++bfE r f x.i)) x.o]]),(4,[[cQ,cQ]])],x.tok,x.nt⟩
set_option maxRecDepth 100000 in
theorem aGz(r:Ru)(hr:r.Fit)(o:Ov)(ho:o.Fit)(hs:aBe r.sp)(va:vG r.lg=0)(hm:Emb r.rg o.g o.l):DC 89 [r.av,o.av] (.tup [(lV r o).1.av,B (lV r o).2]):=by
 intro tok nt box nb;have s1:=aAv r.i.nodes hr.i.n;have s2:=aAv r.i.edges hr.i.e;have hi:VP r.rg (kpI r):=aA9 hs.i
 have hC:=aNO r.rg o.g (kpI r) o.l hr.rg ho.g ho.l hi.emb.fit.1 hm hi;have eI:kpI r=⟨cX r.i.nodes,cX r.i.edges⟩:=aGp hs.i
 rw[eI] at hC;refine sI func89 ntmps89 fun Hb Ht=>?_
 repeat first|simp|refine sR ?_
 refine sD (s1 _ _) ?_;repeat first|simp|refine sR ?_
 refine sD (s2 _ _) ?_;repeat first|simp|refine sR ?_
 refine sD (hC _ _) ?_;simp;rw[<-eI];by_cases hd:jF o.g (kpI r) o.l=true
 .have e:uG r.rg o.g (kpI r) o.l=(⟨[],[]⟩,14):=if_pos hd
  have e2:lV r o=(⟨[],[]⟩,false):=if_pos hd
  rw[e,e2];try (simp)
  repeat ((first|refine sR ?_|refine sC ?_|refine sX ?_);simp)
  refine sT (sH Hb Ht ?_);simp[ints,AM.edges]
 .have hd':jF o.g (kpI r) o.l=false:=by simpa using hd
  have e:uG r.rg o.g (kpI r) o.l=(eG r o,0):=if_neg hd
  have e2:lV r o=(xN r o,true):=if_neg hd
  rw[e,e2];have vz:VP o.g (eG r o):=Sp.z_vp (s:=r.sp) hs hm hd'
  have fz:=vz.emb.fit.1;obtain⟨bn,be⟩:=aLv (s:=r.sp) hs hm;have bn:yB r.k.nodes r.i.nodes o.l.nodes (eG r o).nodes r.lg.nodes.length r.rg.nodes.length o.g.nodes.length:=bn
  have hx:=aDC o.g (eG r o) ho.g fz vz;have hG:xN r o=⟨(exG o.g (eG r o)).nodes++(bE r.k.nodes r.lg.nodes.length).map fun n=>r.lg.nodes.getD n.toNat 0,(exG o.g (eG r o)).edges++(bE r.k.edges r.lg.edges.length).map (aGS r (rP r o))⟩:=rfl
  have hDl:(exG o.g (eG r o)).nodes.length=(eG r o).nodes.length:=by simp[exG]
  have hEl:(exG o.g (eG r o)).edges.length=(eG r o).edges.length:=by simp[exG]
  have hat:∀j (hj:j<r.k.nodes.length),(r.k.nodes[j]).toNat<r.lg.nodes.length/\aU (eG r o).nodes (o.l.nodes.getD (r.i.nodes.getD j 0).toNat 0)=rP r o (r.k.nodes[j]).toNat:=fun j hj=>by
   have h1:=bn.kr _ (List.getElem_mem hj);have e0:(((r.k.nodes[j]).toNat:Nat):Int)=r.k.nodes[j]:=by omega
   have hix:aU r.k.nodes r.k.nodes[j]=j:=by
    have:=zK bn.kn hj
    rwa [show r.k.nodes.getD j 0=r.k.nodes[j] by simp[hj]] at this
   refine⟨by omega,?_⟩;unfold rP;rw[e0,if_pos (List.getElem_mem hj),hix,Int.toNat_natCast]
  have hoff:∀j (hj:j<(bE r.k.nodes r.lg.nodes.length).length),rP r o ((bE r.k.nodes r.lg.nodes.length)[j]).toNat=(((exG o.g (eG r o)).nodes.length+j:Nat):Int):=fun j hj=>by
   obtain⟨c1,c2,c3⟩:=aIp hj;unfold rP;rw[if_neg c3];unfold cK at c1;rw[c1]
  rw[hG,<-aJU,<-aKj];unfold QEx at hx;generalize rP r o=f at *;generalize hZ:eG r o=Z at *;generalize exG o.g Z=D0 at *;have hln:=hr.lg.n;have hle:=hr.lg.e;have hkn:=hr.k.n;have hke:=hr.k.e;have hzn:=fz.n;have hze:=fz.e;have hxp:=aE va;try (simp)
  repeat ((first|refine sR ?_|refine sC ?_|refine sX ?_);simp)
  refine aN.of_a (hx _ _ _ _) ?_;rintro v m' ⟨o1,o2,tok1,nt1,rfl,rfl,htk1⟩;try (simp)
  repeat ((first|refine sR ?_|refine sC ?_|refine sX ?_);simp)
  have hidx:=fun v=>aEM Z.nodes v hzn
  refine⟨by omega,?_⟩;try (simp)
  repeat ((first|refine sR ?_|refine sC ?_|refine sX ?_);simp)
  refine sN ?_;refine sL (aLk r o Z (rI D0.nodes) (rE D0.edges) f o1 o2 nb box) (fun x=>x.i<=r.k.nodes.length/\TK tok nt x.tok x.nt [o1,o2]) (fun x=>r.k.nodes.length-x.i) ⟨0,tok1,nt1⟩ ⟨Nat.zero_le _,htk1⟩ (wM htk1.le rfl (by simp[ToL,lk]) (by simp[aC,lk,aI5])) ?_;rintro⟨i,tok2,nt2⟩ S ⟨hi,htk2⟩ hS;simp only[aLk] at hS hi htk2;subst hS;have hw:=sW (i:=i) (by omega);by_cases hlt:i<r.k.nodes.length
  .have lt2:i<r.i.nodes.length:=by rw[bn.lk];exact hlt
   have hy:=bn.sr _ (List.getElem_mem lt2);have hy0:=hy.1;have hy1:r.i.nodes[i]<(o.l.nodes.length:Int):=by rw[bn.al];exact hy.2
   have hy2:r.i.nodes[i].toNat<o.l.nodes.length:=by omega
   have hA:=hat i hlt;have hA2:aU Z.nodes o.l.nodes[r.i.nodes[i].toNat]=f (r.k.nodes[i]).toNat:=by
    rw[<-hA.2];simp[lt2,hy2]
   obtain⟨hk0,hk1⟩:=bn.kr _ (List.getElem_mem hlt);have hsuc:=aDs (f:=f) bn.kn bn.kr hlt;have hal:=aJw r.k.nodes f r.lg.nodes.length i;have hsucc:=aDs (f:=f) bn.kn bn.kr hlt;try (simp[hlt,lt2,hy0,hy1,hy2])
   repeat ((first|refine sR ?_|refine sC ?_|refine sX ?_);simp[hlt,lt2,hy0,hy1,hy2])
   refine sD (hidx _ _ _) ?_;rw[hA2];try (simp[hk0,hk1,hal,hA.1,hw])
   repeat ((first|refine sR ?_|refine sC ?_|refine sX ?_);simp[hk0,hk1,hal,hA.1,hw])
   refine sE ?_;exact⟨⟨i+1,tok2,nt2⟩,⟨hlt,htk2⟩,by simp only;omega,wM htk2.le rfl (by simp[ToL,lk]) (by simp[aC,lk,hsucc])⟩
  .have:i=r.k.nodes.length:=by omega
   subst this;have c1:=aAf r.k.nodes hkn r.lg.nodes.length hln;try (simp)
   repeat ((first|refine sR ?_|refine sC ?_|refine sX ?_);simp)
   refine sD (c1 _ _) ?_;simp;try (simp)
   repeat ((first|refine sR ?_|refine sC ?_|refine sX ?_);simp)
   refine sN ?_;refine sL (aL2 r Z D0.nodes (rE D0.edges) f o2 nb box) (fun x=>x.i<=(bE r.k.nodes r.lg.nodes.length).length/\TK tok nt x.tok x.nt [x.o,o2]) (fun x=>(bE r.k.nodes r.lg.nodes.length).length-x.i) ⟨0,o1,tok2,nt2⟩ ⟨Nat.zero_le _,htk2⟩ (wM htk2.le rfl (by simp[ToL,lk]) (by simp[aC,lk,aJV,aJc])) ?_;rintro⟨i,o3,tok3,nt3⟩ S ⟨hi,htk3⟩ hS;simp only[aL2] at hS hi htk3;subst hS;have hml:=nH r.k.nodes r.lg.nodes.length;have hw:=sW (i:=i) (by omega);by_cases hlt:i<(bE r.k.nodes r.lg.nodes.length).length
   .obtain⟨q0,q1⟩:=vD _ (List.getElem_mem hlt);have q2:((bE r.k.nodes r.lg.nodes.length)[i]).toNat<r.lg.nodes.length:=by omega
    have hsucc:=aHn (f:=f) hlt;rw[hoff i hlt,Int.natCast_add] at hsucc;have hal:=aLe r.k.nodes f r.lg.nodes.length i;have ht:=aIq hlt q2;have hl2:=aKD hi;try (simp[hlt,q0,q1,q2,hal,hl2])
    repeat ((first|refine sR ?_|refine sC ?_|refine sX ?_);simp[hlt,q0,q1,q2,hal,hl2])
    refine⟨⟨by omega,htk3.live⟩,?_⟩;try (simp[hw])
    repeat ((first|refine sR ?_|refine sC ?_|refine sX ?_);simp[hw])
    refine sE ?_;exact⟨⟨i+1,_,_,_⟩,⟨hlt,htk3.app⟩,by simp only;omega,wM htk3.app.le rfl (by simp[ToL,lk]) (by simp[aC,lk,hsucc,ht])⟩
   .have:i=(bE r.k.nodes r.lg.nodes.length).length:=by omega
    subst this;have c2:=aAf r.k.edges hke r.lg.edges.length hle;try (simp)
    repeat ((first|refine sR ?_|refine sC ?_|refine sX ?_);simp)
    refine sD (c2 _ _) ?_;simp;try (simp)
    repeat ((first|refine sR ?_|refine sC ?_|refine sX ?_);simp)
    refine sN ?_;refine sL (aLM r (D0.nodes++bfN r (bE r.k.nodes r.lg.nodes.length).length) D0.edges f o3 nb box) (fun x=>x.i<=(bE r.k.edges r.lg.edges.length).length/\TK tok nt x.tok x.nt [x.o,o3]) (fun x=>(bE r.k.edges r.lg.edges.length).length-x.i) ⟨0,o2,tok3,nt3⟩ ⟨Nat.zero_le _,htk3.swap⟩ (wM htk3.le rfl (by simp[ToL,lk]) (by simp[aC,lk,aJ2,aHr])) ?_;rintro⟨i,o4,tok4,nt4⟩ S ⟨hi,htk4⟩ hS;simp only[aLM] at hS hi htk4;subst hS;have hml2:=nH r.k.edges r.lg.edges.length;have hw:=sW (i:=i) (by omega);by_cases hlt:i<(bE r.k.edges r.lg.edges.length).length
    .obtain⟨q0,q1⟩:=vD _ (List.getElem_mem hlt);have q2:((bE r.k.edges r.lg.edges.length)[i]).toNat<r.lg.edges.length:=by omega
     have ht:=aG8 (f:=f) hlt q2;have hx1:=hxp _ (List.getElem_mem q2);obtain⟨f1,f2,f3,f4⟩:=hx1;have f5:r.lg.edges[((bE r.k.edges r.lg.edges.length)[i]).toNat].fr.toNat<r.lg.nodes.length:=by omega
     have f6:r.lg.edges[((bE r.k.edges r.lg.edges.length)[i]).toNat].to.toNat<r.lg.nodes.length:=by omega
     have hl2:=aJ7 (f:=f) hi;try (simp[hlt,q0,q1,q2])
     repeat ((first|refine sR ?_|refine sC ?_|refine sX ?_);simp[hlt,q0,q1,q2])
     try (simp[f1,f2,f3,f4,f5,f6,hl2])
     repeat ((first|refine sR ?_|refine sC ?_|refine sX ?_);simp[f1,f2,f3,f4,f5,f6,hl2])
     refine⟨⟨by omega,htk4.live⟩,?_⟩;try (simp[hw])
     repeat ((first|refine sR ?_|refine sC ?_|refine sX ?_);simp[hw])
     refine sE ?_;exact⟨⟨i+1,_,_,_⟩,⟨hlt,htk4.app⟩,by simp only;omega,wM htk4.app.le rfl (by simp[ToL,lk]) (by simp[aC,lk,ht])⟩
    .have:i=(bE r.k.edges r.lg.edges.length).length:=by omega
     subst this;try (simp)
     repeat ((first|refine sR ?_|refine sC ?_|refine sX ?_);simp)
     refine sT (sG Hb Ht htk4.old htk4.le ?_);simp[ints,AM.edges]
theorem aDu{t:Ty}{p g:Gr}{inj:Bool}(ht:t.Fit)(hp:p.Fit)(hg:g.Fit)(h:lW t p g=0):(pX t p g inj).Ok:=by
 have a:=aIA (inj:=inj) ht hp hg h;exact⟨a.t,a.tp,a.p,a.g,Nat.zero_le _,a.vp,a.pn,a.pe,a.np,a.ng⟩
theorem aKU{t:Ty}{l:List Co}{g:Gr}:vK t l g<l.length↔∃c∈l,nP t g c=true:=List.findIdx_lt_length
theorem aF0{t:Ty}{L:List Ru}{l:List Co}:(lZ t L l).2=0↔(dX t L l).2=0/\jQ t l (dX t L l).1=[]:=by
 unfold lZ;by_cases h:(dX t L l).2=0
 .rw[if_neg (by simp[h])];unfold aHD jQ;rw[List.map_eq_nil_iff,List.filter_eq_nil_iff];by_cases e:(dX t L l).1.all (fun d=>(iI t l d).2)=true
  .rw[if_pos e];have e:=List.all_eq_true.1 e;exact⟨fun _=>⟨h,fun d hd=>by simp[e d hd]⟩,fun _=>rfl⟩
  .rw[if_neg e];refine⟨fun h=>(by cases h),fun ⟨_,h2⟩=>absurd (List.all_eq_true.2 fun d hd=>?_) e⟩;have:=h2 d hd
   simpa using this
 .rw[if_pos h];exact⟨fun h2=>absurd h2 h,fun h2=>absurd h2.1 h⟩
set_option maxRecDepth 100000 in
theorem aDf(t:Ty)(ht:t.Fit)(p g:Gr)(hp:p.Fit)(hg:g.Fit)(inj:Bool):DC 81 [t.av,p.av,g.av,B inj] (.tup [(mX t p g inj).1.av,I (mX t p g inj).2]):=by
 intro tok nt box nb;have hv:=aIK t ht p g hp hg;obtain⟨R,hR⟩:∃R,mX t p g inj=R:=⟨_,rfl⟩
 rw[hR];unfold mX at hR;refine sI func81 ntmps81 fun Hb Ht=>?_
 repeat first|simp|refine sR ?_
 refine sD (hv _ _) ?_;simp;by_cases c1:lW t p g=0
 .rw[if_neg (by simp[c1])] at hR;have hok:=aDu (inj:=inj) ht hp hg c1;have h0:tyE t=0:=(sV c1).1
  have hnl:(pX t p g inj).Nl true:=⟨fun _ x hx=>List.eq_of_mem_replicate hx,fun _ x hx=>List.eq_of_mem_replicate hx⟩
  have hfo:=aIP (pX t p g inj) hok h0 true hnl 1 (by omega);have hL:(pX t p g inj).fnP 1 (pX t p g inj).p.nodes.length [] []=aHc t p g inj:=Sr.fnP_fnR hok
  unfold QFo at hfo;rw[hL] at hfo;try (simp[c1])
  repeat ((first|refine sR ?_|refine sC ?_|refine sX ?_);simp[c1])
  refine aN.sub (args':=[t.av,p.av,g.av,.agg [.d (.raw aJY),.d (.raw aJY)],B inj,I 1]) ⟨Sub.refl _,Sub.refl _,Sub.refl _,Sub.agg ⟨Sub.nilv,Sub.nilv,trivial⟩,Sub.refl _,Sub.refl _,trivial⟩ ?_;refine aN.of_a (hfo _ _ _ _) ?_;generalize aHc t p g inj=L at *;rintro v m' ⟨own,tok2,nt2,rfl,rfl,htk⟩;cases L with
  | nil =>
   try (simp)
   repeat ((first|refine sR ?_|refine sC ?_|refine sX ?_);simp)
   refine sT (sG Hb Ht htk.old htk.le ?_);simp[<-hR,hdM,ints]
  | cons m r =>
   have n1:¬((r.length:Int)+1=0):=by omega
   have n2:((r.length:Int)+1==0)=false:=by simpa using n1
   try (simp[n1,n2])
   repeat ((first|refine sR ?_|refine sC ?_|refine sX ?_);simp[n1,n2])
   refine sT (sG Hb Ht htk.old htk.le ?_);simp[<-hR,hdM,ints]
 .rw[if_pos c1] at hR;try (simp[c1])
  repeat ((first|refine sR ?_|refine sC ?_|refine sX ?_);simp[c1])
  refine sT (sH Hb Ht ?_);simp[<-hR,ints]
set_option maxRecDepth 100000 in
theorem aF7(t:Ty)(ht:t.Fit)(p g:Gr)(hp:p.Fit)(hg:g.Fit)(inj:Bool):DC 90 [t.av,p.av,g.av,B inj] (.tup [(mX t p g inj).1.av,I (mX t p g inj).2]):=by
 intro tok nt box nb;have hgv:=aAt t ht p g hp hg;have hop:=aHw p hp;obtain⟨R,hR⟩:∃R,mX t p g inj=R:=⟨_,rfl⟩
 rw[hR];unfold mX at hR;refine sI func90 ntmps90 fun Hb Ht=>?_
 repeat first|simp|refine sR ?_
 refine sD (hgv _ _) ?_;simp;by_cases c1:lW t p g=0
 .rw[if_neg (by simp[c1])] at hR;have hok:=aDu (inj:=inj) ht hp hg c1;have hrun:=aKz (pX t p g inj) hok;have hL:(pX t p g inj).fnR (pX t p g inj).p.nodes.length [] []=aHc t p g inj:=rfl
  rw[hL] at hrun;try (simp[c1])
  repeat ((first|refine sR ?_|refine sC ?_|refine sX ?_);simp[c1])
  refine sD (hop _ _) ?_;simp;refine sD (hrun _ _) ?_;generalize aHc t p g inj=L at *;cases L with
  | nil =>
   try (simp)
   repeat ((first|refine sR ?_|refine sC ?_|refine sX ?_);simp)
   refine sT (sH Hb Ht ?_);simp[<-hR,hdM,ints]
  | cons m r =>
   have n1:¬((r.length:Int)+1=0):=by omega
   have n2:((r.length:Int)+1==0)=false:=by simpa using n1
   try (simp[n1,n2])
   repeat ((first|refine sR ?_|refine sC ?_|refine sX ?_);simp[n1,n2])
   refine sT (sH Hb Ht ?_);simp[<-hR,hdM,ints]
 .rw[if_pos c1] at hR;try (simp[c1])
  repeat ((first|refine sR ?_|refine sC ?_|refine sX ?_);simp[c1])
  refine sT (sH Hb Ht ?_);simp[<-hR,ints]
structure aPN (t:Ty) (r:Ru):Prop where
 sp:aBe r.sp
 hl:Lf t r.lg
 hr:Lf t r.rg
theorem aMr{t:Ty}{r:Ru}(ht:tyE t=0)(h:ruE t r=0):cN r=0/\dB t r.lg=true/\dB t r.rg=true:=by
 unfold ruE at h;split at h
 .rename_i h1;exact absurd h h1
 .rename_i h1;split at h
  .rename_i h2;split at h
   .rename_i h3;exact⟨by simpa using h1,h2,h3⟩
   .cases h
  .cases h
theorem aHy{t:Ty}{g:Gr}(ht:tyE t=0)(va:vG g=0)(h:dB t g=true):Lf t g:=by
 unfold dB at h;split at h
 .rename_i h1;have h1:=List.all_eq_true.1 h1;have h2:=List.all_eq_true.1 h;refine⟨ht,va,fun x hx=>?_,fun e he=>h2 e he⟩;have:=h1 x hx
  have h3:=(bG va).2.1 x hx;simp only[bA,Bool.and_eq_true,decide_eq_true_eq] at h3;unfold lvN at this;split at this
  .cases this
  .exact⟨by omega,this⟩
 .cases h
theorem aMY{t:Ty}{L:List Ru}{l:List Co}{d:Du}:d∈duL t L l L.length↔∃i k n:Nat,∃(hi:i<L.length) (hk:k<l.length) (hn:n<(cF t L[i] l[k]).1.length),d=⟨⟨i,k,n,(lV L[i] (cF t L[i] l[k]).1[n]).1⟩,(lV L[i] (cF t L[i] l[k]).1[n]).2⟩:=by
 unfold duL duK;simp only[List.mem_flatMap,List.mem_range];constructor
 .rintro⟨i,hi,k,hk,h⟩;unfold duC duW duN at h;rw[List.getElem?_eq_getElem hi,List.getElem?_eq_getElem hk] at h;simp only[List.mem_map,List.mem_range] at h;obtain⟨n,hn,rfl⟩:=h;refine⟨i,k,n,hi,hk,hn,?_⟩;simp[hn]
 .rintro⟨i,k,n,hi,hk,hn,rfl⟩;refine⟨i,hi,k,hk,?_⟩;unfold duC duW duN;rw[List.getElem?_eq_getElem hi,List.getElem?_eq_getElem hk];simp only[List.mem_map,List.mem_range];exact⟨n,hn,by simp[hn]⟩
theorem kP{t:Ty}{L:List Ru}{l:List Co}(h:fL t L l=0):tyE t=0/\(∀r∈L,ruE t r=0)/\(∀c∈l,cnE t c=0/\c.kind=1)/\L.length<=6/\l.length<=8:=by
 unfold fL at h;split at h
 .rename_i h1;exact absurd h h1
 rename_i h1;split at h
 .cases h
 rename_i h2;split at h
 .rename_i h3;exact absurd h h3
 rename_i h3;have h3:aA (rL t L) L.length=0:=by simpa using h3
 refine⟨by simpa using h1,fun r hr=>?_,fun c hc=>?_,by omega,by omega⟩
 .obtain⟨i,hi,rfl⟩:=List.getElem_of_mem hr;have:=dY _ h3 i hi
  unfold rL at this;rw[List.getElem?_eq_getElem hi] at this;exact this
 .obtain⟨i,hi,rfl⟩:=List.getElem_of_mem hc;have:=dY _ h i hi
  unfold wL at this;rw[List.getElem?_eq_getElem hi] at this;unfold coE at this;simp only at this;split at this
  .rename_i h4;exact absurd this h4
  .rename_i h4;split at this
   .rename_i h5;exact⟨by simpa using h4,h5⟩
   .cases this
theorem aJl{t:Ty}{r:Ru}(ht:tyE t=0)(h:ruE t r=0):aPN t r:=by
 obtain⟨h1,h2,h3⟩:=aMr ht h;obtain⟨s,a,b⟩:=gD h1;exact⟨s,aHy ht a h2,aHy ht b h3⟩
abbrev bS(l:List Co):D:=.sl 5 (rCo l)
def aLC(xs:List Co)(f:FuncId)(caps:List AV)(nb:Nat)(box:Bxs)(tok:Tks)(nt:Nat)(i:Nat):AS:=⟨tl [(0,.d (bS xs)),(1,.fn (.func f) caps),(7,I xs.length),(8,I i)],lb nb box [],tok,nt⟩
theorem yK(xs:List Co)(f:FuncId)(caps:List AV)(p:Co->Bool)(hx:xs.length<=1000000)(box:Bxs)(nb:Nat)(tok:Tks)(nt:Nat)(hc:∀c∈caps,bF (fun k=>box k≠none) (fun _=>True) c)(hf:∀x∈xs,∀box' nb',Ext box box'->aD prog f (x.av::caps) ⟨box',nb',tok,nt⟩ fun v m=>v=B (p x)/\m=⟨box',nb',tok,nt⟩):
  aD prog 134 [.d (bS xs),.fn (.func f) caps] ⟨box,nb,tok,nt⟩ fun v m=>v=I (if bB p xs=true then (xs.findIdx p:Nat) else -1)/\m=⟨box,nb,tok,nt⟩:=by
 refine sI func134 ntmps134 fun Hb Ht=>?_
 repeat first|simp|refine sR ?_
 refine sN ?_;refine sL (aLC xs f caps nb box tok nt) (fun i=>i<=xs.length/\∀x∈xs.take i,p x=false) (fun i=>xs.length-i) 0 ⟨Nat.zero_le _,by simp⟩ (wM (nr0 _) rfl (by simp[ToL];exact .same (lC hc Hb [] (by simp) rfl _)) trivial) ?_;rintro i S' ⟨hi,htk⟩ hS;simp only[aLC] at hS;subst hS;have hw:=sW (i:=i) (by omega);repeat first|simp|refine sR ?_|refine sC ?_
 refine⟨fun hlt=>?_,fun hge=>?_⟩
 .have hfx:=hf xs[i] (List.getElem_mem _);have hpx:p xs[i]=true->bB p xs=true/\(xs.findIdx p=i):=fun he=>kM hlt htk he
  have hmore:p xs[i]=false->∀x∈xs.take (i+1),p x=false:=fun he x hx=>by
   rw[List.take_succ_eq_append_getElem hlt] at hx;rcases List.mem_append.1 hx with hx|hx
   .exact htk x hx
   .simp at hx;rw[hx];exact he
  repeat first|simp[hlt]|refine sR ?_
  generalize xs[i]=x at *;refine aN.of_b (hfx _ _ ((Ext.refl box).lb Hb [])) ?_;simp;cases he:p x
  .refine sC ?_;simp;repeat first|simp[hw]|refine sR ?_
   refine sE ?_;refine⟨i+1,⟨hlt,?_⟩,by omega,wM (nr0 _) rfl (by simp[ToL];exact .same (lC hc Hb [] (by simp) rfl _)) trivial⟩;exact hmore he
  .obtain⟨h1,h2⟩:=hpx he;refine sC ?_;repeat first|simp|refine sR ?_
   refine sT (sH Hb Ht ?_);simp[h1,h2]
 .have hn:bB p xs=false:=by
   rw[List.take_of_length_le hge] at htk;simpa[bB] using htk
  refine sX ?_;simp only[AU,↓reduceIte];repeat first|simp|refine sR ?_
  refine sT (sH Hb Ht ?_);simp[hn]
theorem sY(xs:List Co)(f:FuncId)(caps:List AV)(p:Co->Bool)(hx:xs.length<=1000000)(box:Bxs)(nb:Nat)(tok:Tks)(nt:Nat)(hc:∀c∈caps,bF (fun k=>box k≠none) (fun _=>True) c)(hf:∀x∈xs,∀box' nb',Ext box box'->aD prog f (x.av::caps) ⟨box',nb',tok,nt⟩ fun v m=>v=B (p x)/\m=⟨box',nb',tok,nt⟩):
  aD prog 85 [.d (bS xs),.fn (.func f) caps] ⟨box,nb,tok,nt⟩ fun v m=>v=B (bB p xs)/\m=⟨box,nb,tok,nt⟩:=by
 obtain⟨A,hany⟩:∃A,bB p xs=A:=⟨_,rfl⟩
 have hi:=fun b nb' h1 h2=>yK xs f caps p hx b nb' tok nt h1 h2
 rw[hany];simp only[hany] at hi;refine sI func85 ntmps85 fun Hb Ht=>?_
 repeat first|simp|refine sR ?_
 refine aN.of_b (hi (lb nb box []) _ (fun c h=>(hc c h).mono (fun k hk=>by rw[Hb];exact hk) fun _ h=>h) (fun x hx' box' nb' he=>hf x hx' box' nb' (by rw[Hb] at he;exact he))) ?_;simp;cases A
 .repeat first|simp|refine sR ?_
  refine sT (sH Hb Ht ?_);simp
 .have h0:(0:Int)<=(xs.findIdx p:Nat):=by omega
  repeat first|simp|refine sR ?_
  refine sT (sH Hb Ht ?_);simp[h0]
def emC:Co:=⟨⟨#[101,109,112,116,121]⟩,1,⟨[],[]⟩,[]⟩
theorem aM6{t:Ty}(h:tyE t=0):cnE t emC=0:=by
 have hs:lA emC=0:=by decide +kernel
 have hl:lvX t emC=true:=by
  unfold lvX dB;rfl
 unfold cnE;rw[if_neg (by simp[h]),if_neg (by simp[hs]),if_pos hl]
theorem aH3{b:Gr}(hb:vG b=0):(oR b ⟨[],[]⟩).2=0:=by
 have hl:=(bG hb).1;have h2:=vW b ⟨[],[]⟩ 0 [] [];have h2:(ovN b ⟨[],[]⟩ (Gr.mk [] []).nodes.length [] []).length<=1:=by simpa using h2
 unfold oR;rw[if_neg (by simp[hb]),if_neg (by decide),if_neg (by simp;omega),if_neg (by omega)]
theorem aKk{t:Ty}{r:Ru}(h:tyE t=0):(cF t r emC).2=ruE t r:=by
 unfold cF rM ruE;rw[aM6 h];by_cases h1:cN r=0
 .have hv:=(gD h1).2.2;cases e1:dB t r.lg<;>cases e2:dB t r.rg<;>simp[h,h1,emC,aH3 hv]
 .simp[h,h1]
theorem aKC:emC.Fit:=⟨by decide,⟨by decide,by decide⟩,by decide,fun x hx=>absurd hx (by simp[emC])⟩
theorem xQ{L:List Ru}{i:Nat}(h:i<L.length):(L.map Ru.rowK)[i]?=some L[i].rowK:=by simp[h]
abbrev fD(t:Ty):List AV:=[.d (nts t.nodes),.d (ets t.edges)]
def aNY(t:Ty)(L:List Ru)(l:List Co)(nb:Nat)(box:Bxs)(tok:Tks)(nt:Nat)(i:Nat):AS :=
 ⟨tl [(34,I i),(33,I L.length),(32,.d (eS L)),(2,.d (bS l)),(3,.ptr (nb+3) 0 0)],lb nb box [(3,[fD t])],tok,nt⟩
def aOT(t:Ty)(l:List Co)(nb:Nat)(box:Bxs)(tok:Tks)(nt:Nat)(i:Nat):AS :=
 ⟨tl [(51,I i),(50,I l.length),(49,.d (bS l)),(3,.ptr (nb+3) 0 0)],lb nb box [(3,[fD t])],tok,nt⟩
structure bT (t:Ty) (L:List Ru) (l:List Co):Prop where
 t:t.Fit
 L:∀r∈L,r.Fit
 l:∀c∈l,c.Fit
theorem aHk{t:Ty}{L:List Ru}{l:List Co}{i:Nat}{e:Int}(h0:tyE t=0)(h1:¬(6<L.length∨8<l.length))(h2:aA (rL t L) i=0)(hi:i<L.length)(he:ruE t L[i]=e)(hne:e≠0):fL t L l=e:=by
 have ha:rL t L i=e:=by unfold rL;rw[List.getElem?_eq_getElem hi];exact he
 have:=aL h2 (by rw[ha];exact hne) L.length hi
 unfold fL;rw[if_neg (by simp[h0]),if_neg h1,this,ha,if_pos hne]
theorem aHU{t:Ty}{L:List Ru}{l:List Co}{i:Nat}{e:Int}(h0:tyE t=0)(h1:¬(6<L.length∨8<l.length))(hr:aA (rL t L) L.length=0)(h2:aA (wL t l) i=0)(hi:i<l.length)(he:coE t l[i]=e)(hne:e≠0):fL t L l=e:=by
 have ha:wL t l i=e:=by unfold wL;rw[List.getElem?_eq_getElem hi];exact he
 have:=aL h2 (by rw[ha];exact hne) l.length hi
 unfold fL;rw[if_neg (by simp[h0]),if_neg h1,if_neg (by simp[hr]),this,ha]
set_option maxRecDepth 100000 in
theorem aHu(t:Ty)(L:List Ru)(l:List Co)(h:bT t L l)(hL:L.length<=1000000)(hl:l.length<=1000000):DC 76 [t.av,.d (eS L),.d (bS l)] (I (fL t L l)):=by
 intro tok nt box nb;have hv:=nC t h.t h.t.hM;obtain⟨R,hR⟩:∃R,fL t L l=R:=⟨_,rfl⟩
 rw[hR];refine sI func76 ntmps76 fun Hb Ht=>?_
 repeat first|simp|refine sR ?_
 refine sD (hv _ _) ?_;simp;by_cases e0:tyE t=0
 case neg =>
  have:R=tyE t:=by rw[<-hR];unfold fL;rw[if_pos e0]
  subst this;try (simp[e0])
  repeat ((first|refine sR ?_|refine sC ?_|refine sX ?_);simp[e0])
  refine sT (sH Hb Ht ?_);simp
 by_cases c1:6<L.length
 .have:R=3:=by rw[<-hR];unfold fL;rw[if_neg (by simp[e0]),if_pos (.inl c1)]
  subst this;have b1:(6:Int)<L.length:=by omega
  try (simp[e0,b1])
  repeat ((first|refine sR ?_|refine sC ?_|refine sX ?_);simp[e0,b1])
  refine sT (sH Hb Ht ?_);simp
 by_cases c2:8<l.length
 .have:R=3:=by rw[<-hR];unfold fL;rw[if_neg (by simp[e0]),if_pos (.inr c2)]
  subst this;have b1:¬(6:Int)<L.length:=by omega
  have b2:(8:Int)<l.length:=by omega
  try (simp[e0,b1,b2])
  repeat ((first|refine sR ?_|refine sC ?_|refine sX ?_);simp[e0,b1,b2])
  refine sT (sH Hb Ht ?_);simp
 have b1:¬(6:Int)<L.length:=by omega
 have b2:¬(8:Int)<l.length:=by omega
 have hc:¬(6<L.length∨8<l.length):=by omega
 try (simp[e0,b1,b2])
 repeat ((first|refine sR ?_|refine sC ?_|refine sX ?_);simp[e0,b1,b2])
 refine sN ?_;refine sL (aNY t L l nb box tok nt) (fun i=>i<=L.length/\aA (rL t L) i=0) (fun i=>L.length-i) 0 ⟨Nat.zero_le _,rfl⟩ wkA ?_;rintro i S ⟨hi,hok⟩ hS;simp only[aNY] at hS;subst hS;have hw:=sW (i:=i) (by omega);by_cases hlt:i<L.length
 .have hg:=fun {e:Int} he hne=>aHk (l:=l) (e:=e) e0 hc hok hlt he hne
  have hfr:=h.L _ (List.getElem_mem hlt);have hat:rL t L i=ruE t L[i]:=by unfold rL;rw[List.getElem?_eq_getElem hlt]
  have hget:=xQ hlt;have hwy:=aFI t h.t L[i] hfr emC aKC;have hwe:=aKk (r:=L[i]) e0;obtain⟨W,hW⟩:∃W,cF t L[i] emC=W:=⟨_,rfl⟩
  rw[hW] at hwy hwe;try (simp[hlt,hget,Ru.rowK])
  repeat ((first|refine sR ?_|refine sC ?_|refine sX ?_);simp[hlt,hget,Ru.rowK])
  refine aN.sub (args':=[t.av,L[i].av,emC.av]) ⟨Sub.refl _,Sub.refl _,Sub.agg ⟨Sub.refl _,Sub.refl _,Sub.nil _ _ _,Sub.nil _ _ _,Sub.nil _ _ _,trivial⟩,trivial⟩ ?_;refine sD (hwy _ _) ?_;simp;by_cases e1:W.2=0
  .rw[e1] at hwe;try (simp[e1,hw])
   repeat ((first|refine sR ?_|refine sC ?_|refine sX ?_);simp[e1,hw])
   refine sE ?_;refine⟨i+1,⟨hlt,?_⟩,by omega,wkA⟩;simp only[aA,hok,hat,↓reduceIte,<-hwe]
  .have hb:(W.2 != 0)=true:=by simp[e1]
   have:=hg hwe.symm e1
   rw[hR] at this;subst this;try (simp[hb])
   repeat ((first|refine sR ?_|refine sC ?_|refine sX ?_);simp[hb])
   refine sT (sH Hb Ht ?_);simp
 .have:i=L.length:=by omega
  subst this;try (simp)
  repeat ((first|refine sR ?_|refine sC ?_|refine sX ?_);simp)
  refine sN ?_;refine sL (aOT t l nb box tok nt) (fun i=>i<=l.length/\aA (wL t l) i=0) (fun i=>l.length-i) 0 ⟨Nat.zero_le _,rfl⟩ wkA ?_;rintro j S ⟨hj,hokc⟩ hS;simp only[aOT] at hS;subst hS;have hw:=sW (i:=j) (by omega);by_cases hlt:j<l.length
  .have hg:=fun {e:Int} he hne=>aHU (e:=e) e0 hc hok hokc hlt he hne
   have hfc:=h.l _ (List.getElem_mem hlt);have hat:wL t l j=coE t l[j]:=by unfold wL;rw[List.getElem?_eq_getElem hlt]
   have hget:l[j]?=some l[j]:=List.getElem?_eq_getElem hlt
   have hcv:=aBW t h.t l[j] hfc;try (simp[hlt,hget])
   repeat ((first|refine sR ?_|refine sC ?_|refine sX ?_);simp[hlt,hget])
   refine sD (hcv _ _) ?_;simp;by_cases e1:cnE t l[j]=0
   .by_cases e2:l[j].kind=1
    .have hz:coE t l[j]=0:=by unfold coE;rw[if_neg (by simp[e1]),if_pos e2]
     try (simp[e1,e2,hw])
     repeat ((first|refine sR ?_|refine sC ?_|refine sX ?_);simp[e1,e2,hw])
     refine sE ?_;refine⟨j+1,⟨hlt,?_⟩,by omega,wkA⟩;simp only[aA,hokc,hat,↓reduceIte,hz]
    .have b3:(l[j].kind != 1)=true:=by simp[e2]
     have:=hg (show coE t l[j]=8 by unfold coE;rw[if_neg (by simp[e1]),if_neg e2]) (by decide)
     rw[hR] at this;subst this;try (simp[e1,b3])
     repeat ((first|refine sR ?_|refine sC ?_|refine sX ?_);simp[e1,b3])
     refine sT (sH Hb Ht ?_);simp
   .have b3:(cnE t l[j] != 0)=true:=by simp[e1]
    have:=hg (show coE t l[j]=cnE t l[j] by unfold coE;rw[if_pos e1]) e1
    rw[hR] at this;subst this;try (simp[b3])
    repeat ((first|refine sR ?_|refine sC ?_|refine sX ?_);simp[b3])
    refine sT (sH Hb Ht ?_);simp
  .have:j=l.length:=by omega
   subst this;have:R=0:=by
    rw[<-hR];unfold fL;rw[if_neg (by simp[e0]),if_neg hc,if_neg (by simp[hok]),hokc]
   subst this;try (simp)
   repeat ((first|refine sR ?_|refine sC ?_|refine sX ?_);simp)
   refine sT (sH Hb Ht ?_);simp
def aLP(xs:List Int)(v:Int)(nb:Nat)(box:Bxs)(tok:Tks)(nt:Nat)(i:Nat):AS:=⟨tl [(0,.d (ints xs)),(1,I v),(5,I i)],lb nb box [],tok,nt⟩
theorem rY(xs:List Int)(v:Int)(hx:xs.length<=1000000):DC 148 [.d (ints xs),I v] (I (aU xs v)):=by
 intro tok nt box nb;refine sI func148 ntmps148 fun Hb Ht=>?_
 refine sR ?_;simp;refine sR ?_;simp;refine sN ?_;refine sL (aLP xs v nb box tok nt) (fun i=>i<=xs.length/\v∉xs.take i) (fun i=>xs.length-i) 0 ⟨Nat.zero_le _,by simp⟩ (wM (nr0 _) rfl (by simp[ToL]) trivial) ?_;rintro i S ⟨hi,htk⟩ hS;simp only[aLP] at hS;subst hS;have hw:=sW (i:=i) (by omega);refine sR ?_;simp;refine sC ?_;simp;refine⟨fun hlt=>?_,fun hge=>?_⟩
 .have hsp:xs=xs.take i++xs[i]::xs.drop (i+1):=by simp
  refine sR ?_;simp[hlt];refine sC ?_;simp;refine⟨fun he=>?_,fun hne=>?_⟩
  .refine sR ?_;simp;have hmem:v∈xs:=by rw[<-he];exact List.getElem_mem _
   have hid:xs.idxOf v=i:=by
    unfold List.idxOf;rw[List.findIdx_eq hlt];refine⟨by simp[he],fun j hj=>?_⟩;have:xs[j]≠v:=fun e=>htk (by rw[<-e,List.mem_take_iff_getElem];exact⟨j,by omega,rfl⟩)
    simpa using this
   refine sT (sH Hb Ht ?_);simp[aU,hmem,hid]
  .refine sR ?_;simp[hw];refine sE ?_;refine⟨i+1,⟨hlt,?_⟩,by omega,wM (nr0 _) rfl (by simp[ToL]) trivial⟩;rw[List.take_succ_eq_append_getElem hlt];simp only[List.mem_append,List.mem_singleton,not_or];exact⟨htk,fun e=>hne e.symm⟩
 .refine sX ?_;simp only[AU,↓reduceIte];refine sR ?_;simp;have hn:v∉xs:=by rwa [List.take_of_length_le hge] at htk
  refine sT (sH Hb Ht ?_);simp[aU,hn]
theorem aE4(xs:List Int)(v:Int)(hx:xs.length<=1000000):DC 149 [.d (ints xs),I v] (B (decide (v∈xs))):=by
 intro tok nt box nb;have c1:=rY xs v hx;have h:=oT xs v;refine sI func149 ntmps149 fun Hb Ht=>?_
 repeat first|simp|refine sR ?_
 refine sD (c1 _ _) ?_;repeat first|simp|refine sR ?_
 refine sT (sH Hb Ht ?_);simp[h]
theorem aG9(l:List Int)(i:Nat):lY l (i+1)=lY l i++if (i:Int)∈l then [(i:Int)] else []:=by
 unfold lY;rw[List.range_succ,List.filter_append,List.map_append];by_cases h:(i:Int)∈l<;>simp[h]
theorem aGe(l:List Int)(n:Nat):(lY l n).length<=n:=by
 unfold lY;rw[List.length_map];exact Nat.le_trans (List.length_filter_le _ _) (by simp)
def aHz(l:List Int)(n:Nat)(nb:Nat)(box:Bxs)(x:Acc):AS:=⟨tl [(6,I x.i),(0,I n),(5,.osl 1 (rI (lY l x.i)) x.own),(1,.d (ints l))],lb nb box [],x.tok,x.nt⟩
theorem xD(n:Nat)(hn:n<=1000000)(l:List Int)(hl:l.length<=1000000):DC 146 [I n,.d (ints l)] (.d (ints (lY l n))):=by
 intro tok nt box nb;refine sI func146 ntmps146 fun Hb Ht=>?_
 repeat first|simp|refine sR ?_
 refine sN ?_;refine sL (aHz l n nb box) (fun x=>x.i<=n/\TK tok nt x.tok x.nt [x.own]) (fun x=>n-x.i) ⟨0,.full,tok,nt⟩ ⟨Nat.zero_le _,(TK.start Ht).full⟩ (wM (nr0 _) rfl (by simp[ToL,lk,lY]) (by simp[aC,lk])) ?_;rintro⟨i,own,tok',nt'⟩ S ⟨hi,htk⟩ hS;simp only[aHz] at hS hi htk;subst hS;have hw:=sW (i:=i) (by omega);have hs:=aG9 l i;have hml:=aGe l i;by_cases hlt:i<n
 .have c1:=aE4 l (i:Int) hl;try (simp[hlt])
  repeat ((first|refine sR ?_|refine sC ?_|refine sX ?_);simp[hlt])
  refine sD (c1 _ _) ?_;simp;by_cases e:(i:Int)∈l
  .rw[if_pos e] at hs;try (simp[e])
   repeat ((first|refine sR ?_|refine sC ?_|refine sX ?_);simp[e])
   refine⟨⟨by omega,htk.live⟩,?_⟩;try (simp[hw])
   repeat ((first|refine sR ?_|refine sC ?_|refine sX ?_);simp[hw])
   refine sE ?_;exact⟨⟨i+1,_,_,_⟩,⟨hlt,htk.app⟩,by simp only;omega,wM htk.app.le rfl (by simp[ToL,lk,hs]) (by simp[aC,lk])⟩
  .rw[if_neg e,List.append_nil] at hs;try (simp[e,hw])
   repeat ((first|refine sR ?_|refine sC ?_|refine sX ?_);simp[e,hw])
   refine sE ?_;exact⟨⟨i+1,_,_,_⟩,⟨hlt,htk⟩,by simp only;omega,wM htk.le rfl (by simp[ToL,lk,hs]) (by simp[aC,lk])⟩
 .have:i=n:=by omega
  subst this;try (simp)
  repeat ((first|refine sR ?_|refine sC ?_|refine sX ?_);simp)
  refine sT (sG Hb Ht htk.old htk.le ?_);simp
def aLB(g:Gr)(p:Mo)(own1:Own)(nb:Nat)(box:Bxs)(x:Acc):AS :=
 ⟨tl [(10,I x.i),(8,.ptr (nb+8) 0 0),(5,.ptr (nb+5) 0 0),(4,.ptr (nb+4) 0 0),(3,.ptr (nb+3) 0 0),(2,.ptr (nb+2) 0 0)],
  lb nb box [(8,[[.osl 1 (rI (iT g p p.nodes.length)) own1,.osl 3 (rE (kR g p x.i)) x.own]]),(3,[[.d (ints p.nodes),.d (ints p.edges)]]),(2,[[.d (ints g.nodes),.d (AM.edges g.edges)]]),(5,[[cQ,cQ]]),(4,[[cQ,cQ]])],x.tok,x.nt⟩
theorem aCC(g:Gr)(p:Mo)(hg:g.Fit)(hp:p.Fit)(h:VP g p)(box:Bxs)(nb:Nat)(tok:Tks)(nt:Nat):aD prog 98 [g.av,p.av] ⟨box,nb,tok,nt⟩ (QEx g p box nb tok nt):=by
 have h1:=nZ g p hg hp;rw[h.v] at h1;refine sI func98 ntmps98 fun Hb Ht=>?_
 repeat first|simp|refine sR ?_
 refine sD (h1 _ _) ?_;repeat first|simp|refine sR ?_
 refine sC ?_;repeat first|simp|refine sR ?_
 refine sN ?_;have hpn:=hp.n;have hpe:=hp.e;refine sL (aFh g p nb box) (fun x=>x.i<=p.nodes.length/\TK tok nt x.tok x.nt [x.own]) (fun x=>p.nodes.length-x.i) ⟨0,.full,tok,nt⟩ ⟨Nat.zero_le _,(TK.start Ht).full⟩ (wM (nr0 _) rfl (by simp[ToL,lk]) (by simp[aC,lk,lJ])) ?_;rintro⟨i,own,tok',nt'⟩ S ⟨hi,htk⟩ hS;simp only[aFh] at hS hi htk;subst hS;have hw:=sW (i:=i) (by omega);repeat first|simp|refine sR ?_|refine sC ?_
 refine⟨fun hlt=>?_,fun hge=>?_⟩
 .obtain⟨r1,r2⟩:=h.n _ (List.getElem_mem hlt);have r3:p.nodes[i].toNat<g.nodes.length:=by omega
  refine sR ?_;simp[hlt,r1,r2,r3];refine⟨⟨by have:=oG g p i;omega,htk.live⟩,?_⟩;repeat first|simp[hw]|refine sR ?_
  refine sE ?_;exact⟨⟨i+1,_,_,_⟩,⟨hlt,htk.app⟩,by simp only;omega,wM htk.app.le rfl (by simp[ToL,lk]) (by simp[aC,lk,kV g p hlt,r3])⟩
 .refine sX ?_;simp only[AU,↓reduceIte];have:i=p.nodes.length:=by omega
  subst this;repeat first|simp|refine sR ?_
  refine sN ?_;refine sL (aLB g p own nb box) (fun x=>x.i<=p.edges.length/\TK tok nt x.tok x.nt [x.own,own]) (fun x=>p.edges.length-x.i) ⟨0,.full,tok',nt'⟩ ⟨Nat.zero_le _,htk.full⟩ (wM htk.le rfl (by simp[ToL,lk]) (by simp[aC,lk,lB])) ?_;rintro⟨i,own2,tok2,nt2⟩ S ⟨hi,htk2⟩ hS;simp only[aLB] at hS hi htk2;subst hS;have hw:=sW (i:=i) (by omega);have hh:=fun v=>zG p.nodes v hp.n
  repeat first|simp|refine sR ?_|refine sC ?_
  refine⟨fun hlt=>?_,fun hge=>?_⟩
  .obtain⟨r1,r2⟩:=h.e _ (List.getElem_mem hlt);have r3:p.edges[i].toNat<g.edges.length:=by omega
   have hE:qL g p p.edges[i]=⟨g.edges[p.edges[i].toNat].ty,aU p.nodes g.edges[p.edges[i].toNat].fr,aU p.nodes g.edges[p.edges[i].toNat].to⟩:=by
    have q2:g.edges.getD p.edges[i].toNat default=g.edges[p.edges[i].toNat]:=by simp[r3]
    rw[qL,q2]
   have hsucc:=lD g p hlt;rw[hE] at hsucc;refine sN ?_;refine AL.region2 cA (nr0 _) (by kernel_rfl) (oO.of (by simp)) ?_;simp[hlt,r1,r2,r3];generalize g.edges[p.edges[i].toNat]=x at *;refine sR ?_;simp;refine sD (hh _ _ _) ?_;simp;refine sD (hh _ _ _) ?_;simp;refine⟨⟨by have:=nV g p i;omega,htk2.live⟩,?_⟩;repeat first|simp[hw]|refine sR ?_
   refine sE ?_;exact⟨⟨i+1,_,_,_⟩,⟨hlt,htk2.app⟩,by simp only;omega,wM htk2.app.le rfl (by simp[ToL,lk]) (by simp[aC,lk,hsucc])⟩
  .refine sX ?_;simp only[AU,↓reduceIte];have:i=p.edges.length:=by omega
   subst this;repeat first|simp|refine sR ?_
   refine⟨by omega,by omega,?_⟩;have htk3:=(htk2.full.app.full.app).tail.tail.swap;have hG:=aAR g p;refine sT ?_;try simp only[AU]
   exact⟨by simp,(Fin.gen (av:=.tup [.agg [.osl 1 (rI (exG g p).nodes) own,.osl 3 (rE (exG g p).edges) own2],p.av,I 0]) (by simp[aP,bI];rfl) Hb htk3.le (nr0 _) (fun t h=>⟨h,.inl rfl⟩) (fun k rows _ h=>.inl h) (by simp[hG])).mono fun v m hq=>⟨own,own2,_,_,hq.1,hq.2,htk3⟩⟩
structure BfC where
 i:Nat
 o:Own
 q:Own
 tok:Nat->Bool
 nt:Nat
def iC(r:Ru)(i:Nat):List Int:=(bE r.k.nodes i).map fun n=>r.lg.nodes.getD n.toNat 0
def mV(r:Ru)(f:Nat->Int)(i:Nat):List E:=(bE r.k.edges i).map (aGS r f)
def rgF(f:Nat->Int)(i:Nat):List Int:=(List.range i).map f
theorem aAu{α:Type}(h:Int->α)(k:List Int)(i:Nat):(bE k (i+1)).map h=(bE k i).map h++if (i:Int)∈k then [] else [h i]:=by
 rw[aCy,List.map_append];by_cases e:(i:Int)∈k<;>simp[e]
theorem aKQ{r:Ru}{i:Nat}(h:i<r.lg.nodes.length):iC r (i+1)=iC r i++if (i:Int)∈r.k.nodes then [] else [r.lg.nodes[i]]:=by
 unfold iC;rw[aAu];simp[h]
theorem aJJ{r:Ru}{f:Nat->Int}{i:Nat}(h:i<r.lg.edges.length):mV r f (i+1)=mV r f i++if (i:Int)∈r.k.edges then [] else [⟨r.lg.edges[i].ty,f r.lg.edges[i].fr.toNat,f r.lg.edges[i].to.toNat⟩]:=by
 unfold mV;rw[aAu];simp[h,aGS]
theorem aJI(r:Ru):iC r 0=[]:=rfl
theorem aKR(r:Ru)(f:Nat->Int):mV r f 0=[]:=rfl
theorem aI3(f:Nat->Int):rgF f 0=[]:=rfl
theorem aIz(f:Nat->Int)(i:Nat):rgF f (i+1)=rgF f i++[f i]:=by unfold rgF;rw[List.range_succ,List.map_append];rfl
theorem aFt(f:Nat->Int)(i:Nat):(rgF f i).length=i:=by simp[rgF]
theorem aE0{f:Nat->Int}{n i:Nat}(h:i<(rgF f n).length):(rgF f n)[i]=f i:=by simp[rgF]
theorem aJh(r:Ru)(i:Nat):(iC r i).length=(bE r.k.nodes i).length:=by simp[iC]
theorem aKJ(r:Ru)(i:Nat):(iC r i).length<=i:=by rw[aJh];exact nH _ _
theorem aKn(r:Ru)(f:Nat->Int)(i:Nat):(mV r f i).length<=i:=by unfold mV;rw[List.length_map];exact nH _ _
def aPq(r:Ru)(o:Ov)(Z:Mo)(DN:List Int)(DE:List (List D))(f:Nat->Int)(o2:Own)(nb:Nat)(box:Bxs)(x:BfC):AS :=
 ⟨tl [(14,I x.i),(13,.osl 1 (rI (rgF f x.i)) x.o),(10,.ptr (nb+10) 0 0),(8,.ptr (nb+8) 0 0),(4,.ptr (nb+4) 0 0),(3,.ptr (nb+3) 0 0),(2,.ptr (nb+2) 0 0)],
  lb nb box [(10,[[.osl 1 (rI (DN++iC r x.i)) x.q,.osl 3 DE o2]]),(8,[[.d (ints Z.nodes),.d (ints Z.edges)]]),(4,[[cQ,cQ]]),(3,[o.row]),(2,[r.row])],x.tok,x.nt⟩
def aOX(r:Ru)(DN:List Int)(DE:List E)(f:Nat->Int)(nb:Nat)(box:Bxs)(x:BfB):AS :=
 ⟨tl [(16,I x.i),(13,.d (ints (rgF f r.lg.nodes.length))),(10,.ptr (nb+10) 0 0),(4,.ptr (nb+4) 0 0),(2,.ptr (nb+2) 0 0)],
  lb nb box [(10,[[.d (ints DN),.osl 3 (rE (DE++mV r f x.i)) x.o]]),(4,[[cQ,cQ]]),(2,[r.row])],x.tok,x.nt⟩
set_option maxRecDepth 100000 in
theorem aD0(r:Ru)(hr:r.Fit)(o:Ov)(ho:o.Fit)(hs:aBe r.sp)(va:vG r.lg=0)(hm:Emb r.rg o.g o.l):DC 92 [r.av,o.av] (.tup [(lV r o).1.av,B (lV r o).2]):=by
 intro tok nt box nb;have s1:=xD r.rg.nodes.length hr.rg.n r.i.nodes hr.i.n;have s2:=xD r.rg.edges.length hr.rg.e r.i.edges hr.i.e;have hi:VP r.rg (kpI r):=aA9 hs.i
 have hC:=aNb r.rg o.g (kpI r) o.l hr.rg ho.g ho.l hi.emb.fit.1 hm hi;have eI:kpI r=⟨lY r.i.nodes r.rg.nodes.length,lY r.i.edges r.rg.edges.length⟩:=rfl
 rw[eI] at hC;refine sI func92 ntmps92 fun Hb Ht=>?_
 repeat first|simp|refine sR ?_
 refine sD (s1 _ _) ?_;repeat first|simp|refine sR ?_
 refine sD (s2 _ _) ?_;repeat first|simp|refine sR ?_
 refine sD (hC _ _) ?_;simp;rw[<-eI];by_cases hd:jF o.g (kpI r) o.l=true
 .have e:uG r.rg o.g (kpI r) o.l=(⟨[],[]⟩,14):=if_pos hd
  have e2:lV r o=(⟨[],[]⟩,false):=if_pos hd
  rw[e,e2];try (simp)
  repeat ((first|refine sR ?_|refine sC ?_|refine sX ?_);simp)
  refine sT (sH Hb Ht ?_);simp[ints,AM.edges]
 .have hd':jF o.g (kpI r) o.l=false:=by simpa using hd
  have e:uG r.rg o.g (kpI r) o.l=(eG r o,0):=if_neg hd
  have e2:lV r o=(xN r o,true):=if_neg hd
  rw[e,e2];have vz:VP o.g (eG r o):=Sp.z_vp (s:=r.sp) hs hm hd'
  have fz:=vz.emb.fit.1;obtain⟨bn,be⟩:=aLv (s:=r.sp) hs hm;have bn:yB r.k.nodes r.i.nodes o.l.nodes (eG r o).nodes r.lg.nodes.length r.rg.nodes.length o.g.nodes.length:=bn
  have hx:=aCC o.g (eG r o) ho.g fz vz;have hG:xN r o=⟨(exG o.g (eG r o)).nodes++iC r r.lg.nodes.length,(exG o.g (eG r o)).edges++mV r (rP r o) r.lg.edges.length⟩:=rfl
  have hDl:(exG o.g (eG r o)).nodes.length=(eG r o).nodes.length:=by simp[exG]
  have hEl:(exG o.g (eG r o)).edges.length=(eG r o).edges.length:=by simp[exG]
  have hin:∀j:Nat,(j:Int)∈r.k.nodes->∃q:Nat,aU r.k.nodes j=q/\q<r.i.nodes.length/\(r.i.nodes.getD q 0).toNat<o.l.nodes.length/\0<=r.i.nodes.getD q 0/\rP r o j=aU (eG r o).nodes (o.l.nodes.getD (r.i.nodes.getD q 0).toNat 0):=fun j hj=>by
   have h1:=eZ hj;have h2:(aU r.k.nodes j).toNat<r.i.nodes.length:=by rw[bn.lk];omega
   have h3:=bn.sr _ (aR (d:=0) h2);refine⟨(aU r.k.nodes j).toNat,by omega,h2,by rw[bn.al];omega,h3.1,?_⟩;unfold rP;rw[if_pos hj]
  have hoff:∀j:Nat,(j:Int)∉r.k.nodes->rP r o j=(((exG o.g (eG r o)).nodes.length+(iC r j).length:Nat):Int):=fun j hj=>by rw[aJh];exact if_neg hj
  rw[hG];unfold QEx at hx;generalize rP r o=f at *;generalize hZ:eG r o=Z at *;generalize exG o.g Z=D0 at *;have hln:=hr.lg.n;have hle:=hr.lg.e;have hkn:=hr.k.n;have hke:=hr.k.e;have hzn:=fz.n;have hze:=fz.e;have hon:=ho.l.n;have hxp:=aE va;try (simp)
  repeat ((first|refine sR ?_|refine sC ?_|refine sX ?_);simp)
  refine aN.of_a (hx _ _ _ _) ?_;rintro v m' ⟨o1,o2,tok1,nt1,rfl,rfl,htk1⟩;try (simp)
  repeat ((first|refine sR ?_|refine sC ?_|refine sX ?_);simp)
  refine sN ?_;refine sL (aPq r o Z D0.nodes (rE D0.edges) f o2 nb box) (fun x=>x.i<=r.lg.nodes.length/\TK tok nt x.tok x.nt [x.o,x.q,o2]) (fun x=>r.lg.nodes.length-x.i) ⟨0,.full,o1,tok1,nt1⟩ ⟨Nat.zero_le _,htk1.full⟩ (wM htk1.le rfl (by simp[ToL,lk,aI3]) (by simp[aC,lk,aJI])) ?_;rintro⟨i,oP,oN,tok2,nt2⟩ S ⟨hi,htk⟩ hS;simp only[aPq] at hS hi htk;subst hS;have hw:=sW (i:=i) (by omega);have hml:=aKJ r i;have hrs:=aIz f i;have hrl:=aFt f i;have hvz:=vz.len.1;have hog:=ho.g.n;by_cases hlt:i<r.lg.nodes.length
  .have c1:=rY r.k.nodes (i:Int) hkn;have hms:=aKQ hlt;by_cases e1:(i:Int)∈r.k.nodes
   .obtain⟨q,q1,q2,q3,q4,q5⟩:=hin i e1;rw[if_pos e1,List.append_nil] at hms;have hgq:r.i.nodes.getD q 0=r.i.nodes[q]:=by simp[q2]
    rw[hgq] at q3 q4 q5;have hgo:o.l.nodes.getD (r.i.nodes[q]).toNat 0=o.l.nodes[(r.i.nodes[q]).toNat]:=by simp[q3]
    rw[hgo] at q5;rw[q1] at c1;have c2:=rY Z.nodes o.l.nodes[(r.i.nodes[q]).toNat] hzn;rw[<-q5] at c2;have q6:r.i.nodes[q]<(o.l.nodes.length:Int):=by omega
    try (simp[hlt])
    repeat ((first|refine sR ?_|refine sC ?_|refine sX ?_);simp[hlt])
    refine sD (c1 _ _) ?_;simp;have q7:¬(q:Int)<0:=by omega
    try (simp[q7,q2,q3,q4,q6])
    repeat ((first|refine sR ?_|refine sC ?_|refine sX ?_);simp[q7,q2,q3,q4,q6])
    refine sD (c2 _ _) ?_;simp;try (simp[hrl])
    repeat ((first|refine sR ?_|refine sC ?_|refine sX ?_);simp[hrl])
    refine⟨⟨by omega,htk.live⟩,?_⟩;try (simp[hw])
    repeat ((first|refine sR ?_|refine sC ?_|refine sX ?_);simp[hw])
    refine sE ?_;exact⟨⟨i+1,_,_,_,_⟩,⟨hlt,htk.app⟩,by simp only;omega,wM htk.app.le rfl (by simp[ToL,lk,hrs]) (by simp[aC,lk,hms])⟩
   .rw[if_neg e1] at hms;rw[aCH e1] at c1;have hf:=hoff i e1;rw[Int.natCast_add] at hf;rw[hf] at hrs;try (simp[hlt])
    repeat ((first|refine sR ?_|refine sC ?_|refine sX ?_);simp[hlt])
    refine sD (c1 _ _) ?_;simp;try (simp[hrl])
    repeat ((first|refine sR ?_|refine sC ?_|refine sX ?_);simp[hrl])
    refine⟨⟨by omega,htk.live⟩,?_⟩;try (simp[hlt])
    repeat ((first|refine sR ?_|refine sC ?_|refine sX ?_);simp[hlt])
    refine⟨⟨by omega,htk.app.swap.live⟩,?_⟩;try (simp[hw])
    repeat ((first|refine sR ?_|refine sC ?_|refine sX ?_);simp[hw])
    refine sE ?_;exact⟨⟨i+1,_,_,_,_⟩,⟨hlt,htk.app.swap.app.swap⟩,by simp only;omega,wM htk.app.swap.app.swap.le rfl (by simp[ToL,lk,hrs]) (by simp[aC,lk,hms])⟩
  .have:i=r.lg.nodes.length:=by omega
   subst this;try (simp)
   repeat ((first|refine sR ?_|refine sC ?_|refine sX ?_);simp)
   refine sN ?_;refine sL (aOX r (D0.nodes++iC r r.lg.nodes.length) D0.edges f nb box) (fun x=>x.i<=r.lg.edges.length/\TK tok nt x.tok x.nt [x.o]) (fun x=>r.lg.edges.length-x.i) ⟨0,o2,tok2,nt2⟩ ⟨Nat.zero_le _,htk.tail.tail⟩ (wM htk.le rfl (by simp[ToL,lk,ints]) (by simp[aC,lk,aKR,ints])) ?_;rintro⟨i,oE,tok3,nt3⟩ S ⟨hi,htk⟩ hS;simp only[aOX] at hS hi htk;subst hS;have hw:=sW (i:=i) (by omega);have hml2:=aKn r f i;by_cases hlt:i<r.lg.edges.length
   .have c1:=aE4 r.k.edges (i:Int) hke;have hms:=aJJ (f:=f) hlt;have hx1:=hxp _ (List.getElem_mem hlt);obtain⟨f1,f2,f3,f4⟩:=hx1;obtain⟨x,hx⟩:∃x,r.lg.edges[i]=x:=⟨_,rfl⟩
    rw[hx] at hms f1 f2 f3 f4;have hrl:=aFt f r.lg.nodes.length;have f5:x.fr.toNat<r.lg.nodes.length:=by omega
    have f6:x.to.toNat<r.lg.nodes.length:=by omega
    by_cases e1:(i:Int)∈r.k.edges
    .rw[if_pos e1,List.append_nil] at hms;try (simp[hlt,hx])
     repeat ((first|refine sR ?_|refine sC ?_|refine sX ?_);simp[hlt,hx])
     refine sD (c1 _ _) ?_;simp;try (simp[e1,hw])
     repeat ((first|refine sR ?_|refine sC ?_|refine sX ?_);simp[e1,hw])
     refine sE ?_;exact⟨⟨i+1,_,_,_⟩,⟨hlt,htk⟩,by simp only;omega,wM htk.le rfl (by simp[ToL,lk]) (by simp[aC,lk,hms])⟩
    .rw[if_neg e1] at hms;try (simp[hlt,hx])
     repeat ((first|refine sR ?_|refine sC ?_|refine sX ?_);simp[hlt,hx])
     refine sD (c1 _ _) ?_;simp;try (simp[e1])
     repeat ((first|refine sR ?_|refine sC ?_|refine sX ?_);simp[e1])
     try (simp[f1,f2,f3,f4,f5,f6,hrl,aE0])
     repeat ((first|refine sR ?_|refine sC ?_|refine sX ?_);simp[f1,f2,f3,f4,f5,f6,hrl,aE0])
     refine⟨⟨by omega,htk.live⟩,?_⟩;try (simp[hw])
     repeat ((first|refine sR ?_|refine sC ?_|refine sX ?_);simp[hw])
     refine sE ?_;exact⟨⟨i+1,_,_,_⟩,⟨hlt,htk.app⟩,by simp only;omega,wM htk.app.le rfl (by simp[ToL,lk]) (by simp[aC,lk,hms])⟩
   .have:i=r.lg.edges.length:=by omega
    subst this;try (simp)
    repeat ((first|refine sR ?_|refine sC ?_|refine sX ?_);simp)
    refine sT (sG Hb Ht htk.old htk.le ?_);simp[ints,AM.edges]
theorem xI{t:Ty}{r:Ru}{c:Co}{o:Ov}(h:o∈(cF t r c).1):o∈(oR r.rg c.g).1:=by
 unfold cF at h;split at h
 .simp at h
 .split at h
  .split at h
   .simp at h
   .exact(List.mem_filter.1 h).1
  .simp at h
theorem aBQ(r:Ru)(i k:Nat)(ws:List Ov){n:Nat}(h:n<ws.length):duN r i k ws (n+1)=duN r i k ws n++[⟨⟨i,k,n,(lV r ws[n]).1⟩,(lV r ws[n]).2⟩]:=by
 unfold duN;rw[List.range_succ,List.map_append];simp[h]
theorem aBh(r:Ru)(i k:Nat)(ws:List Ov)(n:Nat):(duN r i k ws n).length=n:=by simp[duN]
theorem aDK{t:Ty}{L:List Ru}{l:List Co}{i k:Nat}(hi:i<L.length)(hk:k<l.length):duW t L l i k=cF t L[i] l[k]/\duC t L l i k=duN L[i] i k (cF t L[i] l[k]).1 (cF t L[i] l[k]).1.length:=by
 unfold duC duW;rw[List.getElem?_eq_getElem hi,List.getElem?_eq_getElem hk];exact⟨rfl,rfl⟩
theorem aCj(t:Ty)(L:List Ru)(l:List Co)(i k:Nat):duK t L l i (k+1)=duK t L l i k++duC t L l i k:=by
 unfold duK;rw[List.range_succ,List.flatMap_append];simp
theorem aDh(t:Ty)(L:List Ru)(l:List Co)(i:Nat):duL t L l (i+1)=duL t L l i++duK t L l i l.length:=by
 unfold duL;rw[List.range_succ,List.flatMap_append];simp
theorem rU{α:Type}(f:Nat->List α)(B:Nat)(h:∀k,(f k).length<=B):∀n:Nat,((List.range n).flatMap f).length<=n*B
 | 0=>by simp
 | n+1=>by
  have h1:=rU f B h n;have h2:=h n;rw[List.range_succ,List.flatMap_append,List.length_append,Nat.succ_mul];simp only[List.flatMap_cons,List.flatMap_nil,List.append_nil];omega
theorem aJ3{t:Ty}{L:List Ru}{l:List Co}(h:bT t L l)(i k:Nat):(duC t L l i k).length<=1000000:=by
 by_cases hi:i<L.length
 .by_cases hk:k<l.length
  .rw[(aDK hi hk).2,aBh];exact(aBj (h.L _ (List.getElem_mem hi)) (h.l _ (List.getElem_mem hk))).n
  .unfold duC duW;rw[List.getElem?_eq_getElem hi,List.getElem?_eq_none (by omega)];simp[duN]
 .unfold duC;rw[List.getElem?_eq_none (by omega)];simp
theorem aBa{t:Ty}{L:List Ru}{l:List Co}(h:bT t L l)(i n:Nat):(duK t L l i n).length<=n*1000000:=rU _ _ (aJ3 h i) n
theorem aBN{t:Ty}{L:List Ru}{l:List Co}(h:bT t L l)(n:Nat):(duL t L l n).length<=n*(l.length*1000000):=rU _ _ (fun i=>aBa h i l.length) n
theorem aFj{t:Ty}{L:List Ru}{l:List Co}{i k:Nat}{e:Int}(hi:i<L.length)(hk:k<l.length)(h1:aA (duE t L l) i=0)(h2:aA (fun k=>(duW t L l i k).2) k=0)(h3:(duW t L l i k).2=e)(hne:e≠0):iX t L l=([],e):=by
 have a:=aL h2 (by rw[h3];exact hne) l.length hk;rw[h3] at a;have a:duE t L l i=e:=a
 have b:=aL h1 (by rw[a];exact hne) L.length hi;have b:aM4 t L l=e:=b.trans a
 unfold iX;rw[b,if_pos hne]
abbrev duR(l:List Du):List (List D):=l.map Du.cells
structure DuA where
 i:Nat
 o:Own
 tok:Nat->Bool
 nt:Nat
def aOc(t:Ty)(L:List Ru)(l:List Co)(nb:Nat)(box:Bxs)(x:DuA):AS :=
 ⟨tl [(21,I x.i),(20,I L.length),(19,.d (eS L)),(8,.osl 6 (duR (duL t L l x.i)) x.o),(2,.d (bS l)),(3,.ptr (nb+3) 0 0)],lb nb box [(3,[fD t])],x.tok,x.nt⟩
def aOm(t:Ty)(L:List Ru)(l:List Co)(r:Ru)(i:Nat)(X:List Du)(nb:Nat)(box:Bxs)(x:DuA):AS :=
 ⟨tl [(28,I x.i),(27,I l.length),(26,.d (bS l)),(10,.ptr (nb+10) 0 0),(9,I i),(21,I i),(20,I L.length),(19,.d (eS L)),(8,.osl 6 (duR (X++duK t L l i x.i)) x.o),(2,.d (bS l)),(3,.ptr (nb+3) 0 0)],lb nb box [(10,[r.row]),(3,[fD t])],x.tok,x.nt⟩
def aPM(t:Ty)(L:List Ru)(l:List Co)(r:Ru)(i k:Nat)(W:List Ov)(X:List Du)(nb:Nat)(box:Bxs)(x:DuA):AS :=
 ⟨tl [(45,I x.i),(44,I W.length),(43,.d (ovs W)),(11,I k),(28,I k),(27,I l.length),(26,.d (bS l)),(10,.ptr (nb+10) 0 0),(9,I i),(21,I i),(20,I L.length),(19,.d (eS L)),(8,.osl 6 (duR (X++duN r i k W x.i)) x.o),(2,.d (bS l)),(3,.ptr (nb+3) 0 0)],lb nb box [(10,[r.row]),(3,[fD t])],x.tok,x.nt⟩
theorem aLV{W:List Ov}{n:Nat}(h:n<W.length):(W.map Ov.cells)[n]?=some W[n].cells:=by simp[h]
set_option maxRecDepth 100000 in
theorem zA(t:Ty)(L:List Ru)(l:List Co)(h:bT t L l)(hT:tyE t=0)(hru:∀r∈L,ruE t r=0)(hL:L.length<=6)(hl:l.length<=8):DC 47 [t.av,.d (eS L),.d (bS l)] (.tup [.d (rK (iX t L l).1),I (iX t L l).2]):=by
 intro tok nt box nb;obtain⟨R,hR⟩:∃R,iX t L l=R:=⟨_,rfl⟩
 rw[hR];refine sI func47 ntmps47 fun Hb Ht=>?_
 repeat first|simp|refine sR ?_
 refine sN ?_;refine sL (aOc t L l nb box) (fun x=>x.i<=L.length/\aA (duE t L l) x.i=0/\TK tok nt x.tok x.nt [x.o]) (fun x=>L.length-x.i) ⟨0,.full,tok,nt⟩ ⟨Nat.zero_le _,rfl,(TK.start Ht).full⟩ (wM (nr0 _) rfl (by simp[ToL,lk,duL]) (by simp[aC,lk])) ?_;rintro⟨i,o1,tok1,nt1⟩ S ⟨hi,hok,htk⟩ hS;simp only[aOc] at hS hi hok htk;subst hS;have hw:=sW (i:=i) (by omega);have hXl:=aBN h i;by_cases hlt:i<L.length
 .have hri:=List.getElem_mem hlt;have hfr:=h.L _ hri;have hre:=hru _ hri;have hget:=xQ hlt;have hsu:=aDh t L l i;have hat:∀k (hk:k<l.length),duW t L l i k=cF t L[i] l[k]/\duC t L l i k=duN L[i] i k (cF t L[i] l[k]).1 (cF t L[i] l[k]).1.length:=fun k hk=>aDK hlt hk
  have herr:∀k (hk:k<l.length) e,aA (fun k=>(duW t L l i k).2) k=0->(duW t L l i k).2=e->e≠0->R=([],e):=fun k hk e h2 h3 h4=>hR.symm.trans (aFj hlt hk hok h2 h3 h4)
  have hin:=aJl hT hre;have hva:=hin.hl.va;obtain⟨r,hr⟩:∃r,L[i]=r:=⟨_,rfl⟩
  rw[hr] at hri hfr hre hget hin hva;simp only[hr] at hat;have hXl2:(duL t L l i).length<=48000000:=by
   have:i*(l.length*1000000)<=6*(8*1000000):=Nat.mul_le_mul (by omega) (Nat.mul_le_mul_right _ hl)
   omega
  generalize hX:duL t L l i=X at *;try (simp[hlt,hget,Ru.rowK,hr])
  repeat ((first|refine sR ?_|refine sC ?_|refine sX ?_);simp[hlt,hget,Ru.rowK,hr])
  refine sN ?_;refine sL (aOm t L l r i X nb box) (fun x=>x.i<=l.length/\aA (fun k=>(duW t L l i k).2) x.i=0/\TK tok nt x.tok x.nt [x.o]) (fun x=>l.length-x.i) ⟨0,o1,tok1,nt1⟩ ⟨Nat.zero_le _,rfl,htk⟩ (wM htk.le rfl (by simp[ToL,lk,duK]) (by simp[aC,lk,Ru.rowK])) ?_;rintro⟨k,o2,tok2,nt2⟩ S ⟨hk,hok2,htk2⟩ hS;simp only[aOm] at hS hk hok2 htk2;subst hS;have hwk:=sW (i:=k) (by omega);have hYl:=aBa h i k;by_cases hkl:k<l.length
  .have hck:=List.getElem_mem hkl;have hfc:=h.l _ hck;obtain⟨w1,w2⟩:=hat k hkl;have hgk:l[k]?=some l[k]:=List.getElem?_eq_getElem hkl
   have hsk:=aCj t L l i k;rw[w2] at hsk;have he:=herr k hkl;rw[w1] at he;obtain⟨c,hc⟩:∃c,l[k]=c:=⟨_,rfl⟩
   rw[hc] at hck hfc hgk w1 w2 hsk he;have hwy:=aFI t h.t r hfr c hfc;have hwo:=aBj (t:=t) hfr hfc;have hws:=fun o (ho:o∈(cF t r c).1)=>(aBK (xI ho)).1
   obtain⟨W,hW⟩:∃W,cF t r c=W:=⟨_,rfl⟩
   obtain⟨wn,wf⟩:=hwo;rw[hW] at hwy wn wf hws w1 hsk he;obtain⟨W,e⟩:=W;simp only at hwy wn wf hws w1 hsk he;try (simp[hkl,hgk,hc])
   repeat ((first|refine sR ?_|refine sC ?_|refine sX ?_);simp[hkl,hgk,hc])
   refine sD (hwy _ _) ?_;simp;by_cases e1:e=0
   case neg =>
    have:=he e hok2 rfl e1
    subst this;have hb:(e != 0)=true:=by simp[e1]
    try (simp[hb])
    repeat ((first|refine sR ?_|refine sC ?_|refine sX ?_);simp[hb])
    refine sT (sG Hb Ht htk2.old htk2.le ?_);simp[rK]
   subst e1;generalize hY:X++duK t L l i k=Y at *;have hYl2:Y.length<=56000000:=by
    rw[<-hY,List.length_append];have:k*1000000<=8*1000000:=Nat.mul_le_mul_right _ (by omega)
    omega
   try (simp)
   repeat ((first|refine sR ?_|refine sC ?_|refine sX ?_);simp)
   refine sN ?_;refine sL (aPM t L l r i k W Y nb box) (fun x=>x.i<=W.length/\TK tok nt x.tok x.nt [x.o]) (fun x=>W.length-x.i) ⟨0,o2,tok2,nt2⟩ ⟨Nat.zero_le _,htk2⟩ (wM htk2.le rfl (by simp[ToL,lk,duN,<-hY]) (by simp[aC,lk])) ?_;rintro⟨n,o3,tok3,nt3⟩ S ⟨hn,htk3⟩ hS;simp only[aPM] at hS hn htk3;subst hS;have hwn:=sW (i:=n) (by omega);have hnl:=aBh r i k W n;by_cases hnlt:n<W.length
   .have hon:=List.getElem_mem hnlt;have hov:=aLV hnlt;have hsn:=aBQ r i k W hnlt;have hem:=hws _ hon;have hof:=wf _ hon;obtain⟨o,ho⟩:∃o,W[n]=o:=⟨_,rfl⟩
    rw[ho] at hon hov hsn hem hof;have hbf:=aGz r hfr o hof hin.sp hva hem;obtain⟨B0,hB0⟩:∃B0,lV r o=B0:=⟨_,rfl⟩
    rw[hB0] at hbf hsn;try (simp[hnlt,hov,ho])
    repeat ((first|refine sR ?_|refine sC ?_|refine sX ?_);simp[hnlt,hov,ho])
    refine sD (hbf _ _) ?_;simp;try (simp)
    repeat ((first|refine sR ?_|refine sC ?_|refine sX ?_);simp)
    refine⟨⟨by omega,htk3.live⟩,?_⟩;try (simp[hwn])
    repeat ((first|refine sR ?_|refine sC ?_|refine sX ?_);simp[hwn])
    refine sE ?_;exact⟨⟨n+1,_,_,_⟩,⟨hnlt,htk3.app⟩,by simp only;omega,wM htk3.app.le rfl (by simp[ToL,lk,hsn]) (by simp[aC,lk])⟩
   .have:n=W.length:=by omega
    subst this;have hfin:X++duK t L l i (k+1)=Y++duN r i k W W.length:=by rw[hsk,<-List.append_assoc,hY]
    have hfin2:X.map Du.cells++(duK t L l i (k+1)).map Du.cells=Y.map Du.cells++(duN r i k W W.length).map Du.cells:=by rw[<-List.map_append,<-List.map_append,hfin]
    try (simp[hwk])
    repeat ((first|refine sR ?_|refine sC ?_|refine sX ?_);simp[hwk])
    refine sE ?_;refine⟨⟨k+1,o3,tok3,nt3⟩,⟨hkl,?_,htk3⟩,by simp only;omega,wM htk3.le rfl (by simp[ToL,lk,hfin2]) (by simp[aC,lk])⟩;show (if aA (fun k=>(duW t L l i k).2) k=0 then (duW t L l i k).2 else aA (fun k=>(duW t L l i k).2) k)=0
    rw[if_pos hok2,w1]
  .have:k=l.length:=by omega
   subst this;try (simp[hw])
   repeat ((first|refine sR ?_|refine sC ?_|refine sX ?_);simp[hw])
   refine sE ?_;refine⟨⟨i+1,o2,tok2,nt2⟩,⟨hlt,?_,htk2⟩,by simp only;omega,wM htk2.le rfl (by simp[ToL,lk,hsu]) (by simp[aC,lk])⟩;show (if aA (duE t L l) i=0 then duE t L l i else aA (duE t L l) i)=0
   rw[if_pos hok];exact hok2
 .have:i=L.length:=by omega
  subst this;have:R=(duL t L l L.length,0):=by
   rw[<-hR];unfold iX;rw[if_neg];exact fun hne=>hne hok
  subst this;try (simp)
  repeat ((first|refine sR ?_|refine sC ?_|refine sX ?_);simp)
  refine sT (sG Hb Ht htk.old htk.le ?_);simp
theorem aEh(t:Ty)(L:List Ru)(l:List Co)(h:bT t L l)(hL:L.length<=1000000)(hl:l.length<=1000000):DC 37 [t.av,.d (eS L),.d (bS l)] (.tup [.d (rK (dX t L l).1),I (dX t L l).2]):=by
 intro tok nt box nb;have hg:=aHu t L l h hL hl;obtain⟨R,hR⟩:∃R,dX t L l=R:=⟨_,rfl⟩
 rw[hR];unfold dX at hR;refine sI func37 ntmps37 fun Hb Ht=>?_
 repeat first|simp|refine sR ?_
 refine sD (hg _ _) ?_;simp;by_cases e:fL t L l=0
 .rw[if_neg (by simp[e])] at hR;obtain⟨hT,hru,_,h6,h8⟩:=kP e;have hd:=zA t L l h hT hru h6 h8;rw[hR] at hd;try (simp[e])
  repeat ((first|refine sR ?_|refine sC ?_|refine sX ?_);simp[e])
  refine sD (hd _ _) ?_;simp;try (simp)
  repeat ((first|refine sR ?_|refine sC ?_|refine sX ?_);simp)
  refine sT (sH Hb Ht ?_);simp
 .rw[if_pos e] at hR;have hb:(fL t L l != 0)=true:=by simp[e]
  subst hR;try (simp[hb])
  repeat ((first|refine sR ?_|refine sC ?_|refine sX ?_);simp[hb])
  refine sT (sH Hb Ht ?_);simp[rK]
theorem aFy{t:Ty}{l:List Co}{g:Gr}{i:Nat}(hi:i<l.length)(h1:∀c∈l.take i,nP t g c=false)(h2:nP t g l[i]=true):vK t l g=i:=by
 unfold vK;rw[List.findIdx_eq hi];refine⟨h2,fun j hj=>?_⟩;have:=h1 l[j] (List.mem_take_iff_getElem.2 ⟨j,by omega,rfl⟩)
 simpa using this
theorem aAx{t:Ty}{l:List Co}{g:Gr}(h:∀c∈l,nP t g c=false):¬vK t l g<l.length:=fun hlt=>by
 obtain⟨c,hc,h2⟩:=aKU.1 hlt;rw[h c hc] at h2;cases h2
def aBP(t:Ty)(l:List Co)(d:Du)(nb:Nat)(box:Bxs)(tok:Tks)(nt:Nat)(i:Nat):AS :=
 ⟨tl [(20,I i),(19,I l.length),(18,.d (bS l)),(6,.ptr (nb+6) 0 0),(5,.ptr (nb+5) 0 0),(3,.ptr (nb+3) 0 0)],lb nb box [(6,[[I 0,I 0,I 0,cQ,cQ,I 0,cQ,cQ]]),(5,[d.row]),(3,[fD t])],tok,nt⟩
set_option maxRecDepth 100000 in
theorem aIJ(t:Ty)(ht:t.Fit)(l:List Co)(hl:l.length<=1000000)(hc:∀c∈l,c.g.Fit)(d:Du)(hd:d.o.g.Fit):DC 42 [t.av,.d (bS l),d.av] (.tup [(iI t l d).1.av,B (iI t l d).2]):=by
 intro tok nt box nb;obtain⟨R,hR⟩:∃R,iI t l d=R:=⟨_,rfl⟩
 rw[hR];unfold iI at hR;refine sI func42 ntmps42 fun Hb Ht=>?_
 cases hs:d.step
 .rw[hs,if_neg (by simp)] at hR;subst hR;try (simp[hs])
  repeat ((first|refine sR ?_|refine sC ?_|refine sX ?_);simp[hs])
  refine sT (sH Hb Ht ?_);simp[ints]
 .rw[hs,if_pos rfl] at hR;try (simp[hs])
  repeat ((first|refine sR ?_|refine sC ?_|refine sX ?_);simp[hs])
  refine sN ?_;refine sL (aBP t l d nb box tok nt) (fun i=>i<=l.length/\∀c∈l.take i,nP t d.o.g c=false) (fun i=>l.length-i) 0 ⟨Nat.zero_le _,by simp⟩ (wM (nr0 _) rfl (by simp[ToL,lk]) (by simp[aC,lk,hs])) ?_;rintro i S ⟨hi,hno⟩ hS;simp only[aBP] at hS;subst hS;have hw:=sW (i:=i) (by omega);by_cases hlt:i<l.length
  .have hcf:=hc _ (List.getElem_mem hlt);have heq:=aFy (t:=t) (g:=d.o.g) hlt hno;have hget:l[i]?=some l[i]:=List.getElem?_eq_getElem hlt
   have hts:=List.take_succ_eq_append_getElem hlt;obtain⟨c,hcc⟩:∃c,l[i]=c:=⟨_,rfl⟩
   have hf:=aDf t ht c.g d.o.g (by rw[<-hcc];exact hcf) hd true;rw[hcc] at heq hget hts;have hfs:nP t d.o.g c=decide ((mX t c.g d.o.g true).2=0):=rfl
   obtain⟨F,hF⟩:∃F,mX t c.g d.o.g true=F:=⟨_,rfl⟩
   rw[hF] at hf hfs;try (simp[hlt,hget,hcc])
   repeat ((first|refine sR ?_|refine sC ?_|refine sX ?_);simp[hlt,hget,hcc])
   refine sD (hf _ _) ?_;simp;by_cases e:F.2=0
   .have hm:=heq (by rw[hfs,e];rfl);rw[dif_pos (by rw[hm];exact hlt)] at hR;have hR2:R=(⟨d.o,(i:Int),F.1⟩,true):=by
     rw[<-hR];simp only[hm,hcc,hF]
    subst hR2;try (simp[e])
    repeat ((first|refine sR ?_|refine sC ?_|refine sX ?_);simp[e])
    refine sT (sH Hb Ht ?_);simp[ints]
   .have hb:(F.2==0)=false:=by simp[e]
    try (simp[hb,hw])
    repeat ((first|refine sR ?_|refine sC ?_|refine sX ?_);simp[hb,hw])
    refine sE ?_;refine⟨i+1,⟨hlt,fun x hx=>?_⟩,by omega,wkA⟩;rw[hts] at hx;rcases List.mem_append.1 hx with hx|hx
    .exact hno x hx
    .rw[List.mem_singleton.1 hx,hfs];simp[e]
  .have:i=l.length:=by omega
   subst this;rw[List.take_length] at hno;rw[dif_neg (aAx hno)] at hR;subst hR;try (simp)
   repeat ((first|refine sR ?_|refine sC ?_|refine sX ?_);simp)
   refine sT (sH Hb Ht ?_);simp[ints,AM.edges,zOb]
def gV(t:Ty)(l:List Co)(D:List Du)(i:Nat):List Dc:=(D.take i).map fun d=>(iI t l d).1
theorem aBy{t:Ty}{l:List Co}{D:List Du}{i:Nat}(h:i<D.length):gV t l D (i+1)=gV t l D i++[(iI t l D[i]).1]:=by
 unfold gV;rw[List.take_succ_eq_append_getElem h,List.map_append];rfl
theorem aDj(t:Ty)(l:List Co)(D:List Du)(i:Nat):(gV t l D i).length<=i:=by simp[gV];omega
theorem aEY{D:List Du}{i:Nat}(h:i<D.length):(D.map Du.cells)[i]?=some D[i].cells:=by simp[h]
abbrev dcR(l:List Dc):List (List D):=l.map Dc.cells
def aDk(t:Ty)(l:List Co)(D:List Du)(nb:Nat)(box:Bxs)(x:DuA):AS :=
 ⟨tl [(28,I x.i),(27,I D.length),(26,.d (rK D)),(10,.ptr (nb+10) 0 0),(6,.ptr (nb+6) 0 0),(2,.d (bS l)),(3,.ptr (nb+3) 0 0)],lb nb box [(10,[[.osl 8 (dcR (gV t l D x.i)) x.o]]),(6,[[cQ]]),(3,[fD t])],x.tok,x.nt⟩
structure tL (D:List Du):Prop where
 n:D.length<=100000000
 g:∀d∈D,d.o.g.Fit
set_option maxRecDepth 100000 in
theorem wF(t:Ty)(L:List Ru)(l:List Co)(h:bT t L l)(hL:L.length<=1000000)(hl:l.length<=1000000)(hD:tL (dX t L l).1):DC 16 [t.av,.d (eS L),.d (bS l)] (.tup [.agg [.d (aHQ (lZ t L l).1)],I (lZ t L l).2]):=by
 intro tok nt box nb;have ha:=aEh t L l h hL hl;obtain⟨R,hR⟩:∃R,lZ t L l=R:=⟨_,rfl⟩
 rw[hR];unfold lZ at hR;obtain⟨⟨D,e⟩,hA⟩:∃A,dX t L l=A:=⟨_,rfl⟩
 rw[hA] at hR ha hD;simp only at hR ha hD;refine sI func16 ntmps16 fun Hb Ht=>?_
 repeat first|simp|refine sR ?_
 refine sD (ha _ _) ?_;simp;by_cases e1:e=0
 case neg =>
  rw[if_pos e1] at hR;have hb:(e != 0)=true:=by simp[e1]
  subst hR;try (simp[hb])
  repeat ((first|refine sR ?_|refine sC ?_|refine sX ?_);simp[hb])
  refine sT (sH Hb Ht ?_);simp[aHQ]
 rw[if_neg (by simp[e1])] at hR;subst e1;have hDn:=hD.n;try (simp)
 repeat ((first|refine sR ?_|refine sC ?_|refine sX ?_);simp)
 refine sN ?_;refine sL (aDk t l D nb box) (fun x=>x.i<=D.length/\(∀d∈D.take x.i,(iI t l d).2=true)/\TK tok nt x.tok x.nt [x.o]) (fun x=>D.length-x.i) ⟨0,.full,tok,nt⟩ ⟨Nat.zero_le _,by simp,(TK.start Ht).full⟩ (wM (nr0 _) rfl (by simp[ToL,lk]) (by simp[aC,lk,gV])) ?_;rintro⟨i,o1,tok1,nt1⟩ S ⟨hi,hok,htk⟩ hS;simp only[aDk] at hS hi hok htk;subst hS;have hw:=sW (i:=i) (by omega);have hpl:=aDj t l D i;by_cases hlt:i<D.length
 .have hdm:=List.getElem_mem hlt;have hget:=aEY hlt;have hsu:=aBy (t:=t) (l:=l) hlt;have hts:=List.take_succ_eq_append_getElem hlt;have hdg:=hD.g _ hdm;obtain⟨d,hd9⟩:∃d,D[i]=d:=⟨_,rfl⟩
  rw[hd9] at hdm hget hsu hts hdg;have hmt:=aIJ t h.t l hl (fun c hc=>(h.l c hc).g) d hdg;obtain⟨⟨x,ok⟩,hM⟩:∃M,iI t l d=M:=⟨_,rfl⟩
  rw[hM] at hmt hsu;simp only at hmt hsu;try (simp[hlt,hget,hd9])
  repeat ((first|refine sR ?_|refine sC ?_|refine sX ?_);simp[hlt,hget,hd9])
  refine sD (hmt _ _) ?_;simp;cases ok
  .have:R=([],10):=by
    rw[<-hR];unfold aHD;rw[if_neg];intro hall;have:=List.all_eq_true.1 hall d hdm
    rw[hM] at this;cases this
   subst this;try (simp)
   repeat ((first|refine sR ?_|refine sC ?_|refine sX ?_);simp)
   refine sT (sG Hb Ht htk.old htk.le ?_);simp[aHQ]
  .try (simp)
   repeat ((first|refine sR ?_|refine sC ?_|refine sX ?_);simp)
   refine⟨⟨by omega,htk.live⟩,?_⟩;try (simp[hw])
   repeat ((first|refine sR ?_|refine sC ?_|refine sX ?_);simp[hw])
   refine sE ?_;refine⟨⟨i+1,_,_,_⟩,⟨hlt,fun y hy=>?_,htk.app⟩,by simp only;omega,wM htk.app.le rfl (by simp[ToL,lk]) (by simp[aC,lk,hsu])⟩;rw[hts] at hy;rcases List.mem_append.1 hy with hy|hy
   .exact hok y hy
   .rw[List.mem_singleton.1 hy,hM]
 .have:i=D.length:=by omega
  subst this;rw[List.take_length] at hok;have:R=(gV t l D D.length,0):=by
   rw[<-hR];unfold aHD gV;rw[if_pos (List.all_eq_true.2 hok),List.take_length]
  subst this;try (simp)
  repeat ((first|refine sR ?_|refine sC ?_|refine sX ?_);simp)
  refine sT (sG Hb Ht htk.old htk.le ?_);simp
def opK(t:Ty)(l:List Co)(D:List Du)(i:Nat):List Ob:=((D.take i).filter fun d=>!(iI t l d).2).map Du.o
theorem aBR{t:Ty}{l:List Co}{D:List Du}{i:Nat}(h:i<D.length):opK t l D (i+1)=opK t l D i++if (iI t l D[i]).2=true then [] else [D[i].o]:=by
 unfold opK;rw[List.take_succ_eq_append_getElem h,List.filter_append,List.map_append];cases e:(iI t l D[i]).2<;>simp[e]
theorem aFF(t:Ty)(l:List Co)(D:List Du)(i:Nat):(opK t l D i).length<=i:=by
 unfold opK;rw[List.length_map];exact Nat.le_trans (List.length_filter_le _ _) (by simp;omega)
theorem aFi(t:Ty)(l:List Co)(D:List Du):opK t l D D.length=jQ t l D:=by
 unfold opK jQ;rw[List.take_length]
abbrev obR(l:List Ob):List (List D):=l.map Ob.cells
def aP1(t:Ty)(l:List Co)(D:List Du)(nb:Nat)(box:Bxs)(x:DuA):AS :=
 ⟨tl [(14,I x.i),(13,I D.length),(12,.d (rK D)),(7,.osl 5 (obR (opK t l D x.i)) x.o),(1,.d (bS l)),(3,.ptr (nb+3) 0 0)],lb nb box [(3,[fD t])],x.tok,x.nt⟩
set_option maxRecDepth 100000 in
theorem aJq(t:Ty)(ht:t.Fit)(l:List Co)(hl:l.length<=1000000)(hc:∀c∈l,c.g.Fit)(D:List Du)(hD:tL D):DC 38 [t.av,.d (bS l),.d (rK D)] (.d (sQ (jQ t l D))):=by
 intro tok nt box nb;have hDn:=hD.n;refine sI func38 ntmps38 fun Hb Ht=>?_
 repeat first|simp|refine sR ?_
 refine sN ?_;refine sL (aP1 t l D nb box) (fun x=>x.i<=D.length/\TK tok nt x.tok x.nt [x.o]) (fun x=>D.length-x.i) ⟨0,.full,tok,nt⟩ ⟨Nat.zero_le _,(TK.start Ht).full⟩ (wM (nr0 _) rfl (by simp[ToL,lk,opK]) (by simp[aC,lk])) ?_;rintro⟨i,o1,tok1,nt1⟩ S ⟨hi,htk⟩ hS;simp only[aP1] at hS hi htk;subst hS;have hw:=sW (i:=i) (by omega);have hpl:=aFF t l D i;by_cases hlt:i<D.length
 .have hget:=aEY hlt;have hsu:=aBR (t:=t) (l:=l) hlt;have hdg:=hD.g _ (List.getElem_mem hlt);obtain⟨d,hd9⟩:∃d,D[i]=d:=⟨_,rfl⟩
  rw[hd9] at hget hsu hdg;have hmt:=aIJ t ht l hl hc d hdg;obtain⟨⟨x,ok⟩,hM⟩:∃M,iI t l d=M:=⟨_,rfl⟩
  rw[hM] at hmt hsu;simp only at hmt hsu;try (simp[hlt,hget,hd9])
  repeat ((first|refine sR ?_|refine sC ?_|refine sX ?_);simp[hlt,hget,hd9])
  refine sD (hmt _ _) ?_;simp;cases ok
  .rw[if_neg (by simp)] at hsu;try (simp)
   repeat ((first|refine sR ?_|refine sC ?_|refine sX ?_);simp)
   refine⟨⟨by omega,htk.live⟩,?_⟩;try (simp[hw])
   repeat ((first|refine sR ?_|refine sC ?_|refine sX ?_);simp[hw])
   refine sE ?_;exact⟨⟨i+1,_,_,_⟩,⟨hlt,htk.app⟩,by simp only;omega,wM htk.app.le rfl (by simp[ToL,lk,hsu]) (by simp[aC,lk])⟩
  .rw[if_pos rfl,List.append_nil] at hsu;try (simp[hw])
   repeat ((first|refine sR ?_|refine sC ?_|refine sX ?_);simp[hw])
   refine sE ?_;exact⟨⟨i+1,_,_,_⟩,⟨hlt,htk⟩,by simp only;omega,wM htk.le rfl (by simp[ToL,lk,hsu]) (by simp[aC,lk])⟩
 .have:i=D.length:=by omega
  subst this;rw[aFi];try (simp)
  repeat ((first|refine sR ?_|refine sC ?_|refine sX ?_);simp)
  refine sT (sG Hb Ht htk.old htk.le ?_);simp
theorem aFG(t:Ty)(L:List Ru)(l:List Co)(h:bT t L l)(hL:L.length<=1000000)(hl:l.length<=1000000)(hD:tL (dX t L l).1):DC 11 [t.av,.d (eS L),.d (bS l)] (.tup [.d (sQ (gG t L l).1),I (gG t L l).2]):=by
 intro tok nt box nb;have ha:=aEh t L l h hL hl;obtain⟨R,hR⟩:∃R,gG t L l=R:=⟨_,rfl⟩
 rw[hR];unfold gG at hR;obtain⟨⟨D,e⟩,hA⟩:∃A,dX t L l=A:=⟨_,rfl⟩
 rw[hA] at hR ha hD;simp only at hR ha hD;have ho:=aJq t h.t l hl (fun c hc=>(h.l c hc).g) D hD;refine sI func11 ntmps11 fun Hb Ht=>?_
 repeat first|simp|refine sR ?_
 refine sD (ha _ _) ?_;simp;by_cases e1:e=0
 .rw[if_neg (by simp[e1])] at hR;subst e1;subst hR;try (simp)
  repeat ((first|refine sR ?_|refine sC ?_|refine sX ?_);simp)
  refine sD (ho _ _) ?_;simp;try (simp)
  repeat ((first|refine sR ?_|refine sC ?_|refine sX ?_);simp)
  refine sT (sH Hb Ht ?_);simp
 .rw[if_pos e1] at hR;have hb:(e != 0)=true:=by simp[e1]
  subst hR;try (simp[hb])
  repeat ((first|refine sR ?_|refine sC ?_|refine sX ?_);simp[hb])
  refine sT (sH Hb Ht ?_);simp[sQ]
def sNm(n:Nat):ByteArray:=⟨#[115]⟩++dgB n
def aKq(n:Nat)(g:Gr):Co:=⟨sNm n,1,g,[]⟩
def eT(t:Ty):List Co->List Ob->List Co × Int
 | l,[]=>(l,0)
 | l,o::r=>if l.any (nP t o.g)=true then eT t l r else if l.length=8∨6<o.g.nodes.length∨8<o.g.edges.length then ([],3) else eT t (l++[aKq l.length o.g]) r
def yC(t:Ty)(L:List Ru):Nat->List Co->List Du->List Co × Int
 | 0,l,D=>if jQ t l D=[] then (l,0) else ([],10)
 | n+1,l,D=>if jQ t l D=[] then (l,0) else if (eT t l (jQ t l D)).2≠0 then ([],3) else if (iX t L (eT t l (jQ t l D)).1).2≠0 then ([],(iX t L (eT t l (jQ t l D)).1).2) else yC t L n (eT t l (jQ t l D)).1 (iX t L (eT t l (jQ t l D)).1).1
def jI(t:Ty)(L:List Ru)(l:List Co)(n:Int):List Co × Int :=
 if (dX t L l).2≠0 then ([],(dX t L l).2) else if n<0∨4<n then ([],6) else yC t L n.toNat l (dX t L l).1
theorem aIx:∀n,n<8->cM (sNm n)=true/\(sNm n).size=2:=by decide +kernel
end Go.AM
