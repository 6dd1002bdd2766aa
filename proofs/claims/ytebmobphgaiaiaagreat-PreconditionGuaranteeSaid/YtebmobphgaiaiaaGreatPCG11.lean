/-
 Parts of the proof, as merged from many texts: a machine over data, what the functions compute, plain laws.
-/
import Derived.Test.YtebmobphgaiaiaaGreatPCG10
import Derived.Shelf.Spec.SlicesGrow
import Derived.Deep.AppendLies
set_option linter.unusedSimpArgs false
set_option linter.unusedVariables false
namespace Go.AM
open Go Go.Proofs
open Go.Proofs.Tryz
theorem iotaF_zero(n:Nat):iotaF n 0=[]:=rfl
theorem iotaF_succ(n k:Nat):iotaF n (k+1)=iotaF n k++[((n+k:Nat):Int)]:=by simp[iotaF,List.range_succ]
def stNu(n k:Nat)(nb:Nat)(box:Bxs)(x:Acc):AS:=⟨tl [(0,I n),(1,I k),(5,.osl 1 (rI (iotaF n x.i)) x.own),(6,I x.i)],lb nb box [],x.tok,x.nt⟩
theorem numbers05_c(n k:Nat)(hn:n<=1000000)(hk:k<=1000000):DC 204 [I n,I k] (.d (ints (iotaF n k))):=by
 intro tok nt box nb;refine sI func204 ntmps204 fun Hb Ht=>?_
 repeat first|simp|refine sR ?_
 refine sN ?_;refine sL (stNu n k nb box) (fun x=>x.i<=k/\TK tok nt x.tok x.nt [x.own]) (fun x=>k-x.i) ⟨0,.full,tok,nt⟩ ⟨Nat.zero_le _,(TK.start Ht).full⟩ (wM (nr _) rfl (by simp[ToL,lk,iotaF_zero]) trivial) ?_;rintro⟨i,own,tok',nt'⟩ S ⟨hi,htk⟩ hS;simp only[stNu] at hS hi htk;subst hS;have hw:=sW (i:=i) (by omega);have hw2:IntKind.i64.wrap (↑n+↑i)=((n+i:Nat):Int):=by rw[wrap_in (by omega) (by omega)];omega
 have hl:=iotaF_len n i;have hs:=iotaF_succ n i;repeat first|simp|refine sR ?_|refine sC ?_
 refine⟨fun hlt=>?_,fun hge=>?_⟩
 .repeat first|simp[hw2]|refine sR ?_
  refine⟨⟨by omega,htk.live⟩,?_⟩;repeat first|simp[hw]|refine sR ?_
  refine sE ?_;exact⟨⟨i+1,_,_,_⟩,⟨hlt,htk.app⟩,by simp only;omega,wM htk.app.le rfl (by simp[ToL,lk,hs]) trivial⟩
 .refine sX ?_;simp only[AU,↓reduceIte];have:i=k:=by omega
  subst this;repeat first|simp|refine sR ?_
  refine sT (sG Hb Ht htk.old htk.le ?_);simp
theorem unG_fit{b c:Gr}(h:¬(40<b.nodes.length+c.nodes.length∨80<b.edges.length+c.edges.length)):(unG b c).Fit:=⟨by simp[unG];omega,by simp[unG];omega⟩
def unE(b c:Gr)(i:Nat):List E:=b.edges++(c.edges.take i).map (shE b.nodes.length)
theorem unE_len(b c:Gr)(i:Nat):(unE b c i).length<=b.edges.length+i:=by simp[unE];omega
theorem unE_succ(b c:Gr){i:Nat}(h:i<c.edges.length):unE b c (i+1)=unE b c i++[shE b.nodes.length c.edges[i]]:=by simp only[unE,List.take_add_one,List.getElem?_eq_getElem h,Option.toList,List.map_append,List.map_cons,List.map_nil,List.append_assoc]
def stUn(b c:Gr)(N:List Int)(nb:Nat)(box:Bxs)(x:Acc2):AS :=
 ⟨tl [(13,I x.i),(12,.ptr (nb+12) 0 0),(11,I b.edges.length),(10,I b.nodes.length),(6,.ptr (nb+6) 0 0),(5,.ptr (nb+5) 0 0),(4,.ptr (nb+4) 0 0),(3,.ptr (nb+3) 0 0)],
  lb nb box [(12,[[.osl 1 (rI N) x.o1,.osl 3 (rE (unE b c x.i)) x.o2]]),(3,[[.d (ints c.nodes),.d (AM.edges c.edges)]]),(6,[[.bot,.bot]]),(5,[[.bot,.bot]]),(4,[[.bot,.bot]])],x.tok,x.nt⟩
theorem iotaF_iota(n:Nat):iotaF 0 n=iota n:=by simp[iotaF,iota]
theorem union05_c(b c:Gr)(hb:b.Fit)(hc:c.Fit)(vb:vG b=0)(vc:vG c=0):DC 138 [b.av,c.av] (if 40<b.nodes.length+c.nodes.length∨80<b.edges.length+c.edges.length then .tup [Gr.av ⟨[],[]⟩,Mo.av ⟨[],[]⟩,Mo.av ⟨[],[]⟩,I 3]
   else .tup [(unG b c).av,(idM b).av,Mo.av ⟨iotaF b.nodes.length c.nodes.length,iotaF b.edges.length c.edges.length⟩,I 0]):=by
 intro tok nt box nb;have hb1:=valid05_c b hb;have hc1:=valid05_c c hc;have hcp:=copied_c b hb;refine sI func138 ntmps138 fun Hb Ht=>?_
 repeat first|simp|refine sR ?_
 refine sD (hb1 _ _) ?_;simp;repeat first|simp[vb]|refine sR ?_
 refine sC ?_;repeat first|simp|refine sR ?_
 refine sD (hc1 _ _) ?_;simp;have hbn:=hb.n;have hbe:=hb.e;have hcn:=hc.n;have hce:=hc.e;have w1:IntKind.i64.wrap (↑b.nodes.length+↑c.nodes.length)=(b.nodes.length:Int)+c.nodes.length:=wrap_in (by omega) (by omega)
 have w2:IntKind.i64.wrap (↑b.edges.length+↑c.edges.length)=(b.edges.length:Int)+c.edges.length:=wrap_in (by omega) (by omega)
 by_cases h1:(40:Int)<(b.nodes.length:Int)+c.nodes.length
 .repeat first|simp[vc,w1,h1]|refine sR ?_
  refine sC ?_;simp;repeat first|simp[w1,h1]|refine sR ?_
  refine sC ?_;repeat first|simp|refine sR ?_
  have hc1:40<b.nodes.length+c.nodes.length∨80<b.edges.length+c.edges.length:=.inl (by omega)
  refine sT (sH Hb Ht ?_);simp[hc1,ints,AM.edges]
 .by_cases h2:(80:Int)<(b.edges.length:Int)+c.edges.length
  .repeat first|simp[vc,w1,h1,w2,h2]|refine sR ?_
   refine sC ?_;simp;repeat first|simp[w1,h1,w2,h2]|refine sR ?_
   refine sC ?_;repeat first|simp|refine sR ?_
   have hc1:40<b.nodes.length+c.nodes.length∨80<b.edges.length+c.edges.length:=.inr (by omega)
   refine sT (sH Hb Ht ?_);simp[hc1,ints,AM.edges]
  .repeat first|simp[vc,w1,h1,w2,h2]|refine sR ?_
   refine sC ?_;simp;repeat first|simp[w1,h1,w2,h2]|refine sR ?_
   refine sC ?_;repeat first|simp|refine sR ?_
   refine sD (hcp _ _) ?_;simp;have hc1:¬(40<b.nodes.length+c.nodes.length∨80<b.edges.length+c.edges.length):=by omega
   have hc2:¬40<b.nodes.length+c.nodes.length:=by omega
   have hc3:¬80<b.edges.length+c.edges.length:=by omega
   have htk:=(TK.start Ht).full.app.full.app.swap;repeat first|simp|refine sR ?_
   refine⟨⟨by omega,htk.live⟩,?_⟩;repeat first|simp|refine sR ?_
   refine sN ?_;have htk:=htk.app;obtain⟨N,hN⟩:∃N,b.nodes++c.nodes=N:=⟨_,rfl⟩
   refine sL (stUn b c N nb box) (fun x=>x.i<=c.edges.length/\TK tok nt x.tok x.nt [x.o1,x.o2]) (fun x=>c.edges.length-x.i) ⟨0,_,_,_,_⟩ ⟨Nat.zero_le _,htk⟩ (wM htk.le rfl (by simp[ToL,lk]) (by simp[BoxL,lk,unE,<-hN])) ?_;rintro⟨i,o1,o2,tok',nt'⟩ S ⟨hi,htk⟩ hS;simp only[stUn] at hS hi htk;subst hS;have hw:=sW (i:=i) (by omega);have hul:=unE_len b c i;have hec:=validG_edges vc;repeat first|simp|refine sR ?_|refine sC ?_
   refine⟨fun hlt=>?_,fun hge=>?_⟩
   .have hus:=unE_succ b c hlt;obtain⟨e1,e2,e3,e4⟩:=hec _ (List.getElem_mem hlt);have x1:IntKind.i64.wrap (c.edges[i].fr+↑b.nodes.length)=c.edges[i].fr+b.nodes.length:=wrap_in (by omega) (by omega)
    have x2:IntKind.i64.wrap (c.edges[i].to+↑b.nodes.length)=c.edges[i].to+b.nodes.length:=wrap_in (by omega) (by omega)
    repeat first|simp[hlt,x1,x2]|refine sR ?_
    refine⟨⟨by omega,htk.swap.live⟩,?_⟩;repeat first|simp[hw]|refine sR ?_
    refine sE ?_;exact⟨⟨i+1,_,_,_,_⟩,⟨hlt,htk.swap.app.swap⟩,by simp only;omega,wM htk.swap.app.le rfl (by simp[ToL,lk]) (by simp[BoxL,lk,hus,shE])⟩
   .refine sX ?_;simp only[AU,↓reduceIte];have:i=c.edges.length:=by omega
    subst this;have n1:∀tok nt,DCall prog 204 [I 0,I b.nodes.length] tok nt (.d (ints (iota b.nodes.length))) tok nt:=by rw[<-iotaF_iota];exact numbers05_c 0 b.nodes.length (by omega) (by omega)
    have n2:∀tok nt,DCall prog 204 [I 0,I b.edges.length] tok nt (.d (ints (iota b.edges.length))) tok nt:=by rw[<-iotaF_iota];exact numbers05_c 0 b.edges.length (by omega) (by omega)
    have n3:=numbers05_c b.nodes.length c.nodes.length (by omega) (by omega);have n4:=numbers05_c b.edges.length c.edges.length (by omega) (by omega);repeat first|simp|refine sR ?_
    refine sD (n1 _ _) ?_;repeat first|simp|refine sR ?_
    refine sD (n2 _ _) ?_;repeat first|simp|refine sR ?_
    refine sD (n3 _ _) ?_;repeat first|simp|refine sR ?_
    refine sD (n4 _ _) ?_;repeat first|simp|refine sR ?_
    have hu:unG b c=⟨N,unE b c c.edges.length⟩:=by rw[<-hN];simp[unG,unE]
    refine sT (sG Hb Ht htk.old htk.le ?_);simp[hc1,hu,idM]
def stPa(F G:List Int)(n1:Nat)(nb:Nat)(box:Bxs)(x:Acc):AS:=⟨tl [(0,.d (ints F)),(1,.d (ints (G.map fun v=>(n1:Int)+v))),(5,.osl 2 ((prK n1 F G x.i).map fun p=>[D.raw (.int .i64 p.1),D.raw (.int .i64 p.2)]) x.own),(6,I x.i)],lb nb box [],x.tok,x.nt⟩
theorem pairs10_c(F G:List Int)(n1:Nat)(tok:Tks)(nt:Nat)(hl:F.length=G.length)(hF:F.length<=1000000):DCall prog 206 [.d (ints F),.d (ints (G.map fun v=>(n1:Int)+v))] tok nt (.d (prs (prK n1 F G F.length))) tok nt:=by
 intro box nb;refine sI func206 ntmps206 fun Hb Ht=>?_
 repeat first|simp|refine sR ?_
 refine sN ?_;refine sL (stPa F G n1 nb box) (fun x=>x.i<=F.length/\TK tok nt x.tok x.nt [x.own]) (fun x=>F.length-x.i) ⟨0,.full,tok,nt⟩ ⟨Nat.zero_le _,(TK.start Ht).full⟩ (wM (nr _) rfl (by simp[ToL,lk,prK]) trivial) ?_;rintro⟨i,own,tok',nt'⟩ S ⟨hi,htk⟩ hS;simp only[stPa] at hS hi htk;subst hS;have hw:=sW (i:=i) (by omega);have hpl:=prK_len n1 F G i;have hsc:=prK_succ n1 F G i;repeat first|simp|refine sR ?_|refine sC ?_
 refine⟨fun hlt=>?_,fun hge=>?_⟩
 .have hig:i<G.length:=by omega
  have e1:F.getD i 0=F[i]:=by simp[hlt]
  have e2:G.getD i 0=G[i]:=by simp[hig]
  rw[e1,e2] at hsc;repeat first|simp[hlt,hig]|refine sR ?_
  refine⟨⟨by omega,htk.live⟩,?_⟩;repeat first|simp[hw]|refine sR ?_
  refine sE ?_;exact⟨⟨i+1,_,_,_⟩,⟨hlt,htk.app⟩,by simp only;omega,wM htk.app.le rfl (by simp[ToL,lk,hsc]) trivial⟩
 .refine sX ?_;simp only[AU,↓reduceIte];have:i=F.length:=by omega
  subst this;repeat first|simp|refine sR ?_
  refine sT (sG Hb Ht htk.old htk.le ?_);simp
def stQ1(a:Gr)(p q:List Int)(n m:Nat)(nb:Nat)(box:Bxs)(tok:Tks)(nt:Nat)(i:Nat):AS :=
 ⟨tl [(15,I i),(14,.ptr (nb+14) 0 0),(11,.d (ints q)),(8,.d (ints p)),(7,.ptr (nb+7) 0 0),(6,.ptr (nb+6) 0 0),(3,.ptr (nb+3) 0 0)],
  lb nb box [(14,[[.msl (nb+30) 0 n 1,.msl (nb+32) 0 m 3]]),(32,rowsE (List.replicate m ⟨0,0,0⟩)),(30,rowsI (fillN p a.nodes n i)),(3,[[.d (ints a.nodes),.d (AM.edges a.edges)]]),(7,[[.bot,.bot]]),(6,[[.bot,.bot]])],tok,nt⟩
def stQ2(a:Gr)(p q:List Int)(n m:Nat)(nb:Nat)(box:Bxs)(tok:Tks)(nt:Nat)(i:Nat):AS :=
 ⟨tl [(16,I i),(14,.ptr (nb+14) 0 0),(11,.d (ints q)),(8,.d (ints p)),(7,.ptr (nb+7) 0 0),(6,.ptr (nb+6) 0 0),(3,.ptr (nb+3) 0 0)],
  lb nb box [(14,[[.msl (nb+30) 0 n 1,.msl (nb+32) 0 m 3]]),(32,rowsE (fillE q p a.edges m i)),(30,rowsI (fillN p a.nodes n a.nodes.length)),(3,[[.d (ints a.nodes),.d (AM.edges a.edges)]]),(7,[[.bot,.bot]]),(6,[[.bot,.bot]])],tok,nt⟩
theorem quotient10_c(a:Gr)(l k:List Int)(ha:a.Fit)(hl:l.length=a.nodes.length)(hk:k.length=a.edges.length)(h80:a.nodes.length<=80/\a.edges.length<=80)(hpl:PartL l)(hpk:PartL k)(hx:EOk a):DC 207 [a.av,.d (ints l),.d (ints k)] (.tup [(quF a l k).g.av,(quF a l k).o.av]):=by
 intro tok nt box nb;have q1:=quotient74_c l (by omega) hpl;have q2:=quotient74_c k (by omega) hpk;have hnl:=numN_len l l.length;have hnk:=numN_len k k.length;have hrl:=numN_range hpl l.length (nr _);have hrk:=numN_range hpk k.length (nr _);have han:=ha.n;have hae:=ha.e;refine sI func207 ntmps207 fun Hb Ht=>?_
 repeat first|simp|refine sR ?_
 refine sD (q1 _ _) ?_;repeat first|simp|refine sR ?_
 refine sD (q2 _ _) ?_;simp;generalize hp:(numN l l.length).1=p at *;generalize hq:(numN k k.length).1=q at *;generalize hn:(numN l l.length).2=n at *;generalize hm:(numN k k.length).2=m at *;repeat first|simp|refine sR ?_
 refine⟨⟨hnl.2.1,by omega⟩,⟨hnk.2.1,by omega⟩,?_⟩;obtain⟨nn,hnn⟩:∃nn:Nat,n=nn:=⟨n.toNat,by omega⟩
 obtain⟨mm,hmm⟩:∃mm:Nat,m=mm:=⟨m.toNat,by omega⟩
 subst hnn;subst hmm;simp only[Int.toNat_natCast];repeat first|simp|refine sR ?_
 refine sN ?_;refine sL (stQ1 a p q nn mm nb box tok nt) (fun i=>i<=a.nodes.length) (fun i=>a.nodes.length-i) 0 (Nat.zero_le _) (wM (nr _) rfl (by simp[ToL,lk]) (by simp[BoxL,lk,fillN])) ?_;rintro i S hi hS;simp only[stQ1] at hS;subst hS;have hw:=sW (i:=i) (by omega);have hfl:=fillN_len p a.nodes nn i;repeat first|simp|refine sR ?_|refine sC ?_
 refine⟨fun hlt=>?_,fun hge=>?_⟩
 .have hip:i<p.length:=by omega
  obtain⟨r1,r2⟩:=hrl i hip;have r3:p[i].toNat<nn:=by omega
  repeat first|simp[hlt,hip,r1,r2,r3,hfl,hw]|refine sR ?_
  refine sE ?_;refine⟨i+1,hlt,by omega,wM (nr _) rfl (by simp[ToL,lk]) (by simp[BoxL,lk,fillN,hip,hlt])⟩
 .refine sX ?_;simp only[AU,↓reduceIte];have:i=a.nodes.length:=by omega
  subst this;repeat first|simp|refine sR ?_
  refine sN ?_;have hfl2:=fillN_len p a.nodes nn a.nodes.length;refine sL (stQ2 a p q nn mm nb box tok nt) (fun i=>i<=a.edges.length) (fun i=>a.edges.length-i) 0 (Nat.zero_le _) (wM (nr _) rfl (by simp[ToL,lk]) (by simp[BoxL,lk,fillE])) ?_;rintro i S hi hS;simp only[stQ2] at hS;subst hS;have hw:=sW (i:=i) (by omega);have hfl:=fillE_len q p a.edges mm i;repeat first|simp|refine sR ?_|refine sC ?_
  refine⟨fun hlt=>?_,fun hge=>?_⟩
  .have hiq:i<q.length:=by omega
   obtain⟨r1,r2⟩:=hrk i hiq;have r3:q[i].toNat<mm:=by omega
   obtain⟨x1,x2,x3,x4⟩:=hx _ (List.getElem_mem hlt);have hpl':p.length=a.nodes.length:=by omega
   have y1:a.edges[i].fr.toNat<p.length:=by omega
   have y2:a.edges[i].to.toNat<p.length:=by omega
   rw[<-hpl'] at x2 x4;repeat first|simp[hlt,hiq,r1,r2,r3,hfl,x1,x2,x3,x4,y1,y2,hw]|refine sR ?_
   refine sE ?_;refine⟨i+1,hlt,by omega,wM (nr _) rfl (by simp[ToL,lk]) (by simp[BoxL,lk,fillE,hiq,hlt,y1,y2])⟩
  .refine sX ?_;simp only[AU,↓reduceIte];have:i=a.edges.length:=by omega
   subst this;refine AL.weak (Weaks.frz (l':=[(14,.ptr (nb+14) 0 0),(11,.d (ints q)),(8,.d (ints p)),(7,.ptr (nb+7) 0 0),(6,.ptr (nb+6) 0 0)]) (loc':=[(14,[[.d (ints (fillN p a.nodes nn a.nodes.length)),.msl (nb+32) 0 mm 3]]),(32,rowsE (fillE q p a.edges mm a.edges.length)),(7,[[.bot,.bot]]),(6,[[.bot,.bot]])])
    30 1 (rI (fillN p a.nodes nn a.nodes.length)) (nr _) rfl (by simp[lk,rowsI_eq]) (by simp[lk]) (by simp) (by simp[ToL,lk]) (by simp[BoxL,lk,hfl2])) ?_
   refine AL.weak (Weaks.frz (l':=[(14,.ptr (nb+14) 0 0),(11,.d (ints q)),(8,.d (ints p)),(7,.ptr (nb+7) 0 0),(6,.ptr (nb+6) 0 0)]) (loc':=[(14,[[.d (ints (fillN p a.nodes nn a.nodes.length)),.d (AM.edges (fillE q p a.edges mm a.edges.length))]]),(7,[[.bot,.bot]]),(6,[[.bot,.bot]])])
    32 3 (rE (fillE q p a.edges mm a.edges.length)) (nr _) rfl (by simp[lk,rowsE_eq]) (by simp[lk]) (by simp) (by simp[ToL,lk]) (by simp[BoxL,lk,fillE_len])) ?_
   repeat first|simp|refine sR ?_
   refine sT (sH Hb Ht ?_);simp[quF,hp,hq,hn,hm]
theorem spanErr_c(a b c:Gr)(f g:Mo)(ha:a.Fit)(hb:b.Fit)(hc:c.Fit)(hf:validM a b f=0)(hg:validM a c g=0):DC 137 [.agg [.d (ints a.nodes),.d (AM.edges a.edges),.d (ints b.nodes),.d (AM.edges b.edges),.d (ints c.nodes),.d (AM.edges c.edges),.d (ints f.nodes),.d (ints f.edges),.d (ints g.nodes),.d (ints g.edges)]] (I 0):=by
 intro tok nt box nb;have h1:=valid53_c a b f ha hb;have h2:=valid53_c a c g ha hc;rw[hf] at h1;rw[hg] at h2;refine sI func137 ntmps137 fun Hb Ht=>?_
 repeat first|simp|refine sR ?_
 refine sD (h1 _ _) ?_;repeat first|simp|refine sR ?_
 refine sC ?_;repeat first|simp|refine sR ?_
 refine sD (h2 _ _) ?_;repeat first|simp|refine sR ?_
 refine sT (sH Hb Ht ?_);simp
theorem glue10_c(b c:Gr)(f g:Mo)(hb:EOk b)(hc:EOk c)(hs:¬(40<b.nodes.length+c.nodes.length∨80<b.edges.length+c.edges.length))(mn:Mt b.nodes.length c.nodes.length f.nodes g.nodes)(me:Mt b.edges.length c.edges.length f.edges g.edges)(ff:f.Fit)(hp:isPair b c (mtI f.nodes g.nodes c.nodes.length,mtI f.edges g.edges c.edges.length)):DC 139 [(unG b c).av,f.av,Mo.av ⟨g.nodes.map fun v=>(b.nodes.length:Int)+v,g.edges.map fun v=>(b.edges.length:Int)+v⟩] (.tup [(pushO b c f g).g.av,Mo.av ⟨iota b.nodes.length++(pushO b c f g).r.nodes,iota b.edges.length++(pushO b c f g).r.edges⟩]):=by
 intro tok nt box nb;have p1:=pairs10_c f.nodes g.nodes b.nodes.length;have p2:=pairs10_c f.edges g.edges b.edges.length;have g1:=generate02_c b.nodes.length c.nodes.length f.nodes g.nodes mn (by omega);have g2:=generate02_c b.edges.length c.edges.length f.edges g.edges me (by omega);have hfit:=unG_fit hs;have ln:(unG b c).nodes.length=b.nodes.length+c.nodes.length:=by simp[unG]
 have le:(unG b c).edges.length=b.edges.length+c.edges.length:=by simp[unG]
 have q:=quotient10_c (unG b c) (genX b.nodes.length (mtI f.nodes g.nodes c.nodes.length)) (genX b.edges.length (mtI f.edges g.edges c.edges.length)) hfit (by rw[genX_len,mtI_len,ln]) (by rw[genX_len,mtI_len,le]) (by omega) (genX_part (isM_in hp.1)) (genX_part (isM_in hp.2)) (unG_ok hb hc);rw[quF_glue hb hc hp,quot_glue hb hc hp] at q;have hpo:glue b c (mtI f.nodes g.nodes c.nodes.length) (mtI f.edges g.edges c.edges.length)=pushO b c f g:=rfl
 rw[hpo] at q;rw[<-ln] at g1;rw[<-le] at g2;generalize pushO b c f g=o at *;generalize unG b c=u at *;generalize genX b.nodes.length (mtI f.nodes g.nodes c.nodes.length)=L1 at *;generalize genX b.edges.length (mtI f.edges g.edges c.edges.length)=L2 at *;have t1:=fun tok nt=>p1 tok nt mn.l ff.n
 have t2:=fun tok nt=>p2 tok nt me.l ff.e
 refine sI func139 ntmps139 fun Hb Ht=>?_
 repeat first|simp|refine sR ?_
 refine sD (t1 _ _) ?_;repeat first|simp|refine sR ?_
 refine sD (g1 _ _) ?_;repeat first|simp|refine sR ?_
 refine sD (t2 _ _) ?_;repeat first|simp|refine sR ?_
 refine sD (g2 _ _) ?_;repeat first|simp|refine sR ?_
 refine sD (q _ _) ?_;repeat first|simp|refine sR ?_
 refine sT (sH Hb Ht ?_);simp
theorem byK_iotaX{F:List Int}{n:Nat}(h:∀x∈F,0<=x/\x<n):byK F (iota n) F.length=F:=byK_ext rfl fun i hi=>by
 have:=h _ (getD_mem (d:=0) hi)
 rw[iota_getD (by omega)];omega
theorem byK_iotaF{G:List Int}{n k:Nat}(h:∀x∈G,0<=x/\x<k):byK G (iotaF n k) G.length=G.map fun v=>(n:Int)+v:=byK_ext (by simp) fun i hi=>by
 have:=h _ (getD_mem (d:=0) hi)
 rw[iotaF_get (by omega),mapI_getD (f:=fun v=>(n:Int)+v) hi];omega
theorem mt_n{a b c:Gr}{f g:Mo}(hf:Emb a b f)(hg:Emb a c g):Mt b.nodes.length c.nodes.length f.nodes g.nodes:=⟨by rw[hf.vm.ln,hg.vm.ln],hf.n,hg.n,hf.vm.n,hg.vm.n⟩
theorem mt_e{a b c:Gr}{f g:Mo}(hf:Emb a b f)(hg:Emb a c g):Mt b.edges.length c.edges.length f.edges g.edges:=⟨by rw[hf.vm.le,hg.vm.le],hf.e,hg.e,hf.vm.e,hg.vm.e⟩
def poBig(b c:Gr):Prop:=40<b.nodes.length+c.nodes.length∨80<b.edges.length+c.edges.length
instance (b c:Gr):Decidable (poBig b c):=inferInstanceAs (Decidable (_∨_))
def pushR(b c:Gr)(f g:Mo):Ov × Int:=if poBig b c then (⟨⟨[],[]⟩,⟨[],[]⟩,⟨[],[]⟩⟩,3) else (pushO b c f g,0)
abbrev spanAv(a b c:Gr)(f g:Mo):AV:=.agg [.d (ints a.nodes),.d (AM.edges a.edges),.d (ints b.nodes),.d (AM.edges b.edges),.d (ints c.nodes),.d (AM.edges c.edges),.d (ints f.nodes),.d (ints f.edges),.d (ints g.nodes),.d (ints g.edges)]
theorem Emb.fit{a b:Gr}{m:Mo}(h:Emb a b m):m.Fit/\a.Fit/\b.Fit:=by
 have v:=h.vm;have h1:=(validG_types v.va).1;have h2:=(validG_types v.vb).1;have h3:=v.ln;have h4:=v.le;exact⟨⟨by omega,by omega⟩,⟨by omega,by omega⟩,⟨by omega,by omega⟩⟩
theorem pushO_r{b c:Gr}{f g:Mo}(hp:isPair b c (mtI f.nodes g.nodes c.nodes.length,mtI f.edges g.edges c.edges.length)):(pushO b c f g).r.nodes.length=c.nodes.length/\(pushO b c f g).r.edges.length=c.edges.length/\(pushO b c f g).l=idM b :=
 ⟨by rw[<-mtI_len f.nodes g.nodes c.nodes.length];exact(glueN_len _ _ _ _).2,by rw[<-mtI_len f.edges g.edges c.edges.length];exact(glueE_len _ _ _ _ _).2,rfl⟩
theorem po10_c(a b c:Gr)(f g:Mo)(hf:Emb a b f)(hg:Emb a c g):DC 75 [spanAv a b c f g] (.tup [(pushR b c f g).1.g.av,(pushR b c f g).1.l.av,(pushR b c f g).1.r.av,I (pushR b c f g).2]):=by
 intro tok nt box nb;obtain⟨ff,fa,fb⟩:=hf.fit;obtain⟨fg,_,fc⟩:=hg.fit;have v:=hf.vm;have w:=hg.vm;have hsp:=spanErr_c a b c f g fa fb fc hf.v hg.v;have hun:=union05_c b c fb fc v.vb w.vb;refine sI func75 ntmps75 fun Hb Ht=>?_
 repeat first|simp|refine sR ?_
 refine sD (hsp _ _) ?_;repeat first|simp|refine sR ?_
 refine sC ?_;repeat first|simp|refine sR ?_
 refine sD (hun _ _) ?_;simp;by_cases hb:poBig b c
 .have hb':40<b.nodes.length+c.nodes.length∨80<b.edges.length+c.edges.length:=hb
  have hR:pushR b c f g=(⟨⟨[],[]⟩,⟨[],[]⟩,⟨[],[]⟩⟩,3):=if_pos hb
  rw[if_pos hb'];repeat first|simp|refine sR ?_
  refine sC ?_;repeat first|simp|refine sR ?_
  refine sT (sH Hb Ht ?_);simp[hR,ints,AM.edges]
 .have hb':¬(40<b.nodes.length+c.nodes.length∨80<b.edges.length+c.edges.length):=hb
  have hR:pushR b c f g=(pushO b c f g,0):=if_neg hb
  rw[if_neg hb'];have hp:=spn_pair hf hg;obtain⟨rl1,rl2,rl3⟩:=pushO_r hp;have t1:=then63_c f (idM b) ff (by simpa[idM,iota_len] using v.n) (by simpa[idM,iota_len] using v.e);have e1:thenM f (idM b)=f:=by simp only[thenM,idM,byK_iotaX v.n,byK_iotaX v.e]
  rw[e1] at t1;have t2:=then63_c g ⟨iotaF b.nodes.length c.nodes.length,iotaF b.edges.length c.edges.length⟩ fg (by simpa[iotaF_len] using w.n) (by simpa[iotaF_len] using w.e);have e2:thenM g ⟨iotaF b.nodes.length c.nodes.length,iotaF b.edges.length c.edges.length⟩=⟨g.nodes.map fun v=>(b.nodes.length:Int)+v,g.edges.map fun v=>(b.edges.length:Int)+v⟩:=by simp only[thenM,byK_iotaF w.n,byK_iotaF w.e]
  rw[e2] at t2;have hgl:=glue10_c b c f g (validG_edges v.vb) (validG_edges w.vb) hb' (mt_n hf hg) (mt_e hf hg) ff hp;have e3:thenM (idM b) ⟨iota b.nodes.length++(pushO b c f g).r.nodes,iota b.edges.length++(pushO b c f g).r.edges⟩=idM b:=by simp only[thenM,idM,byK_lo]
  have e4:thenM ⟨iotaF b.nodes.length c.nodes.length,iotaF b.edges.length c.edges.length⟩ ⟨iota b.nodes.length++(pushO b c f g).r.nodes,iota b.edges.length++(pushO b c f g).r.edges⟩=(pushO b c f g).r:=by
   simp only[thenM];rw[<-rl1,<-rl2,byK_hi,byK_hi]
  have i1:∀(n:Nat) (r:List Int),∀x∈iota n,0<=x/\x<(iota n++r).length:=fun n r x hx=>by
   obtain⟨j,hj,rfl⟩:=mem_getD hx;rw[iota_len] at hj;rw[iota_getD hj,List.length_append,iota_len];omega
  have i2:∀(n k:Nat) (r:List Int),r.length=k->∀x∈iotaF n k,0<=x/\x<(iota n++r).length:=fun n k r hr x hx=>by
   obtain⟨j,hj,rfl⟩:=mem_getD hx;rw[iotaF_len] at hj;rw[iotaF_get hj,List.length_append,iota_len];omega
  have t3:=then63_c (idM b) ⟨iota b.nodes.length++(pushO b c f g).r.nodes,iota b.edges.length++(pushO b c f g).r.edges⟩ ⟨by simp only[idM,iota_len];exact fb.n,by simp only[idM,iota_len];exact fb.e⟩ (i1 _ _) (i1 _ _);have t4:=then63_c ⟨iotaF b.nodes.length c.nodes.length,iotaF b.edges.length c.edges.length⟩ ⟨iota b.nodes.length++(pushO b c f g).r.nodes,iota b.edges.length++(pushO b c f g).r.edges⟩ ⟨by simp only[iotaF_len];exact fc.n,by simp only[iotaF_len];exact fc.e⟩ (i2 _ _ _ rl1) (i2 _ _ _ rl2);rw[e3] at t3;rw[e4] at t4;rw[hR];simp only;rw[rl3];generalize pushO b c f g=o at *;generalize unG b c=u at *;generalize (⟨iota b.nodes.length++o.r.nodes,iota b.edges.length++o.r.edges⟩:Mo)=q at *;generalize (⟨g.nodes.map fun v=>(b.nodes.length:Int)+v,g.edges.map fun v=>(b.edges.length:Int)+v⟩:Mo)=gg at *;generalize (⟨iotaF b.nodes.length c.nodes.length,iotaF b.edges.length c.edges.length⟩:Mo)=jj at *;generalize idM b=ii at *;repeat first|simp|refine sR ?_
  refine sC ?_;repeat first|simp|refine sR ?_
  refine sD (t1 _ _) ?_;repeat first|simp|refine sR ?_
  refine sD (t2 _ _) ?_;repeat first|simp|refine sR ?_
  refine sD (hgl _ _) ?_;repeat first|simp|refine sR ?_
  refine sD (t3 _ _) ?_;repeat first|simp|refine sR ?_
  refine sD (t4 _ _) ?_;repeat first|simp|refine sR ?_
  refine sT (sH Hb Ht ?_);simp
end Go.AM
namespace Go.Proofs
open Go.Shelf
open Go.Proofs.Tryz
def Tryz.layGrow_ren:Go.Shelf.Ren:=⟨fun|4=>343|n=>n,fun|0=>0|3=>3|4=>4|9=>9|20=>20|22=>26|25=>3|n=>n,fun|n=>n⟩
theorem Tryz.layGrow:Go.Proofs.Lays8.n4 prog Tryz.layGrow_ren:={
 mixed:=by kernel_rfl
 f4:=⟨Tryz.f343.name,by kernel_rfl,func343.trans (congrArg some (by kernel_rfl))⟩
 t0:=underlying0
 a0:=isAgg0
 z0:=sizeOf0
 v0:=zeroValue0
 t3:=underlying3
 a3:=isAgg3
 z3:=sizeOf3
 v3:=zeroValue3
 t4:=underlying4
 a4:=isAgg4
 z4:=sizeOf4
 v4:=zeroValue4
 t9:=underlying9
 a9:=isAgg9
 z9:=sizeOf9
 v9:=zeroValue9
 t20:=underlying20
 a20:=isAgg20
 z20:=sizeOf20
 v20:=zeroValue20
 t22:=underlying26
 a22:=isAgg26
 z22:=sizeOf26
 v22:=zeroValue26
}
end Go.Proofs
namespace Go.AM
open Go Go.Proofs Go.RowKit Go.Lib
open Go.Proofs.Tryz
theorem infoInt:(prog.info? 3).map (fun i=>(i.zero,i.size,i.bytes))=some (some (.int .i64 0),1,8):=by kernel_rfl
theorem rvd_nil{c:Addr->Option Value}{ps:Addr->Prop}{A:Option Addr}{cap:Nat}(h:cap<=maxLen):RVd c ps (.sl 1 []) (.slice A 0 cap) :=
 .sl (es:=[]) (fun _ _=>default) (Nat.zero_le _) h (by simp) (by simp) (by simp) (by simp)
theorem grow_c(n:Nat)(hn:n<=1000000)(tok:Tks)(nt:Nat):DCall prog 343 [.osl 0 [] .full,I n] tok nt (.osl 1 [] (.tok nt)) (upd tok nt true) (nt+1):=by
 intro box nb;refine⟨Enters.mk func343 rfl (by kernel_rfl),fun G w vals hm hr=>?_⟩;obtain⟨hlen,hrv⟩:=hr
 match vals,hlen with
 | [v,u],_ =>
  have h0:=hrv 0 (by simp) (by simp);have h1:=hrv 1 (by simp) (by simp);simp only[List.getElem_cons_zero,List.getElem_cons_succ] at h0 h1;have hu:u=.int .i64 n:=by cases h1 with|d h=>cases h;rfl
  subst hu;obtain⟨A,rfl⟩:∃A,v=.slice A 0 0:=by cases h0 with|osl h2 h3=>exact h3.imp fun _ h=>h.1
  have hnt:=hm.nt;by_cases e:n=0
  .subst e;refine(Any8.slices_Grow_room Tryz.layGrow A 0 0 0 w (nr _) (by omega) (by omega) (by omega)).mono ?_;rintro e w' ⟨rfl,rfl⟩;refine⟨_,_,_,G.newtok none,rfl,⟨rfl,rfl⟩,rfl,hm.newtok none (fun g h=>by cases h),.osl (rvd_nil (by decide)) ⟨?_,fun x hx=>?_⟩,Le.newtok none,fun k hk=>⟨hk,rfl⟩⟩
   .simp only[Gh.newtok];rw[hnt];exact Nat.lt_succ_self _
   .simp only[Gh.newtok] at hx;rw[show G.nt=nt from hnt,uS] at hx;cases hx;exact⟨A,rfl⟩
  .obtain⟨i0,hi,hz0,hz1,hz2⟩:=info_parts infoInt;have hcapge:=grownCap_ge w (0+n) 0 3;have hcapm:=grownCap_le_maxLen w (0+n) 0 3 (by unfold maxLen;omega);refine(Any8.slices_Grow_grow Tryz.layGrow i0 (.int .i64 0) hi hz0 (by rw[hz1];decide) A 0 0 n [] w (nr _) (by omega) (by rw[hz2];omega) (by omega) (by simp) (fun _=>rfl) (fun a _ j v h=>by simp at h)).mono ?_;rintro e w' ⟨rfl,rfl⟩;have hcap:grownCap w (0+n) 0 (Tryz.layGrow_ren.t 25)=grownCap w (0+n) 0 3:=rfl
   rw[hcap];generalize grownCap w (0+n) 0 3=cap at *;have hms:(Builtin.zeroCells (Value.int .i64 0).cells (0+n-0)).size=n:=by simp[size_zeroCells,Value.cells]
   have hmr:(Builtin.zeroCells (Value.int .i64 0).cells (cap-(0+n))).size=cap-n:=by simp[size_zeroCells,Value.cells]
   have hcs:((([]:List Value).toArray++Builtin.zeroCells (Value.int .i64 0).cells (0+n-0))++Builtin.zeroCells (Value.int .i64 0).cells (cap-(0+n))).size=cap:=by
    rw[Array.size_append,Array.size_append,hms,hmr];simp;omega
   generalize ((([]:List Value).toArray++Builtin.zeroCells (Value.int .i64 0).cells (0+n-0))++Builtin.zeroCells (Value.int .i64 0).cells (cap-(0+n)))=cs at *;have hmd:=RelM.drew hm;have hp:=RelM.newpart hmd 0 cap (.cells cs (Tryz.layGrow_ren.t 25));have hle:=Le.newpart hmd 0 cap (.cells cs (Tryz.layGrow_ren.t 25));have hsz:w.drew.heap.size=w.heap.size:=rfl
   refine⟨_,_,_,(G.setKind w.heap.size (.part 0 cap)).newtok (some w.heap.size),rfl,⟨rfl,rfl⟩,rfl,hp.newtok (some w.heap.size) (fun g hg=>?_),.osl (rvd_nil hcapm) ⟨?_,fun x hx=>?_⟩,(Le.drew.trans hle).trans (Le.newtok _),fun k hk=>⟨hk,rfl⟩⟩
   .cases hg;refine⟨fun t ht=>?_,0,cs,_,.inl ?_,heap_alloc_new _ _⟩
    .have:=hm.tlt t w.heap.size ht
     omega
    .rw[hcs];simp[Gh.setKind,uS]
   .simp only[Gh.newtok,Gh.setKind];rw[hnt];exact Nat.lt_succ_self _
   .simp only[Gh.newtok,Gh.setKind] at hx;rw[show G.nt=nt from hnt,uS] at hx;cases hx;exact⟨cap,rfl,by simp[Gh.newtok,Gh.setKind,uS]⟩
def flK(LL:List (List Int))(i:Nat):List Int:=(LL.take i).flatten
theorem flK_zero(LL:List (List Int)):flK LL 0=[]:=by simp[flK]
theorem flK_succ(LL:List (List Int)){i:Nat}(h:i<LL.length):flK LL (i+1)=flK LL i++LL[i]:=by
 simp only[flK,List.take_add_one,List.getElem?_eq_getElem h,Option.toList,List.flatten_append,List.flatten_cons,List.flatten_nil,List.append_nil]
theorem flK_le(LL:List (List Int))(i:Nat):(flK LL i).length<=LL.flatten.length:=by
 have:LL.flatten=flK LL i++(LL.drop i).flatten:=by rw[flK,<-List.flatten_append,List.take_append_drop]
 rw[this,List.length_append];omega
def stC1(LL:List (List Int))(nb:Nat)(box:Bxs)(tok:Tks)(nt:Nat)(i:Nat):AS :=
 ⟨tl [(11,I i),(10,I LL.length),(9,.d (lists LL)),(3,I (flK LL i).length),(0,.d (lists LL))],lb nb box [],tok,nt⟩
def stC2(LL:List (List Int))(nb:Nat)(box:Bxs)(x:Acc):AS :=
 ⟨tl [(27,I x.i),(26,I LL.length),(25,.d (lists LL)),(6,.osl 1 (rI (flK LL x.i)) x.own)],lb nb box [],x.tok,x.nt⟩
theorem concat_c(LL:List (List Int))(hl:LL.length<=1000)(ht:LL.flatten.length<=1000000):DC 336 [.d (lists LL)] (.d (ints LL.flatten)):=by
 intro tok nt box nb;have hfl:∀i,(flK LL i).length<=LL.flatten.length:=flK_le LL
 have hall:flK LL LL.length=LL.flatten:=by rw[flK,List.take_length]
 generalize LL.flatten=T at *;have hg:=grow_c T.length ht;refine sI func336 ntmps336 fun Hb Ht=>?_
 repeat first|simp|refine sR ?_
 refine sN ?_;refine sL (stC1 LL nb box tok nt) (fun i=>i<=LL.length) (fun i=>LL.length-i) 0 (Nat.zero_le _) (wM (nr _) rfl (by simp[ToL,lk,flK_zero]) trivial) ?_;rintro i S hi hS;simp only[stC1] at hS;subst hS;have hw:=sW (i:=i) (by omega);repeat first|simp|refine sR ?_|refine sC ?_
 refine⟨fun hlt=>?_,fun hge=>?_⟩
 .have hs:=flK_succ LL hlt;have hle:=hfl (i+1);have hle0:=hfl i;rw[hs,List.length_append] at hle;have hw2:IntKind.i64.wrap (↑(flK LL i).length+↑LL[i].length)=((flK LL (i+1)).length:Int):=by rw[hs,List.length_append,wrap_in (by omega) (by omega)];omega
  have hn:¬((flK LL (i+1)).length:Int)<0:=by omega
  repeat first|simp[hlt,hw2,hn]|refine sR ?_
  refine sC ?_;simp;repeat first|simp[hw]|refine sR ?_
  refine sE ?_;exact⟨i+1,hlt,by omega,wM (nr _) rfl (by simp[ToL,lk]) trivial⟩
 .refine sX ?_;simp only[AU,↓reduceIte];have:i=LL.length:=by omega
  subst this;rw[hall];repeat first|simp|refine sR ?_
  refine sD (hg _ _) ?_;repeat first|simp|refine sR ?_
  refine sN ?_;have htk:=(TK.start Ht).full.app;refine sL (stC2 LL nb box) (fun x=>x.i<=LL.length/\TK tok nt x.tok x.nt [x.own]) (fun x=>LL.length-x.i) ⟨0,_,_,_⟩ ⟨Nat.zero_le _,htk⟩ (wM htk.le rfl (by simp[ToL,lk,flK_zero]) trivial) ?_;rintro⟨i,own,tok',nt'⟩ S ⟨hi,htk⟩ hS;simp only[stC2] at hS hi htk;subst hS;have hw:=sW (i:=i) (by omega);repeat first|simp|refine sR ?_|refine sC ?_
  refine⟨fun hlt=>?_,fun hge=>?_⟩
  .have hs:=flK_succ LL hlt;have hle:=hfl (i+1);rw[hs,List.length_append] at hle;repeat first|simp[hlt]|refine sR ?_
   refine⟨⟨by omega,htk.live⟩,?_⟩;repeat first|simp[hw]|refine sR ?_
   refine sE ?_;exact⟨⟨i+1,_,_,_⟩,⟨hlt,htk.app⟩,by simp only;omega,wM htk.app.le rfl (by simp[ToL,lk,hs]) trivial⟩
  .refine sX ?_;simp only[AU,↓reduceIte];have:i=LL.length:=by omega
   subst this;rw[hall];repeat first|simp|refine sR ?_
   refine sT (sG Hb Ht htk.old htk.le ?_);simp
theorem concat2_c(a b:List Int)(ht:a.length+b.length<=1000000)(tok:Tks)(nt:Nat):DCall prog 336 [.d (lists [a,b])] tok nt (.d (ints (a++b))) tok nt:=by
 have:=concat_c [a,b] (by simp) (by simpa using ht) tok nt
 simpa using this
def stGN(n k:Nat)(nb:Nat)(box:Bxs)(x:Acc):AS:=⟨tl [(8,I x.i),(7,I k),(5,.osl 1 (rI (iotaF n x.i)) x.own),(0,I n)],lb nb box [],x.tok,x.nt⟩
theorem gnumbers_c(n k:Nat)(hn:n<=1000000)(hk:k<=1000000):DC 337 [I n,I k] (.d (ints (iotaF n k))):=by
 intro tok nt box nb;refine sI func337 ntmps337 fun Hb Ht=>?_
 repeat first|simp|refine sR ?_
 refine sN ?_;refine sL (stGN n k nb box) (fun x=>x.i<=k/\TK tok nt x.tok x.nt [x.own]) (fun x=>k-x.i) ⟨0,.full,tok,nt⟩ ⟨Nat.zero_le _,(TK.start Ht).full⟩ (wM (nr _) rfl (by simp[ToL,lk,iotaF_zero]) trivial) ?_;rintro⟨i,own,tok',nt'⟩ S ⟨hi,htk⟩ hS;simp only[stGN] at hS hi htk;subst hS;have hw:=sW (i:=i) (by omega);have hw2:IntKind.i64.wrap (↑n+↑i)=((n+i:Nat):Int):=by rw[wrap_in (by omega) (by omega)];omega
 have hl:=iotaF_len n i;have hs:=iotaF_succ n i;repeat first|simp|refine sR ?_|refine sC ?_
 refine⟨fun hlt=>?_,fun hge=>?_⟩
 .repeat first|simp[hw2]|refine sR ?_
  refine⟨⟨by omega,htk.live⟩,?_⟩;repeat first|simp[hw]|refine sR ?_
  refine sE ?_;exact⟨⟨i+1,_,_,_⟩,⟨hlt,htk.app⟩,by simp only;omega,wM htk.app.le rfl (by simp[ToL,lk,hs]) trivial⟩
 .refine sX ?_;simp only[AU,↓reduceIte];have:i=k:=by omega
  subst this;repeat first|simp|refine sR ?_
  refine sT (sG Hb Ht htk.old htk.le ?_);simp
def folK(l h:List Int)(i:Nat):List Int:=byK l h i++List.replicate (l.length-i) 0
theorem folK_len(l h:List Int){i:Nat}(hi:i<=l.length):(folK l h i).length=l.length:=by simp[folK,byK];omega
theorem folK_set(l h:List Int){i:Nat}(hi:i<l.length)(h2:l[i].toNat<h.length):(folK l h i).set i h[l[i].toNat]=folK l h (i+1):=by
 unfold folK;have e:(byK l h i).length=i:=by simp[byK];omega
 have e2:l.length-i=(l.length-(i+1))+1:=by omega
 rw[List.set_append,e,if_neg (by omega),Nat.sub_self,e2,List.replicate_succ,List.set_cons_zero,byK_succ l h hi];simp[h2]
def stFw(l h:List Int)(nb:Nat)(box:Bxs)(tok:Tks)(nt:Nat)(i:Nat):AS :=
 ⟨tl [(13,I i),(12,I l.length),(11,.d (ints l)),(5,.msl (nb+10) 0 l.length 1),(1,.d (ints h))],lb nb box [(10,rowsI (folK l h i))],tok,nt⟩
theorem follow_c(l h:List Int)(hl:l.length<=1000000)(hr:∀x∈l,0<=x/\x<h.length):DC 340 [.d (ints l),.d (ints h)] (.d (ints (byK l h l.length))):=by
 intro tok nt box nb;refine sI func340 ntmps340 fun Hb Ht=>?_
 repeat first|simp|refine sR ?_
 refine⟨by omega,?_⟩;repeat first|simp|refine sR ?_
 refine sN ?_;refine sL (stFw l h nb box tok nt) (fun i=>i<=l.length) (fun i=>l.length-i) 0 (Nat.zero_le _) (wM (nr _) rfl (by simp[ToL,lk]) (by simp[BoxL,lk,folK,byK_zero])) ?_;rintro i S hi hS;simp only[stFw] at hS;subst hS;have hw:=sW (i:=i) (by omega);have hfl:=folK_len l h hi;repeat first|simp|refine sR ?_|refine sC ?_
 refine⟨fun hlt=>?_,fun hge=>?_⟩
 .obtain⟨x0,x1⟩:=hr _ (List.getElem_mem hlt);have x2:l[i].toNat<h.length:=by omega
  have hst:=folK_set l h hlt x2;repeat first|simp[hlt,x0,x1,x2,hfl,hw]|refine sR ?_
  refine sE ?_;exact⟨i+1,hlt,by omega,wM (nr _) rfl (by simp[ToL,lk]) (by simp[BoxL,lk,hst])⟩
 .refine sX ?_;simp only[AU,↓reduceIte];have:i=l.length:=by omega
  subst this;have hall:folK l h l.length=byK l h l.length:=by simp[folK]
  rw[hall];have hbl:(byK l h l.length).length=l.length:=byK_all l h
  refine AL.weak (Weaks.frz (l':=[(5,.d (ints (byK l h l.length)))]) (loc':=[]) 10 1 (rI (byK l h l.length)) (nr _) rfl (by simp[lk,rowsI_eq]) (by simp[lk]) (by simp) (by simp[ToL,hbl]) (by simp[BoxL])) ?_;repeat first|simp|refine sR ?_
  refine sT (sH Hb Ht ?_);simp
def stPp(F G A C:List Int)(n1:Nat)(nb:Nat)(box:Bxs)(x:Acc):AS :=
 ⟨tl [(13,I x.i),(12,I F.length),(9,.osl 2 ((prK n1 F G x.i).map fun p=>[D.raw (.int .i64 p.1),D.raw (.int .i64 p.2)]) x.own),(0,.d (ints F)),(1,.d (ints G)),(2,.d (ints A)),(3,.d (ints C))],lb nb box [],x.tok,x.nt⟩
theorem ppairs_c(F G A C:List Int)(n1:Nat)(hl:F.length=G.length)(hF:F.length<=1000000)(h1:∀x∈F,0<=x/\x<n1)(h2:∀x∈G,0<=x/\x<C.length)(hA:A=iota n1)(hC:C=iotaF n1 C.length):DC 326 [.d (ints F),.d (ints G),.d (ints A),.d (ints C)] (.d (prs (prK n1 F G F.length))):=by
 intro tok nt box nb;refine sI func326 ntmps326 fun Hb Ht=>?_
 repeat first|simp|refine sR ?_
 refine sN ?_;have Al:A.length=n1:=by rw[hA,iota_len]
 refine sL (stPp F G A C n1 nb box) (fun x=>x.i<=F.length/\TK tok nt x.tok x.nt [x.own]) (fun x=>F.length-x.i) ⟨0,.full,tok,nt⟩ ⟨Nat.zero_le _,(TK.start Ht).full⟩ (wM (nr _) rfl (by simp[ToL,lk,prK]) trivial) ?_;rintro⟨i,own,tok',nt'⟩ S ⟨hi,htk⟩ hS;simp only[stPp] at hS hi htk;subst hS;have hw:=sW (i:=i) (by omega);have hpl:=prK_len n1 F G i;have hsc:=prK_succ n1 F G i;repeat first|simp|refine sR ?_|refine sC ?_
 refine⟨fun hlt=>?_,fun hge=>?_⟩
 .have hig:i<G.length:=by omega
  have e1:F.getD i 0=F[i]:=by simp[hlt]
  have e2:G.getD i 0=G[i]:=by simp[hig]
  obtain⟨a0,a1⟩:=h1 _ (List.getElem_mem hlt);obtain⟨c0,c1⟩:=h2 _ (List.getElem_mem hig);have a2:F[i].toNat<A.length:=by omega
  have c2:G[i].toNat<C.length:=by omega
  have a3:A[F[i].toNat]=F[i]:=by
   have:A.getD F[i].toNat 0=F[i].toNat:=by rw[hA];exact iota_getD (by omega)
   rw[List.getD_eq_getElem?_getD,List.getElem?_eq_getElem a2,Option.getD_some] at this;omega
  have c3:C[G[i].toNat]=(n1:Int)+G[i]:=by
   have:C.getD G[i].toNat 0=((n1+G[i].toNat:Nat):Int):=by rw[hC];exact iotaF_get (by omega)
   rw[List.getD_eq_getElem?_getD,List.getElem?_eq_getElem c2,Option.getD_some] at this;omega
  rw[e1,e2] at hsc;rw[<-Al] at a1;repeat first|simp[hlt,hig,a0,a1,a2,a3,c0,c1,c2,c3]|refine sR ?_
  refine⟨⟨by omega,htk.live⟩,?_⟩;repeat first|simp[hw]|refine sR ?_
  refine sE ?_;exact⟨⟨i+1,_,_,_⟩,⟨hlt,htk.app⟩,by simp only;omega,wM htk.app.le rfl (by simp[ToL,lk,hsc]) trivial⟩
 .refine sX ?_;simp only[AU,↓reduceIte];have:i=F.length:=by omega
  subst this;repeat first|simp|refine sR ?_
  refine sT (sG Hb Ht htk.old htk.le ?_);simp
def stU1(b c:Gr)(nb:Nat)(box:Bxs)(tok:Tks)(nt:Nat)(i:Nat):AS :=
 ⟨tl [(22,I i),(21,I 2),(20,.osl 2 [[ints b.nodes,AM.edges b.edges],[ints c.nodes,AM.edges c.edges]] .full),(7,I 0),(6,.ptr (nb+6) 0 0),(5,.ptr (nb+5) 0 0),(4,.ptr (nb+4) 0 0),(3,.ptr (nb+3) 0 0),(2,.ptr (nb+2) 0 0)],
  lb nb box [(3,[[.d (ints c.nodes),.d (AM.edges c.edges)]]),(2,[[.d (ints b.nodes),.d (AM.edges b.edges)]]),(6,[[.bot,.bot]]),(5,[[.bot,.bot]]),(4,[[.bot,.bot]])],tok,nt⟩
def stU2(b c:Gr)(N:List Int)(nb:Nat)(box:Bxs)(x:Acc):AS :=
 ⟨tl [(71,I x.i),(70,I c.edges.length),(69,.d (AM.edges c.edges)),(13,.ptr (nb+13) 0 0),(12,I b.edges.length),(11,I b.nodes.length),(6,.ptr (nb+6) 0 0),(5,.ptr (nb+5) 0 0),(4,.ptr (nb+4) 0 0),(3,.ptr (nb+3) 0 0)],
  lb nb box [(13,[[.d (ints N),.osl 3 (rE (unE b c x.i)) x.own]]),(3,[[.d (ints c.nodes),.d (AM.edges c.edges)]]),(6,[[.bot,.bot]]),(5,[[.bot,.bot]]),(4,[[.bot,.bot]])],x.tok,x.nt⟩
theorem union_c(b c:Gr)(hb:b.Fit)(hc:c.Fit)(vb:vG b=0)(vc:vG c=0):DC 324 [b.av,c.av] (if 40<b.nodes.length+c.nodes.length∨80<b.edges.length+c.edges.length then .tup [Gr.av ⟨[],[]⟩,Mo.av ⟨[],[]⟩,Mo.av ⟨[],[]⟩,I 3]
   else .tup [(unG b c).av,(idM b).av,Mo.av ⟨iotaF b.nodes.length c.nodes.length,iotaF b.edges.length c.edges.length⟩,I 0]):=by
 intro tok nt box nb;have hb1:=graphValid_c b hb;have hc1:=graphValid_c c hc;refine sI func324 ntmps324 fun Hb Ht=>?_
 repeat first|simp|refine sR ?_
 refine⟨rfl,?_⟩;refine sN ?_;refine sL (stU1 b c nb box tok nt) (fun i=>i<=2) mu13 0 (by omega) wkA ?_;rintro i S hi hS;simp only[stU1] at hS;subst hS;repeat first|simp|refine sR ?_|refine sC ?_
 have h012:i=0∨i=1∨i=2:=by omega
 rcases h012 with rfl|rfl|rfl
 .simp;repeat first|simp|refine sR ?_
  refine sD (hb1 _ _) ?_;simp;repeat first|simp[vb]|refine sR ?_
  refine sC ?_;simp;repeat first|simp[show IntKind.i64.wrap 1=1 from rfl]|refine sR ?_
  refine sE ?_;exact⟨1,by omega,by decide,wkA⟩
 .simp;repeat first|simp|refine sR ?_
  refine sD (hc1 _ _) ?_;simp;repeat first|simp[vc]|refine sR ?_
  refine sC ?_;simp;repeat first|simp[show IntKind.i64.wrap 2=2 from rfl]|refine sR ?_
  refine sE ?_;exact⟨2,by omega,by decide,wkA⟩
 .simp;refine sX ?_;simp only[AU,↓reduceIte];have hbn:=hb.n;have hbe:=hb.e;have hcn:=hc.n;have hce:=hc.e;have w1:IntKind.i64.wrap (↑b.nodes.length+↑c.nodes.length)=(b.nodes.length:Int)+c.nodes.length:=wrap_in (by omega) (by omega)
  have w2:IntKind.i64.wrap (↑b.edges.length+↑c.edges.length)=(b.edges.length:Int)+c.edges.length:=wrap_in (by omega) (by omega)
  have hcl:=cloneE_c b.edges (by omega);by_cases h1:(40:Int)<(b.nodes.length:Int)+c.nodes.length
  .have hcc:40<b.nodes.length+c.nodes.length∨80<b.edges.length+c.edges.length:=.inl (by omega)
   repeat first|simp[w1,h1]|refine sR ?_
   refine sC ?_;repeat first|simp|refine sR ?_
   refine sT (sH Hb Ht ?_);simp[hcc,ints,AM.edges]
  .by_cases h2:(80:Int)<(b.edges.length:Int)+c.edges.length
   .have hcc:40<b.nodes.length+c.nodes.length∨80<b.edges.length+c.edges.length:=.inr (by omega)
    repeat first|simp[w1,h1,w2,h2]|refine sR ?_
    refine sC ?_;repeat first|simp|refine sR ?_
    refine sT (sH Hb Ht ?_);simp[hcc,ints,AM.edges]
   .have hcc:¬(40<b.nodes.length+c.nodes.length∨80<b.edges.length+c.edges.length):=by omega
    repeat first|simp[w1,h1,w2,h2]|refine sR ?_|refine sC ?_
    have hcat:=concat2_c b.nodes c.nodes (by omega);have hcc2:¬40<b.nodes.length+c.nodes.length:=by omega
    have hcc3:¬80<b.edges.length+c.edges.length:=by omega
    obtain⟨N,hN⟩:∃N,b.nodes++c.nodes=N:=⟨_,rfl⟩
    rw[hN] at hcat;have hu:unG b c=⟨N,unE b c c.edges.length⟩:=by rw[<-hN];simp[unG,unE]
    repeat first|simp|refine sR ?_
    refine⟨rfl,?_⟩;refine Stop.data ?_;refine sD (hcat _ _) ?_;repeat first|simp|refine sR ?_
    refine sD (hcl _ _) ?_;repeat first|simp|refine sR ?_
    refine sN ?_;have htk:=(TK.start Ht).full.app;refine sL (stU2 b c N nb box) (fun x=>x.i<=c.edges.length/\TK tok nt x.tok x.nt [x.own]) (fun x=>c.edges.length-x.i) ⟨0,_,_,_⟩ ⟨Nat.zero_le _,htk⟩ (wM htk.le rfl (by simp[ToL,lk]) (by simp[BoxL,lk,unE])) ?_;rintro⟨i,o2,tok',nt'⟩ S ⟨hi,htk⟩ hS;simp only[stU2] at hS hi htk;subst hS;have hw:=sW (i:=i) (by omega);have hul:=unE_len b c i;have hec:=validG_edges vc;repeat first|simp|refine sR ?_|refine sC ?_
    refine⟨fun hlt=>?_,fun hge=>?_⟩
    .have hus:=unE_succ b c hlt;obtain⟨e1,e2,e3,e4⟩:=hec _ (List.getElem_mem hlt);have x1:IntKind.i64.wrap (c.edges[i].fr+↑b.nodes.length)=c.edges[i].fr+b.nodes.length:=wrap_in (by omega) (by omega)
     have x2:IntKind.i64.wrap (c.edges[i].to+↑b.nodes.length)=c.edges[i].to+b.nodes.length:=wrap_in (by omega) (by omega)
     repeat first|simp[hlt,x1,x2]|refine sR ?_
     refine⟨⟨by omega,htk.live⟩,?_⟩;repeat first|simp[hw]|refine sR ?_
     refine sE ?_;exact⟨⟨i+1,_,_,_⟩,⟨hlt,htk.app⟩,by simp only;omega,wM htk.app.le rfl (by simp[ToL,lk]) (by simp[BoxL,lk,hus,shE])⟩
    .refine sX ?_;simp only[AU,↓reduceIte];have:i=c.edges.length:=by omega
     subst this;have n1:∀tok nt,DCall prog 337 [I 0,I b.nodes.length] tok nt (.d (ints (iota b.nodes.length))) tok nt:=by rw[<-iotaF_iota];exact gnumbers_c 0 b.nodes.length (by omega) (by omega)
     have n2:∀tok nt,DCall prog 337 [I 0,I b.edges.length] tok nt (.d (ints (iota b.edges.length))) tok nt:=by rw[<-iotaF_iota];exact gnumbers_c 0 b.edges.length (by omega) (by omega)
     have n3:=gnumbers_c b.nodes.length c.nodes.length (by omega) (by omega);have n4:=gnumbers_c b.edges.length c.edges.length (by omega) (by omega);repeat first|simp|refine sR ?_
     refine sD (n1 _ _) ?_;repeat first|simp|refine sR ?_
     refine sD (n2 _ _) ?_;repeat first|simp|refine sR ?_
     refine sD (n3 _ _) ?_;repeat first|simp|refine sR ?_
     refine sD (n4 _ _) ?_;simp;refine sN ?_;refine AL.region2 follows_Tryz (nr _) (by kernel_rfl) (Side.of (by simp)) ?_;simp;refine sT (sG Hb Ht htk.old htk.le ?_);simp[hcc,hu,idM]
def stPq1(a:Gr)(L1 L2 q1 q2:List Int)(nb:Nat)(box:Bxs)(x:Acc):AS :=
 ⟨tl [(64,I x.i),(63,I L1.length),(62,.d (ints L1)),(18,.ptr (nb+18) 0 0),(15,.d (ints q2)),(12,.d (ints q1)),(11,.d (ints L2)),(7,.ptr (nb+7) 0 0),(6,.ptr (nb+6) 0 0),(3,.ptr (nb+3) 0 0)],
  lb nb box [(18,[[.osl 1 (rI (repN a.nodes L1 x.i)) x.own,.osl 0 [] .full]]),(3,[[.d (ints a.nodes),.d (AM.edges a.edges)]]),(7,[[.bot,.bot]]),(6,[[.bot,.bot]])],x.tok,x.nt⟩
def stPq2(a:Gr)(L1 L2 q1 q2:List Int)(nb:Nat)(box:Bxs)(x:Acc):AS :=
 ⟨tl [(85,I x.i),(84,I L2.length),(83,.d (ints L2)),(18,.ptr (nb+18) 0 0),(15,.d (ints q2)),(12,.d (ints q1)),(7,.ptr (nb+7) 0 0),(6,.ptr (nb+6) 0 0),(3,.ptr (nb+3) 0 0)],
  lb nb box [(18,[[.d (ints (repN a.nodes L1 L1.length)),.osl 3 (rE (repE a.edges q1 L2 x.i)) x.own]]),(3,[[.d (ints a.nodes),.d (AM.edges a.edges)]]),(7,[[.bot,.bot]]),(6,[[.bot,.bot]])],x.tok,x.nt⟩
theorem pquotient_c(a:Gr)(pn pe:List (Int × Int))(L1 L2:List Int)(ha:a.Fit)(g1:∀tok nt,DCall prog 338 [I a.nodes.length,.d (prs pn)] tok nt (.tup [.d (ints L1),I 0]) tok nt)(g2:∀tok nt,DCall prog 338 [I a.edges.length,.d (prs pe)] tok nt (.tup [.d (ints L2),I 0]) tok nt)(hl:L1.length=a.nodes.length)(hk:L2.length=a.edges.length)(h80:a.nodes.length<=80/\a.edges.length<=80)(hpl:PartL L1)(hpk:PartL L2)(hx:EOk a):DC 325 [a.av,.d (prs pn),.d (prs pe)] (.tup [(quot a L1 L2).g.av,(quot a L1 L2).o.av,I 0]):=by
 intro tok nt box nb;have q1:=quotient86_c L1 (by omega) hpl;have q2:=quotient86_c L2 (by omega) hpk;refine sI func325 ntmps325 fun Hb Ht=>?_
 repeat first|simp|refine sR ?_
 refine sD (g1 _ _) ?_;repeat first|simp|refine sR ?_
 refine sC ?_;repeat first|simp|refine sR ?_
 refine sD (g2 _ _) ?_;repeat first|simp|refine sR ?_
 refine sC ?_;repeat first|simp|refine sR ?_
 refine sD (q1 _ _) ?_;repeat first|simp|refine sR ?_
 refine sD (q2 _ _) ?_;repeat first|simp|refine sR ?_
 refine sN ?_;have han:=ha.n;have hae:=ha.e;have hnl:=numN_len L1 L1.length;have hnk:=numN_len L2 L2.length;have hqt:quot a L1 L2=⟨⟨repN a.nodes L1 L1.length,repE a.edges (numN L1 L1.length).1 L2 L2.length⟩,⟨(numN L1 L1.length).1,(numN L2 L2.length).1⟩⟩:=rfl
 rw[hqt];generalize (numN L1 L1.length).1=q1n at *;generalize (numN L2 L2.length).1=q2n at *;refine sL (stPq1 a L1 L2 q1n q2n nb box) (fun x=>x.i<=L1.length/\TK tok nt x.tok x.nt [x.own]) (fun x=>L1.length-x.i) ⟨0,.full,tok,nt⟩ ⟨Nat.zero_le _,(TK.start Ht).full⟩ (wM (nr _) rfl (by simp[ToL,lk]) (by simp[BoxL,lk,repN])) ?_;rintro⟨i,own,tok',nt'⟩ S ⟨hi,htk⟩ hS;simp only[stPq1] at hS hi htk;subst hS;have hw:=sW (i:=i) (by omega);have hln:=repN_len a.nodes L1 i;repeat first|simp|refine sR ?_|refine sC ?_
 refine⟨fun hlt=>?_,fun hge=>?_⟩
 .have hlb:i<a.nodes.length:=by omega
  repeat first|simp[hlt]|refine sR ?_|refine sC ?_
  refine⟨fun he=>?_,fun hne=>?_⟩
  .repeat first|simp[hlb]|refine sR ?_
   refine⟨⟨by omega,htk.live⟩,?_⟩;repeat first|simp[hw]|refine sR ?_
   refine sE ?_;exact⟨⟨i+1,_,_,_⟩,⟨hlt,htk.app⟩,by simp only;omega,wM htk.app.le rfl (by simp[ToL,lk]) (by simp[BoxL,lk,repN,hlt,hlb,he])⟩
  .repeat first|simp[hw]|refine sR ?_
   refine sE ?_;exact⟨⟨i+1,own,tok',nt'⟩,⟨hlt,htk⟩,by simp only;omega,wM htk.le rfl (by simp[ToL,lk]) (by simp[BoxL,lk,repN,hlt,hlb,hne])⟩
 .refine sX ?_;simp only[AU,↓reduceIte];have:i=L1.length:=by omega
  subst this;repeat first|simp|refine sR ?_
  refine sN ?_;have htk2:=htk.tail.full;refine sL (stPq2 a L1 L2 q1n q2n nb box) (fun x=>x.i<=L2.length/\TK tok nt x.tok x.nt [x.own]) (fun x=>L2.length-x.i) ⟨0,.full,tok',nt'⟩ ⟨Nat.zero_le _,htk2⟩ (wM htk2.le rfl (by simp[ToL,lk]) (by simp[BoxL,lk,repE])) ?_;rintro⟨i,own2,tok',nt'⟩ S ⟨hi,htk⟩ hS;simp only[stPq2] at hS hi htk;subst hS;have hw:=sW (i:=i) (by omega);have hle:=repE_len a.edges q1n L2 i;repeat first|simp|refine sR ?_|refine sC ?_
  refine⟨fun hlt=>?_,fun hge=>?_⟩
  .have hlb:i<a.edges.length:=by omega
   obtain⟨x1,x2,x3,x4⟩:=hx _ (List.getElem_mem hlb);have hq1:q1n.length=a.nodes.length:=by omega
   have y1:a.edges[i].fr.toNat<q1n.length:=by omega
   have y2:a.edges[i].to.toNat<q1n.length:=by omega
   rw[<-hq1] at x2 x4;repeat first|simp[hlt]|refine sR ?_|refine sC ?_
   refine⟨fun he=>?_,fun hne=>?_⟩
   .repeat first|simp[hlb,x1,x2,x3,x4,y1,y2]|refine sR ?_
    refine⟨⟨by omega,htk.live⟩,?_⟩;repeat first|simp[hw]|refine sR ?_
    refine sE ?_;exact⟨⟨i+1,_,_,_⟩,⟨hlt,htk.app⟩,by simp only;omega,wM htk.app.le rfl (by simp[ToL,lk]) (by simp[BoxL,lk,repE,hlt,hlb,he,y1,y2])⟩
   .repeat first|simp[hw]|refine sR ?_
    refine sE ?_;exact⟨⟨i+1,own2,tok',nt'⟩,⟨hlt,htk⟩,by simp only;omega,wM htk.le rfl (by simp[ToL,lk]) (by simp[BoxL,lk,repE,hlt,hlb,hne])⟩
  .refine sX ?_;simp only[AU,↓reduceIte];have:i=L2.length:=by omega
   subst this;repeat first|simp|refine sR ?_
   refine sT (sG Hb Ht htk.old htk.le ?_);simp
theorem pthen_c(m n:Mo)(hm:m.Fit)(hn:∀x∈m.nodes,0<=x/\x<n.nodes.length)(he:∀x∈m.edges,0<=x/\x<n.edges.length):DC 327 [m.av,n.av] (thenM m n).av:=by
 intro tok nt box nb;have h1:=follow_c m.nodes n.nodes hm.n hn;have h2:=follow_c m.edges n.edges hm.e he;refine sI func327 ntmps327 fun Hb Ht=>?_
 repeat first|simp|refine sR ?_
 refine sD (h1 _ _) ?_;repeat first|simp|refine sR ?_
 refine sD (h2 _ _) ?_;repeat first|simp|refine sR ?_
 refine sT (sH Hb Ht ?_);simp[thenM]
theorem pspan_c(a b c:Gr)(f g:Mo)(ha:a.Fit)(hb:b.Fit)(hc:c.Fit)(hf:validM a b f=0)(hg:validM a c g=0):DC 298 [spanAv a b c f g] (I 0):=by
 intro tok nt box nb;have h1:=valid51_c a b f ha hb;have h2:=valid51_c a c g ha hc;rw[hf] at h1;rw[hg] at h2;refine sI func298 ntmps298 fun Hb Ht=>?_
 repeat first|simp|refine sR ?_
 refine sD (h1 _ _) ?_;repeat first|simp|refine sR ?_
 refine sC ?_;repeat first|simp|refine sR ?_
 refine sD (h2 _ _) ?_;repeat first|simp|refine sR ?_
 refine sT (sH Hb Ht ?_);simp
theorem pglue_c(a b c:Gr)(f g:Mo)(hf:Emb a b f)(hg:Emb a c g):DC 299 [spanAv a b c f g] (.tup [(pushR b c f g).1.g.av,(pushR b c f g).1.l.av,(pushR b c f g).1.r.av,I (pushR b c f g).2]):=by
 intro tok nt box nb;obtain⟨ff,fa,fb⟩:=hf.fit;obtain⟨fg,_,fc⟩:=hg.fit;have v:=hf.vm;have w:=hg.vm;have hun:=union_c b c fb fc v.vb w.vb;refine sI func299 ntmps299 fun Hb Ht=>?_
 repeat first|simp|refine sR ?_
 refine sD (hun _ _) ?_;simp;by_cases hb:poBig b c
 .have hb':40<b.nodes.length+c.nodes.length∨80<b.edges.length+c.edges.length:=hb
  have hR:pushR b c f g=(⟨⟨[],[]⟩,⟨[],[]⟩,⟨[],[]⟩⟩,3):=if_pos hb
  rw[if_pos hb'];repeat first|simp|refine sR ?_
  refine sC ?_;repeat first|simp|refine sR ?_
  refine sT (sH Hb Ht ?_);simp[hR,ints,AM.edges]
 .have hb':¬(40<b.nodes.length+c.nodes.length∨80<b.edges.length+c.edges.length):=hb
  have hR:pushR b c f g=(pushO b c f g,0):=if_neg hb
  rw[if_neg hb'];have hp:=spn_pair hf hg;obtain⟨rl1,rl2,rl3⟩:=pushO_r hp;have mn:=mt_n hf hg;have me:=mt_e hf hg;have p1:=ppairs_c f.nodes g.nodes (iota b.nodes.length) (iotaF b.nodes.length c.nodes.length) b.nodes.length mn.l ff.n v.n (by rw[iotaF_len];exact w.n) rfl (by rw[iotaF_len]);have p2:=ppairs_c f.edges g.edges (iota b.edges.length) (iotaF b.edges.length c.edges.length) b.edges.length me.l ff.e v.e (by rw[iotaF_len];exact w.e) rfl (by rw[iotaF_len]);have hfit:=unG_fit hb';have ln:(unG b c).nodes.length=b.nodes.length+c.nodes.length:=by simp[unG]
  have le:(unG b c).edges.length=b.edges.length+c.edges.length:=by simp[unG]
  have g1:=generateP_c b.nodes.length c.nodes.length f.nodes g.nodes mn (by omega);have g2:=generateP_c b.edges.length c.edges.length f.edges g.edges me (by omega);rw[<-ln] at g1;rw[<-le] at g2;have q:=pquotient_c (unG b c) _ _ _ _ hfit g1 g2 (by rw[genX_len,mtI_len,ln]) (by rw[genX_len,mtI_len,le]) (by omega) (genX_part (isM_in hp.1)) (genX_part (isM_in hp.2)) (unG_ok (validG_edges v.vb) (validG_edges w.vb));rw[quot_glue (validG_edges v.vb) (validG_edges w.vb) hp] at q;have hpo:glue b c (mtI f.nodes g.nodes c.nodes.length) (mtI f.edges g.edges c.edges.length)=pushO b c f g:=rfl
  rw[hpo] at q;have e3:thenM (idM b) ⟨iota b.nodes.length++(pushO b c f g).r.nodes,iota b.edges.length++(pushO b c f g).r.edges⟩=idM b:=by simp only[thenM,idM,byK_lo]
  have e4:thenM ⟨iotaF b.nodes.length c.nodes.length,iotaF b.edges.length c.edges.length⟩ ⟨iota b.nodes.length++(pushO b c f g).r.nodes,iota b.edges.length++(pushO b c f g).r.edges⟩=(pushO b c f g).r:=by
   simp only[thenM];rw[<-rl1,<-rl2,byK_hi,byK_hi]
  have i1:∀(n:Nat) (r:List Int),∀x∈iota n,0<=x/\x<(iota n++r).length:=fun n r x hx=>by
   obtain⟨j,hj,rfl⟩:=mem_getD hx;rw[iota_len] at hj;rw[iota_getD hj,List.length_append,iota_len];omega
  have i2:∀(n k:Nat) (r:List Int),r.length=k->∀x∈iotaF n k,0<=x/\x<(iota n++r).length:=fun n k r hr x hx=>by
   obtain⟨j,hj,rfl⟩:=mem_getD hx;rw[iotaF_len] at hj;rw[iotaF_get hj,List.length_append,iota_len];omega
  have t3:=pthen_c (idM b) ⟨iota b.nodes.length++(pushO b c f g).r.nodes,iota b.edges.length++(pushO b c f g).r.edges⟩ ⟨by simp only[idM,iota_len];exact fb.n,by simp only[idM,iota_len];exact fb.e⟩ (i1 _ _) (i1 _ _);have t4:=pthen_c ⟨iotaF b.nodes.length c.nodes.length,iotaF b.edges.length c.edges.length⟩ ⟨iota b.nodes.length++(pushO b c f g).r.nodes,iota b.edges.length++(pushO b c f g).r.edges⟩ ⟨by simp only[iotaF_len];exact fc.n,by simp only[iotaF_len];exact fc.e⟩ (i2 _ _ _ rl1) (i2 _ _ _ rl2);rw[e3] at t3;rw[e4] at t4;rw[hR];simp only;rw[rl3];have hid:idM b=⟨iota b.nodes.length,iota b.edges.length⟩:=rfl
  rw[hid] at t3 ⊢;generalize pushO b c f g=o at *;generalize unG b c=u at *;generalize (⟨iota b.nodes.length++o.r.nodes,iota b.edges.length++o.r.edges⟩:Mo)=qq at *;generalize prK b.nodes.length f.nodes g.nodes f.nodes.length=r1 at *;generalize prK b.edges.length f.edges g.edges f.edges.length=r2 at *;generalize iotaF b.nodes.length c.nodes.length=j1 at *;generalize iotaF b.edges.length c.edges.length=j2 at *;generalize iota b.nodes.length=k1 at *;generalize iota b.edges.length=k2 at *;repeat first|simp|refine sR ?_
  refine sC ?_;repeat first|simp|refine sR ?_
  refine sD (p1 _ _) ?_;repeat first|simp|refine sR ?_
  refine sD (p2 _ _) ?_;repeat first|simp|refine sR ?_
  refine sD (q _ _) ?_;repeat first|simp|refine sR ?_
  refine sC ?_;repeat first|simp|refine sR ?_
  refine sD (t3 _ _) ?_;repeat first|simp|refine sR ?_
  refine sD (t4 _ _) ?_;repeat first|simp|refine sR ?_
  refine sT (sH Hb Ht ?_);simp
theorem pushP_c(a b c:Gr)(f g:Mo)(hf:Emb a b f)(hg:Emb a c g):DC 269 [spanAv a b c f g] (.tup [(pushR b c f g).1.g.av,(pushR b c f g).1.l.av,(pushR b c f g).1.r.av,I (pushR b c f g).2]):=by
 intro tok nt box nb;obtain⟨ff,fa,fb⟩:=hf.fit;obtain⟨fg,_,fc⟩:=hg.fit;have h1:=pspan_c a b c f g fa fb fc hf.v hg.v;have h2:=pglue_c a b c f g hf hg;refine sI func269 ntmps269 fun Hb Ht=>?_
 repeat first|simp|refine sR ?_
 refine sD (h1 _ _) ?_;repeat first|simp|refine sR ?_
 refine sC ?_;repeat first|simp|refine sR ?_
 refine sD (h2 _ _) ?_;repeat first|simp|refine sR ?_
 refine sT (sH Hb Ht ?_);simp
theorem yes_c:DC 297 [] (cdOf 1 []).av:=by
 intro tok nt box nb;refine sI func297 ntmps297 fun Hb Ht=>?_
 repeat first|simp|refine sR ?_
 refine sT (sH Hb Ht ?_);simp[cdOf,Cd.kind,Cd.kids,Cd.m,Cd.g,Cd.sl,Cd.vars,Cd.te,conds,ints,AM.edges,slots,tests]
theorem no_c:DC 266 [] noC.av:=by
 intro tok nt box nb;have h:=yes_c;refine sI func266 ntmps266 fun Hb Ht=>?_
 repeat first|simp|refine sR ?_
 refine sD (h _ _) ?_;repeat first|simp|refine sR ?_
 refine sT (sH Hb Ht ?_);simp[noC,Cd.cells,Cd.rows,cdOf,Cd.kind,Cd.kids,Cd.m,Cd.g,Cd.sl,Cd.vars,Cd.te,conds,ints,AM.edges,slots,tests]
theorem tof_c(r:Ru):DC 85 [r.av] (spAv r.sp):=by
 intro tok nt box nb;refine sI func85 ntmps85 fun Hb Ht=>?_
 repeat first|simp|refine sR ?_
 refine sT (sH Hb Ht ?_);simp[Ru.sp]
def stAt(l images:List Int)(nb:Nat)(box:Bxs)(x:Acc):AS:=⟨tl [(11,I x.i),(10,I images.length),(9,.d (ints images)),(0,.d (ints l)),(5,.osl 1 (rI (mapK (indexI l) images x.i)) x.own)],lb nb box [],x.tok,x.nt⟩
theorem at_c(l images:List Int)(h1:l.length<=1000000)(h2:images.length<=1000000)(tok:Tks)(nt:Nat):DCall prog 267 [.d (ints l),.d (ints images)] tok nt (.d (ints (images.map (indexI l)))) tok nt:=by
 rw[<-mapK_all];intro box nb;have hh:=fun v=>index_c l v h1
 refine sI func267 ntmps267 fun Hb Ht=>?_
 repeat first|simp|refine sR ?_
 refine sN ?_;refine sL (stAt l images nb box) (fun x=>x.i<=images.length/\TK tok nt x.tok x.nt [x.own]) (fun x=>images.length-x.i) ⟨0,.full,tok,nt⟩ ⟨Nat.zero_le _,(TK.start Ht).full⟩ (wM (nr _) rfl (by simp[ToL,lk,mapK_zero]) trivial) ?_;rintro⟨i,own,tok',nt'⟩ S ⟨hi,htk⟩ hS;simp only[stAt] at hS hi htk;subst hS;have hw:=sW (i:=i) (by omega);have hlen:=mapK_len (indexI l) images i;repeat first|simp|refine sR ?_|refine sC ?_
 refine⟨fun hlt=>?_,fun hge=>?_⟩
 .have hsc:=mapK_succ (indexI l) images hlt;repeat first|simp[hlt]|refine sR ?_
  refine sD (hh _ _ _) ?_;repeat first|simp|refine sR ?_
  refine⟨⟨by omega,htk.live⟩,?_⟩;repeat first|simp[hw]|refine sR ?_
  refine sE ?_;exact⟨⟨i+1,_,_,_⟩,⟨hlt,htk.app⟩,by simp only;omega,wM htk.app.le rfl (by simp[ToL,lk,hsc]) trivial⟩
 .refine sX ?_;simp only[AU,↓reduceIte];have:i=images.length:=by omega
  subst this;repeat first|simp|refine sR ?_
  refine sT (sG Hb Ht htk.old htk.le ?_);simp
def stPk(l which:List Int)(nb:Nat)(box:Bxs)(x:Acc):AS:=⟨tl [(11,I x.i),(10,I which.length),(9,.d (ints which)),(0,.d (ints l)),(5,.osl 1 (rI (byK which l x.i)) x.own)],lb nb box [],x.tok,x.nt⟩
theorem picked_c(l which:List Int)(h2:which.length<=1000000)(hr:∀x∈which,0<=x/\x<l.length):DC 268 [.d (ints l),.d (ints which)] (.d (ints (byK which l which.length))):=by
 intro tok nt box nb;refine sI func268 ntmps268 fun Hb Ht=>?_
 repeat first|simp|refine sR ?_
 refine sN ?_;refine sL (stPk l which nb box) (fun x=>x.i<=which.length/\TK tok nt x.tok x.nt [x.own]) (fun x=>which.length-x.i) ⟨0,.full,tok,nt⟩ ⟨Nat.zero_le _,(TK.start Ht).full⟩ (wM (nr _) rfl (by simp[ToL,lk,byK_zero]) trivial) ?_;rintro⟨i,own,tok',nt'⟩ S ⟨hi,htk⟩ hS;simp only[stPk] at hS hi htk;subst hS;have hw:=sW (i:=i) (by omega);repeat first|simp|refine sR ?_|refine sC ?_
 refine⟨fun hlt=>?_,fun hge=>?_⟩
 .obtain⟨x0,x1⟩:=hr _ (List.getElem_mem hlt);have x2:which[i].toNat<l.length:=by omega
  repeat first|simp[hlt,x0,x1,x2]|refine sR ?_
  refine⟨⟨by omega,htk.live⟩,?_⟩;repeat first|simp[hw]|refine sR ?_
  refine sE ?_;exact⟨⟨i+1,_,_,_⟩,⟨hlt,htk.app⟩,by simp only;omega,wM htk.app.le rfl (by simp[ToL,lk,byK_succ which l hlt,x2]) trivial⟩
 .refine sX ?_;simp only[AU,↓reduceIte];have:i=which.length:=by omega
  subst this;repeat first|simp|refine sR ?_
  refine sT (sG Hb Ht htk.old htk.le ?_);simp
def stBk(part into keep:List Int)(nb:Nat)(box:Bxs)(x:Acc):AS:=⟨tl [(13,I x.i),(12,I part.length),(11,.d (ints part)),(1,.d (ints into)),(2,.d (ints keep)),(7,.osl 1 (rI (byK (part.map (indexI into)) keep x.i)) x.own)],lb nb box [],x.tok,x.nt⟩
theorem backwards_c(part into keep:List Int)(h1:part.length<=1000000)(h2:into.length<=1000000)(hs:∀x∈part,x∈into)(hk:into.length<=keep.length):DC 270 [.d (ints part),.d (ints into),.d (ints keep)] (.d (ints (byK (part.map (indexI into)) keep (part.map (indexI into)).length))):=by
 intro tok nt box nb;have hh:=fun v=>index_c into v h2
 refine sI func270 ntmps270 fun Hb Ht=>?_
 repeat first|simp|refine sR ?_
 refine sN ?_;refine sL (stBk part into keep nb box) (fun x=>x.i<=part.length/\TK tok nt x.tok x.nt [x.own]) (fun x=>part.length-x.i) ⟨0,.full,tok,nt⟩ ⟨Nat.zero_le _,(TK.start Ht).full⟩ (wM (nr _) rfl (by simp[ToL,lk,byK_zero]) trivial) ?_;rintro⟨i,own,tok',nt'⟩ S ⟨hi,htk⟩ hS;simp only[stBk] at hS hi htk;subst hS;have hw:=sW (i:=i) (by omega);repeat first|simp|refine sR ?_|refine sC ?_
 refine⟨fun hlt=>?_,fun hge=>?_⟩
 .obtain⟨x0,x1⟩:=mem_indexI hs i hlt;have x2:(indexI into part[i]).toNat<keep.length:=by omega
  have x3:indexI into part[i]<keep.length:=by omega
  have hsc:=byK_succ (part.map (indexI into)) keep (i:=i) (by simpa using hlt);rw[List.getElem_map] at hsc;repeat first|simp[hlt]|refine sR ?_
  refine sD (hh _ _ _) ?_;simp;repeat first|simp[x0,x2,x3]|refine sR ?_
  refine⟨⟨by omega,htk.live⟩,?_⟩;repeat first|simp[hw]|refine sR ?_
  refine sE ?_;exact⟨⟨i+1,_,_,_⟩,⟨hlt,htk.app⟩,by simp only;omega,wM htk.app.le rfl (by simp[ToL,lk,hsc,x2]) trivial⟩
 .refine sX ?_;simp only[AU,↓reduceIte];have:i=part.length:=by omega
  subst this;repeat first|simp|refine sR ?_
  refine sT (sG Hb Ht htk.old htk.le ?_);simp
def stSt(r:Ru)(nb:Nat)(box:Bxs)(tok:Tks)(nt:Nat)(i:Nat):AS :=
 ⟨tl [(72,I i),(71,I 2),(70,.osl 5 [[ints r.lg.nodes,AM.edges r.lg.edges,slots r.lsl,.raw (.int .i64 r.lv),tests r.lte],[ints r.rg.nodes,AM.edges r.rg.edges,slots r.rsl,.raw (.int .i64 r.rv),tests r.rte]] .full),(1,.ptr (nb+1) 0 0)],lb nb box [(1,[r.row])],tok,nt⟩
theorem structural_c(r:Ru)(hr:r.Fit):DC 83 [r.av] (I (strR r)):=by
 intro tok nt box nb;have h1:=graphValid_c r.lg hr.lg;have h2:=graphValid_c r.rg hr.rg;have h3:=validP_c r.lg r.k hr.lg hr.k;have h4:=fun h=>extractP_c r.lg r.k hr.lg hr.k h
 have h5:=fun h=>valid51_c (exG r.lg r.k) r.rg r.i h hr.rg
 have h6:=fun h=>injective56_c (exG r.lg r.k) r.rg r.i h hr.rg hr.i
 refine sI func83 ntmps83 fun Hb Ht=>?_
 repeat first|simp|refine sR ?_
 refine sD (h1 _ _) ?_;repeat first|simp|refine sR ?_
 by_cases e1:vG r.lg=0
 .simp only[e1];refine sC ?_;repeat first|simp|refine sR ?_
  refine sD (h2 _ _) ?_;repeat first|simp|refine sR ?_
  by_cases e2:vG r.rg=0
  .simp only[e2];refine sC ?_;repeat first|simp|refine sR ?_
   refine sD (h3 _ _) ?_;repeat first|simp|refine sR ?_
   by_cases e3:validP r.lg r.k=0
   .simp only[e3];refine sC ?_;repeat first|simp|refine sR ?_
    have hp:=VP.of e3;have hx:=hp.emb.fit.2.1;refine sD (h4 hp _ _) ?_;repeat first|simp|refine sR ?_
    refine sC ?_;repeat first|simp|refine sR ?_
    refine sD (h5 hx _ _) ?_;repeat first|simp|refine sR ?_
    by_cases e4:validM (exG r.lg r.k) r.rg r.i=0
    .simp only[e4];refine sC ?_;repeat first|simp|refine sR ?_
     refine sD (h6 hx _ _) ?_;repeat first|simp|refine sR ?_
     cases e5:injM (exG r.lg r.k) r.rg r.i
     .refine sC ?_;repeat first|simp|refine sR ?_
      refine sT (sH Hb Ht ?_);simp[strR,e1,e2,e3,e4,e5]
     .refine sC ?_;repeat first|simp|refine sR ?_
      have hls:=hr.ls;have hlt:=hr.lt;have hrs:=hr.rs;have hrt:=hr.rt;rw[bigN_eq] at hls hlt hrs hrt;have w1:IntKind.i64.wrap ((r.lsl.length:Int)+r.lte.length)=((r.lsl.length+r.lte.length:Nat):Int):=by rw[wrap_in (by omega) (by omega)];omega
      have w2:IntKind.i64.wrap ((r.rsl.length:Int)+r.rte.length)=((r.rsl.length+r.rte.length:Nat):Int):=by rw[wrap_in (by omega) (by omega)];omega
      refine⟨rfl,?_⟩;repeat first|simp|refine sR ?_
      refine sN ?_;refine sL (stSt r nb box tok nt) (fun i=>i<=2/\(1<=i->r.plainL)/\(2<=i->r.plainR)) (fun i=>2-i) 0 ⟨by omega,by omega,by omega⟩ wkA ?_;rintro i S ⟨hi,hpl,hpr⟩ hS;simp only[stSt] at hS;subst hS;obtain rfl|rfl|rfl:i=0∨i=1∨i=2:=by omega
      .have hw:IntKind.i64.wrap 1=1:=rfl
       repeat (first|simp|refine sR ?_)
       refine sC ?_
       repeat (first|simp|refine sR ?_)
       by_cases s1:(0:Int)<(r.lsl.length:Int)+r.lte.length
       .have hne:¬r.plainL:=fun h=>by have:=h.1;omega
        repeat first|simp[w1,s1]|refine sR ?_
        refine sC ?_;repeat first|simp|refine sR ?_
        refine sT (sH Hb Ht ?_);simp[strR,e1,e2,e3,e4,e5,hne]
       .by_cases s2:r.lv=0
        .have hyes:r.plainL:=⟨by omega,s2⟩
         have b2:(r.lv !=0)=false:=by simp[s2]
         repeat first|simp[w1,s1,b2]|refine sR ?_
         refine sC ?_;simp;repeat first|simp[hw]|refine sR ?_
         refine sE ?_;exact⟨1,⟨by omega,fun _=>hyes,by omega⟩,by omega,wkA⟩
        .have hne:¬r.plainL:=fun h=>s2 h.2
         have b2:(r.lv !=0)=true:=by simp[s2]
         repeat first|simp[w1,s1,b2]|refine sR ?_
         refine sC ?_;repeat first|simp|refine sR ?_
         refine sT (sH Hb Ht ?_);simp[strR,e1,e2,e3,e4,e5,hne]
      .have hw:IntKind.i64.wrap 2=2:=rfl
       have hl:=hpl (by omega);repeat (first|simp|refine sR ?_)
       refine sC ?_
       repeat (first|simp|refine sR ?_)
       by_cases s1:(0:Int)<(r.rsl.length:Int)+r.rte.length
       .have hne:¬r.plainR:=fun h=>by have:=h.1;omega
        repeat first|simp[w2,s1]|refine sR ?_
        refine sC ?_;repeat first|simp|refine sR ?_
        refine sT (sH Hb Ht ?_);simp[strR,e1,e2,e3,e4,e5,hne]
       .by_cases s2:r.rv=0
        .have hyes:r.plainR:=⟨by omega,s2⟩
         have b2:(r.rv !=0)=false:=by simp[s2]
         repeat first|simp[w2,s1,b2]|refine sR ?_
         refine sC ?_;simp;repeat first|simp[hw]|refine sR ?_
         refine sE ?_;exact⟨2,⟨by omega,fun _=>hl,fun _=>hyes⟩,by omega,wkA⟩
        .have hne:¬r.plainR:=fun h=>s2 h.2
         have b2:(r.rv !=0)=true:=by simp[s2]
         repeat first|simp[w2,s1,b2]|refine sR ?_
         refine sC ?_;repeat first|simp|refine sR ?_
         refine sT (sH Hb Ht ?_);simp[strR,e1,e2,e3,e4,e5,hne]
      .have hl:=hpl (by omega);have hr2:=hpr (by omega);repeat first|simp|refine sR ?_|refine sC ?_
       refine sX ?_;simp only[AU,↓reduceIte];repeat first|simp|refine sR ?_
       cases hin:r.inj
       .refine sC ?_;repeat first|simp|refine sR ?_
        refine sT (sH Hb Ht ?_);simp[strR,e1,e2,e3,e4,e5,hl,hr2,hin]
       .refine sC ?_;repeat first|simp|refine sR ?_
        refine sT (sH Hb Ht ?_);simp[strR,e1,e2,e3,e4,e5,hl,hr2,hin]
    .have b4:(validM (exG r.lg r.k) r.rg r.i !=0)=true:=by simp[e4]
     simp only[b4];refine sC ?_;repeat first|simp|refine sR ?_
     refine sT (sH Hb Ht ?_);simp[strR,e1,e2,e3,e4]
   .have b3:(validP r.lg r.k !=0)=true:=by simp[e3]
    simp only[b3];refine sC ?_;repeat first|simp|refine sR ?_
    refine sT (sH Hb Ht ?_);simp[strR,e1,e2,e3]
  .have b2:(vG r.rg !=0)=true:=by simp[e2]
   simp only[b2];refine sC ?_;repeat first|simp|refine sR ?_
   refine sT (sH Hb Ht ?_);simp[strR,e1,e2]
 .have b1:(vG r.lg !=0)=true:=by simp[e1]
  simp only[b1];refine sC ?_;repeat first|simp|refine sR ?_
  refine sT (sH Hb Ht ?_);simp[strR,e1]
theorem sortI_asc{l:List Int}{n:Nat}(hn:l.Nodup)(hr:∀x∈l,0<=x/\x<n):sortI l=ascL l n:=by
 have hp:(sortI l).Perm l:=List.mergeSort_perm _ _
 have hs:(sortI l).Pairwise fun a b=>(decide (a<=b))=true:=List.pairwise_mergeSort (fun a b c h1 h2=>by simp only[decide_eq_true_eq] at *;omega) (fun a b=>by simp only[Bool.or_eq_true,decide_eq_true_eq];omega) l
 have hd:(sortI l).Nodup:=hp.nodup_iff.2 hn
 refine pw_ext (List.Pairwise.imp₂ (fun a b h1 h2=>?_) hs hd) (ascL_pw _ _) fun x=>?_
 .simp only[decide_eq_true_eq] at h1;have:a≠b:=h2
  omega
 .rw[hp.mem_iff,ascL_mem];exact⟨fun h=>⟨h,hr x h⟩,fun h=>h.1⟩
theorem imgP_sort{a y:Gr}{q:Mo}(hq:Emb a y q):(imgP y q)=⟨sortI q.nodes,sortI q.edges⟩:=by
 have v:=hq.vm;rw[imgP,sortI_asc hq.n v.n,sortI_asc hq.e v.e]
theorem SpOk.fit{s:Sp}(h:SpOk s):s.l.Fit/\s.r.Fit/\s.k.Fit/\s.i.Fit:=⟨h.k.emb.fit.2.2,h.i.fit.2.2,h.k.emb.fit.1,h.i.fit.1⟩
set_option maxRecDepth 100000 in
theorem exists_c(c x:Cd)(hkx:c.kids=[x])(k5:c.kind=5)(s:Sp)(hs:SpOk s)(hm:Emb s.r c.g c.m)(ih:s.dng c.m c.g=false->¬s.big c.m c.g->∀(tok:Tks) (nt:Nat),DCall prog 154 [spAv (s.inn c.m c.g),x.av] tok nt (.tup [(x.lft (s.inn c.m c.g)).1.av,I (x.lft (s.inn c.m c.g)).2]) tok nt):DC 217 [spAv s,c.av] (.tup [(c.lft s).1.av,I (c.lft s).2]):=by
 intro tok nt box nb;obtain⟨fl,fr,fk,fi⟩:=hs.fit;obtain⟨fm,_,fg⟩:=hm.fit;have s1:=sorted34_c s.i.nodes fi.n;have s2:=sorted34_c s.i.edges fi.e;have hi:=imgP_vp hs.i;have hC:=ofP_c s.r c.g (imgP s.r s.i) c.m fr fg fm hi.emb.fit.1 hm hi;have hL:c.lft s=lftStep 5 c.m c.g s (fun s=>kidsE (fun x=>Cd.lft x s) [x]) (fun s=>kidsE (fun x=>Cd.lft x s) [x]):=by rw[c.lft_eq,k5,hkx]
 have eI:=imgP_sort hs.i;rw[eI] at hC;refine sI func217 ntmps217 fun Hb Ht=>?_
 repeat first|simp|refine sR ?_
 refine sD (s1 _ _) ?_;repeat first|simp|refine sR ?_
 refine sD (s2 _ _) ?_;repeat first|simp|refine sR ?_
 refine sD (hC _ _) ?_;simp;rw[<-eI];by_cases hd:s.dng c.m c.g=true
 .have e:cmpR s.r c.g (imgP s.r s.i) c.m=(⟨[],[]⟩,14):=if_pos hd
  rw[e,show c.lft s=(noC,0) by rw[hL,lftStep,if_neg (by simp),if_pos hd]];have hn:=no_c;repeat first|simp|refine sR ?_
  refine sC ?_;repeat first|simp|refine sR ?_
  refine sD (hn _ _) ?_;repeat first|simp|refine sR ?_
  refine sT (sH Hb Ht ?_);simp
 .have hd':s.dng c.m c.g=false:=by simpa using hd
  have e:cmpR s.r c.g (imgP s.r s.i) c.m=(s.z c.m c.g,0):=if_neg hd
  rw[e];have ih:=ih hd';have vz:=Sp.z_vp hs hm hd';have hgo:=Sp.go_emb hs hm hd';have hsub:=Sp.go_sub hs hm;have x1:=extractP_c c.g (s.z c.m c.g) fg vz.emb.fit.1 vz;have x2:=extractP_c s.l s.k fl fk hs.k;have vi:=hs.i.vm;have vm:=hm.vm;have p1:=picked_c c.m.nodes s.i.nodes fi.n (by rw[vm.ln];exact vi.n);have p2:=picked_c c.m.edges s.i.edges fi.e (by rw[vm.le];exact vi.e);have a1:=at_c (s.z c.m c.g).nodes (byK s.i.nodes c.m.nodes s.i.nodes.length) vz.emb.fit.1.n (by rw[byK_all];exact fi.n);have a2:=at_c (s.z c.m c.g).edges (byK s.i.edges c.m.edges s.i.edges.length) vz.emb.fit.1.e (by rw[byK_all];exact fi.e);have po:=pushP_c (exG s.l s.k) s.l (s.rest c.m c.g) s.k (s.go c.m c.g) hs.k.emb hgo;have ego:s.go c.m c.g=⟨(byK s.i.nodes c.m.nodes s.i.nodes.length).map (indexI (s.z c.m c.g).nodes),(byK s.i.edges c.m.edges s.i.edges.length).map (indexI (s.z c.m c.g).edges)⟩:=rfl
  obtain⟨P,hP⟩:∃P,pushR s.l (s.rest c.m c.g) s.k (s.go c.m c.g)=P:=⟨_,rfl⟩
  rw[hP,ego] at po;have erest:exG c.g (s.z c.m c.g)=s.rest c.m c.g:=rfl
  rw[erest] at x1;repeat first|simp|refine sR ?_
  refine sC ?_;repeat first|simp|refine sR ?_
  refine sD (x1 _ _) ?_;repeat first|simp|refine sR ?_
  refine sC ?_;repeat first|simp|refine sR ?_
  refine sD (x2 _ _) ?_;repeat first|simp|refine sR ?_
  refine sC ?_;repeat first|simp|refine sR ?_
  refine sD (p1 _ _) ?_;repeat first|simp|refine sR ?_
  refine sD (a1 _ _) ?_;repeat first|simp|refine sR ?_
  refine sD (p2 _ _) ?_;repeat first|simp|refine sR ?_
  refine sD (a2 _ _) ?_;repeat first|simp|refine sR ?_
  refine sD (po _ _) ?_;simp;by_cases hb:s.big c.m c.g
  .have e:P=(⟨⟨[],[]⟩,⟨[],[]⟩,⟨[],[]⟩⟩,3):=by rw[<-hP];exact if_pos hb
   rw[e,show c.lft s=(cdOf 0 [],3) by rw[hL,lftStep,if_neg (by simp),if_neg (by simp[hd']),if_pos hb]];repeat first|simp|refine sR ?_
   refine sC ?_;repeat first|simp|refine sR ?_
   refine sT (sH Hb Ht ?_);simp[cdOf,Cd.kind,Cd.kids,Cd.m,Cd.g,Cd.sl,Cd.vars,Cd.te,conds,ints,AM.edges,slots,tests]
  .have e:P=(s.po c.m c.g,0):=by rw[<-hP];exact if_neg hb
   rw[e];have ih:=ih hb;obtain⟨p1,p2,p3⟩:=Sp.po_emb hs hm hd' hb;have v3:=p3.vm;have f3:=p3.fit;have s1:=sorted34_c (s.po c.m c.g).r.nodes f3.1.n;have s2:=sorted34_c (s.po c.m c.g).r.edges f3.1.e;have eJ:=imgP_sort p3;have hJ:=imgP_vp p3;have fJ:=hJ.emb.fit.1;have sJ:=imgP_sub (y:=(s.po c.m c.g).g) (q:=(s.po c.m c.g).r);rw[eJ] at fJ sJ;have b1:=backwards_c (sortI (s.po c.m c.g).r.nodes) (s.po c.m c.g).r.nodes (s.z c.m c.g).nodes fJ.n f3.1.n sJ.1 (by rw[v3.ln];simp[Sp.rest,exG]);have b2:=backwards_c (sortI (s.po c.m c.g).r.edges) (s.po c.m c.g).r.edges (s.z c.m c.g).edges fJ.e f3.1.e sJ.2 (by rw[v3.le];simp[Sp.rest,exG]);have eN:s.inn c.m c.g=⟨(s.po c.m c.g).g,c.g,imgP (s.po c.m c.g).g (s.po c.m c.g).r,thenM (liftM (s.po c.m c.g).r (imgP (s.po c.m c.g).g (s.po c.m c.g).r)) (s.z c.m c.g)⟩:=rfl
   rw[eJ] at eN;obtain⟨R,hR⟩:∃R,x.lft (s.inn c.m c.g)=R:=⟨_,rfl⟩
   rw[hR] at ih;rw[eN] at ih;simp only[thenM,liftM,List.length_map] at ih;repeat first|simp|refine sR ?_
   refine sC ?_;repeat first|simp|refine sR ?_
   refine sD (s1 _ _) ?_;repeat first|simp|refine sR ?_
   refine sD (s2 _ _) ?_;repeat first|simp|refine sR ?_
   refine sD (b1 _ _) ?_;repeat first|simp|refine sR ?_
   refine sD (b2 _ _) ?_;simp;repeat first|simp[hkx,Cd.cells_eq]|refine sR ?_
   refine sD (ih _ _) ?_;repeat first|simp|refine sR ?_
   by_cases h0:R.2=0
   .rw[show c.lft s=(.mk 5 [R.1] (s.po c.m c.g).l (s.po c.m c.g).g [] 0 [],0) by rw[hL,lftStep,if_neg (by simp),if_neg (by simp[hd']),if_neg hb];have hk:kidsE (fun x=>Cd.lft x (s.inn c.m c.g)) [x]=([R.1],0):=by { unfold kidsE;rw[hR,if_neg (by simp[h0])];exact if_neg (by simp[kidsE]) };rw[hk];exact if_neg (by simp)];have hav:(Cd.mk 5 [R.1] (s.po c.m c.g).l (s.po c.m c.g).g [] 0 []).av=.agg [I 5,.d (.sl 9 [R.1.cells]),.d (ints (s.po c.m c.g).l.nodes),.d (ints (s.po c.m c.g).l.edges),.d (ints (s.po c.m c.g).g.nodes),.d (AM.edges (s.po c.m c.g).g.edges),.d (.sl 4 []),I 0,.d (.sl 5 [])]:=rfl
    rw[R.1.cells_eq] at hav;rw[hav];simp only[h0];refine sC ?_;repeat first|simp|refine sR ?_
    refine sT (sH Hb Ht ?_);simp
   .rw[show c.lft s=(cdOf 0 [],R.2) by rw[hL,lftStep,if_neg (by simp),if_neg (by simp[hd']),if_neg hb];have hk:kidsE (fun x=>Cd.lft x (s.inn c.m c.g)) [x]=([],R.2):=by { unfold kidsE;rw[hR];exact if_pos h0 };rw[hk];exact if_pos h0];have b0:(R.2 !=0)=true:=by simp[h0]
    simp only[b0];refine sC ?_;repeat first|simp|refine sR ?_
    refine sT (sH Hb Ht ?_);simp[cdOf,Cd.kind,Cd.kids,Cd.m,Cd.g,Cd.sl,Cd.vars,Cd.te,conds,ints,AM.edges,slots,tests]
def stLk(c:Cd)(s:Sp)(nb:Nat)(box:Bxs)(x:Acc):AS :=
 ⟨tl [(25,I x.i),(24,I c.kids.length),(23,.d (conds c.kids)),(6,.ptr (nb+6) 0 0),(4,.ptr (nb+4) 0 0),(2,.ptr (nb+2) 0 0)],
  lb nb box [(6,[[I c.kind,.osl 9 (((c.kids.take x.i).map fun k=>(k.lft s).1).map Cd.cells) x.own,nilS,nilS,nilS,nilS,nilS,z0i,nilS]]),(4,[[z0i,nilS,nilS,nilS,nilS,nilS,nilS,z0i,nilS]]),
   (2,[[.d (ints s.l.nodes),.d (AM.edges s.l.edges),.d (ints s.r.nodes),.d (AM.edges s.r.edges),.d (ints s.k.nodes),.d (ints s.k.edges),.d (ints s.i.nodes),.d (ints s.i.edges)]])],x.tok,x.nt⟩
set_option maxRecDepth 100000 in
theorem left_c:∀(n:Nat) (c:Cd),SizeOf.sizeOf c<n->c.Fit->∀s,SpOk s->c.ovr s.r=0->∀(tok:Tks) (nt:Nat),DCall prog 154 [spAv s,c.av] tok nt (.tup [(c.lft s).1.av,I (c.lft s).2]) tok nt
 | 0,c,hn,_,_,_,_,_,_=>absurd hn (Nat.not_lt_zero _)
 | n+1,c,hn,hf,s,hs,hv,tok,nt=>by
  have ih:=fun x (hx:x∈c.kids)=>left_c n x (by have:=Cd.kid_lt hx;omega) (hf.kid x hx)
  intro box nb;have hkl:=hf.kids;obtain⟨h0,h1,h2⟩:=Cd.ovr_zero hv;by_cases k5:c.kind=5
  .obtain⟨hm,x,hkx⟩:=ovr_ex hv k5;have hi:c.inn s.r=c.g:=if_pos k5
   rw[hi] at h2;have he:=exists_c c x hkx k5 s hs hm (fun hd hb=>ih x (by rw[hkx];simp) _ (Sp.inn_ok hs hm hd hb) (h2 x (by rw[hkx];simp)));have b5:(c.kind==5)=true:=by simp[k5]
   refine sI func154 ntmps154 fun Hb Ht=>?_
   repeat first|simp[b5]|refine sR ?_
   refine sC ?_;repeat first|simp|refine sR ?_
   refine sD (he _ _) ?_;repeat first|simp|refine sR ?_
   refine sT (sH Hb Ht ?_);simp
  .have hi:c.inn s.r=s.r:=if_neg k5
   rw[hi] at h2;have b5:(c.kind==5)=false:=by simp[k5]
   have hL:c.lft s=(if (kidsE (fun x=>Cd.lft x s) c.kids).2≠0 then (cdOf 0 [],(kidsE (fun x=>Cd.lft x s) c.kids).2) else (cdOf c.kind (kidsE (fun x=>Cd.lft x s) c.kids).1,0)):=by rw[c.lft_eq];exact if_pos k5
   refine sI func154 ntmps154 fun Hb Ht=>?_
   repeat first|simp[b5]|refine sR ?_
   refine sC ?_;repeat first|simp|refine sR ?_
   refine sN ?_;have hkl2:=hkl;rw[kidN_eq] at hkl2;refine sL (stLk c s nb box) (fun x=>x.i<=c.kids.length/\(∀y∈c.kids.take x.i,(y.lft s).2=0)/\TK tok nt x.tok x.nt [x.own]) (fun x=>c.kids.length-x.i) ⟨0,.full,tok,nt⟩ ⟨Nat.zero_le _,by simp,(TK.start Ht).full⟩ wkA ?_;rintro⟨i,own,tok',nt'⟩ S ⟨hi,hok,htk⟩ hS;simp only[stLk] at hS hi htk hok;subst hS;have hw:=sW (i:=i) (by omega);obtain⟨K,hK⟩:∃K,(c.kids.take i).map (fun k=>(k.lft s).1)=K:=⟨_,rfl⟩
   have hKl:K.length<=i:=by rw[<-hK];simp;omega
   rw[hK];repeat first|simp|refine sR ?_|refine sC ?_
   refine⟨fun hlt=>?_,fun hge=>?_⟩
   .have hmem:c.kids[i]∈c.kids:=List.getElem_mem hlt
    have ihx:=ih _ hmem s hs (h2 _ hmem);have hstep:(c.kids.take (i+1)).map (fun k=>(k.lft s).1)=K++[(c.kids[i].lft s).1]:=by rw[<-hK,<-List.take_append_getElem hlt,List.map_append];rfl
    have hall:(c.kids[i].lft s).2=0->∀y∈c.kids.take (i+1),(y.lft s).2=0:=fun h y hy=>by
     rw[<-List.take_append_getElem hlt] at hy;rcases List.mem_append.1 hy with hy|hy
     .exact hok y hy
     .rw[List.mem_singleton.1 hy];exact h
    have hbad:=fun h=>kidsE_at (f:=fun x=>Cd.lft x s) hlt hok h
    repeat first|simp[hlt,Cd.cells_eq]|refine sR ?_
    refine sD (ihx _ _) ?_;simp;generalize c.kids[i].lft s=R at *;repeat first|simp|refine sR ?_
    by_cases e0:R.2=0
    .simp only[e0];refine sC ?_;repeat first|simp|refine sR ?_
     refine⟨⟨by omega,htk.live⟩,?_⟩;repeat first|simp[hw]|refine sR ?_
     refine sE ?_;exact⟨⟨i+1,_,_,_⟩,⟨hlt,hall e0,htk.app⟩,by simp only;omega,wM htk.app.le rfl (by simp[ToL,lk]) (by simp[BoxL,lk,hstep,Cd.cells_eq])⟩
    .have b0:(R.2 !=0)=true:=by simp[e0]
     rw[hL,hbad e0,if_pos e0];simp only[b0];refine sC ?_;repeat first|simp|refine sR ?_
     refine sT (sG Hb Ht htk.old htk.le ?_);simp[cdOf,Cd.kind,Cd.kids,Cd.m,Cd.g,Cd.sl,Cd.vars,Cd.te,conds,ints,AM.edges,slots,tests]
   .refine sX ?_;simp only[AU,↓reduceIte];have:i=c.kids.length:=by omega
    subst this;rw[List.take_length] at hok;rw[List.take_length] at hK;rw[hL,kidsE_of hok,if_neg (by simp),hK];have hav:(cdOf c.kind K).av=.agg [I c.kind,.d (conds K),.d (ints []),.d (ints []),.d (ints []),.d (AM.edges []),.d (slots []),I 0,.d (tests [])]:=rfl
    rw[hav];repeat first|simp|refine sR ?_
    refine sT (sG Hb Ht htk.old htk.le ?_);simp[ints,AM.edges,slots,tests]
def movR(s:Sp)(c:Cd):Cd × Int:=if validC s.r c≠0 then (cdOf 0 [],validC s.r c) else if (c.lft s).2≠0 then (cdOf 0 [],(c.lft s).2) else if validC s.l (c.lft s).1≠0 then (cdOf 0 [],validC s.l (c.lft s).1) else ((c.lft s).1,0)
def leftR(r:Ru)(c:Cd):Cd × Int:=if strR r≠0 then (cdOf 0 [],strR r) else movR r.sp c
theorem validC_zero{a:Gr}{c:Cd}(h:validC a c=0):vG a=0/\c.ovr a=0:=by
 unfold validC at h;split at h
 .contradiction
 .split at h
  .contradiction
  .rename_i h1 h2;exact⟨Decidable.not_not.1 h1,Decidable.not_not.1 h2⟩
theorem zav:(cdOf 0 []).av=.agg [I 0,.d (.sl 9 []),.d (.sl 1 []),.d (.sl 1 []),.d (.sl 1 []),.d (.sl 3 []),.d (.sl 4 []),I 0,.d (.sl 5 [])]:=rfl
set_option maxRecDepth 100000 in
theorem moved_c(s:Sp)(c:Cd)(hs:SpOk s)(hf:c.Fit):DC 84 [spAv s,c.av] (.tup [(movR s c).1.av,I (movR s c).2]):=by
 intro tok nt box nb;obtain⟨fl,fr,fk,fi⟩:=hs.fit;have h1:=validC_c s.r c fr hf;have h2:=fun hv=>left_c _ c (Nat.lt_succ_self _) hf s hs hv
 refine sI func84 ntmps84 fun Hb Ht=>?_
 repeat first|simp|refine sR ?_
 refine sD (h1 _ _) ?_;repeat first|simp|refine sR ?_
 by_cases e1:validC s.r c=0
 .have hv:=(validC_zero e1).2;simp only[e1];refine sC ?_;repeat first|simp|refine sR ?_
  refine sD (h2 hv _ _) ?_;simp;have hok:=lft_ok _ c (Nat.lt_succ_self _) hf s hs hv;obtain⟨R,hR⟩:∃R,c.lft s=R:=⟨_,rfl⟩
  rw[hR] at hok ⊢;repeat first|simp|refine sR ?_
  by_cases e2:R.2=0
  .have h3:=validC_c s.l R.1 fl (hok e2).fit;simp only[e2];refine sC ?_;repeat first|simp|refine sR ?_
   refine sD (h3 _ _) ?_;repeat first|simp|refine sR ?_
   by_cases e3:validC s.l R.1=0
   .rw[show movR s c=(R.1,0) by rw[movR,if_neg (by simp[e1]),hR,if_neg (by simp[e2]),if_neg (by simp[e3])]];simp only[e3];refine sC ?_;repeat first|simp|refine sR ?_
    refine sT (sH Hb Ht ?_);simp
   .rw[show movR s c=(cdOf 0 [],validC s.l R.1) by rw[movR,if_neg (by simp[e1]),hR,if_neg (by simp[e2]),if_pos e3],zav];have b3:(validC s.l R.1 !=0)=true:=by simp[e3]
    simp only[b3];refine sC ?_;repeat first|simp|refine sR ?_
    refine sT (sH Hb Ht ?_);simp
  .rw[show movR s c=(cdOf 0 [],R.2) by rw[movR,if_neg (by simp[e1]),hR,if_pos e2],zav];have b2:(R.2 !=0)=true:=by simp[e2]
   simp only[b2];refine sC ?_;repeat first|simp|refine sR ?_
   refine sT (sH Hb Ht ?_);simp
 .rw[show movR s c=(cdOf 0 [],validC s.r c) by rw[movR,if_pos e1],zav];have b1:(validC s.r c !=0)=true:=by simp[e1]
  simp only[b1];refine sC ?_;repeat first|simp|refine sR ?_
  refine sT (sH Hb Ht ?_);simp
set_option maxRecDepth 100000 in
theorem leftP_c(r:Ru)(c:Cd)(hr:r.Fit)(hf:c.Fit):DC 37 [r.av,c.av] (.tup [(leftR r c).1.av,I (leftR r c).2]):=by
 intro tok nt box nb;have h1:=structural_c r hr;have h2:=tof_c r;have h3:=fun hs=>moved_c r.sp c hs hf
 refine sI func37 ntmps37 fun Hb Ht=>?_
 repeat first|simp|refine sR ?_
 refine sD (h1 _ _) ?_;repeat first|simp|refine sR ?_
 by_cases e1:strR r=0
 .have hs:=(strR_zero e1).1;rw[show leftR r c=movR r.sp c by rw[leftR,if_neg (by simp[e1])]];simp only[e1];refine sC ?_;repeat first|simp|refine sR ?_
  refine sD (h2 _ _) ?_;repeat first|simp|refine sR ?_
  refine sD (h3 hs _ _) ?_;repeat first|simp|refine sR ?_
  refine sT (sH Hb Ht ?_);simp
 .rw[show leftR r c=(cdOf 0 [],strR r) by rw[leftR,if_pos e1],zav];have b1:(strR r !=0)=true:=by simp[e1]
  simp only[b1];refine sC ?_;repeat first|simp|refine sR ?_
  refine sT (sH Hb Ht ?_);simp
theorem ascL_succ(l:List Int)(n:Nat):ascL l (n+1)=if (n:Int)∈l then ascL l n++[(n:Int)] else ascL l n:=by
 unfold ascL;rw[List.range_succ,List.filter_append,List.map_append];by_cases h:(n:Int)∈l<;>simp[h]
theorem ascL_zero(l:List Int):ascL l 0=[]:=rfl
theorem ascL_len{l:List Int}(hn:l.Nodup)(n:Nat):(ascL l n).length<=l.length :=
 nodup_le (ascL l n) l (nodup_of_lt (pw_getD (ascL_pw l n))) fun x hx=>(ascL_mem.1 hx).1
theorem ascL_full{l:List Int}{N n:Nat}(hn:l.Nodup)(hr:∀x∈l,0<=x/\x<N)(h:l.length<=(ascL l n).length):ascL l n=ascL l N:=by
 have hd:=nodup_of_lt (pw_getD (ascL_pw l n));have key:∀x∈l,x∈ascL l n:=fun x hx=>Classical.byContradiction fun hx2=>by
  have:=nodup_le (x::ascL l n) l (List.nodup_cons.2 ⟨hx2,hd⟩) fun y hy=>by
   rcases List.mem_cons.1 hy with rfl|hy
   .exact hx
   .exact(ascL_mem.1 hy).1
  simp only[List.length_cons] at this;omega
 refine pw_ext (ascL_pw _ _) (ascL_pw _ _) fun x=>⟨fun hx=>?_,fun hx=>key x (ascL_mem.1 hx).1⟩
 have:=(ascL_mem.1 hx).1
 exact ascL_mem.2 ⟨this,hr x this⟩
theorem ascL_more{l:List Int}{N n:Nat}(hn:l.Nodup)(hr:∀x∈l,0<=x/\x<N)(h:(ascL l n).length<l.length):n<N:=Classical.byContradiction fun h2=>by
 have e:∀x∈l,x∈ascL l n:=fun x hx=>ascL_mem.2 ⟨hx,by have:=hr x hx;omega⟩
 have:=nodup_le l (ascL l n) hn e
 omega
theorem not_take{l:List Int}(hn:l.Nodup){k:Nat}(h:k<l.length):l[k]∉l.take k:=fun hm=>by
 obtain⟨j,hj,e⟩:=List.getElem_of_mem hm;rw[List.getElem_take] at e;have hj':j<k:=by simp at hj;omega
 have:=List.pairwise_iff_getElem.1 hn j k (by omega) h hj'
 exact this e
def stAc(l:List Int)(nb:Nat)(box:Bxs)(x:Acc):AS:=⟨tl [(0,.d (ints l)),(3,.osl 1 (rI (ascL l x.i)) x.own),(4,I x.i)],lb nb box [],x.tok,x.nt⟩
def stAc2(l:List Int)(n:Nat)(nb:Nat)(box:Bxs)(x:Acc):AS:=⟨tl [(0,.d (ints l)),(3,.osl 1 (rI (ascL l n++if (n:Int)∈l.take x.i then [(n:Int)] else [])) x.own),(4,I n),(5,I x.i)],lb nb box [],x.tok,x.nt⟩
theorem ascending34_c(l:List Int)(N:Nat)(hl:l.length<=1000000)(hN:N<=1000000)(hn:l.Nodup)(hr:∀x∈l,0<=x/\x<N):DC 155 [.d (ints l)] (.d (ints (ascL l N))):=by
 intro tok nt box nb;refine sI func155 ntmps155 fun Hb Ht=>?_
 repeat first|simp|refine sR ?_
 refine sN ?_;refine sL (stAc l nb box) (fun x=>x.i<=N/\TK tok nt x.tok x.nt [x.own]) (fun x=>N-x.i) ⟨0,.full,tok,nt⟩ ⟨Nat.zero_le _,(TK.start Ht).full⟩ (wM (nr _) rfl (by simp[ToL,lk,ascL_zero]) trivial) ?_;rintro⟨i,own,tok',nt'⟩ S ⟨hi,htk⟩ hS;simp only[stAc] at hS hi htk;subst hS;have hw:=sW (i:=i) (by omega);have hlen:=ascL_len hn i;have hsc:=ascL_succ l i;have hful:=ascL_full (n:=i) hn hr;have hmor:=ascL_more (n:=i) hn hr;repeat first|simp|refine sR ?_|refine sC ?_
 refine⟨fun hlt=>?_,fun hge=>?_⟩
 .have hiN:=hmor (by omega);have hacc:∀k,((ascL l i++if (i:Int)∈l.take k then [(i:Int)] else []:List Int)).length<=1000001:=fun k=>by
   rw[List.length_append];split<;>simp<;>omega
  repeat first|simp|refine sR ?_
  refine sN ?_;refine sL (stAc2 l i nb box) (fun x=>x.i<=l.length/\TK tok nt x.tok x.nt [x.own]) (fun x=>l.length-x.i) ⟨0,own,tok',nt'⟩ ⟨Nat.zero_le _,htk⟩ (wM htk.le rfl (by simp[ToL,lk]) trivial) ?_;rintro⟨k,own2,tok2,nt2⟩ S ⟨hk,htk2⟩ hS;simp only[stAc2] at hS hk htk2;subst hS;have hwk:=sW (i:=k) (by omega);have hak:=hacc k;obtain⟨R,hR⟩:∃R,(ascL l i++if (i:Int)∈l.take k then [(i:Int)] else []:List Int)=R:=⟨_,rfl⟩
  rw[hR] at hak ⊢;repeat first|simp|refine sR ?_|refine sC ?_
  refine⟨fun hlk=>?_,fun hge=>?_⟩
  .have hmem:∀x:Int,x∈l.take (k+1)↔x∈l.take k∨x=l[k]:=fun x=>by rw[<-List.take_append_getElem hlk,List.mem_append,List.mem_singleton]
   have hnot:l[k]∉l.take k:=not_take hn hlk
   by_cases e:l[k]=(i:Int)
   .have b:(l[k]==(i:Int))=true:=by simp[e]
    have hR2:(ascL l i++if (i:Int)∈l.take (k+1) then [(i:Int)] else []:List Int)=R++[(i:Int)]:=by
     rw[<-hR,if_pos ((hmem _).2 (.inr e.symm)),if_neg (by rw[<-e];exact hnot),List.append_nil]
    repeat first|simp[hlk,b]|refine sR ?_
    refine sC ?_;repeat first|simp|refine sR ?_
    refine⟨⟨by omega,htk2.live⟩,?_⟩;repeat first|simp[hwk]|refine sR ?_
    refine sE ?_;exact⟨⟨k+1,_,_,_⟩,⟨hlk,htk2.app⟩,by simp only;omega,wM htk2.app.le rfl (by simp only[hR2];simp[ToL,lk]) trivial⟩
   .have b:(l[k]==(i:Int))=false:=by simp[e]
    have hR2:(ascL l i++if (i:Int)∈l.take (k+1) then [(i:Int)] else []:List Int)=R:=by
     rw[<-hR];congr 2
     rw[hmem,eq_iff_iff];exact⟨fun h=>h.resolve_right fun h=>e h.symm,.inl⟩
    repeat first|simp[hlk,b]|refine sR ?_
    refine sC ?_;simp;repeat first|simp[hwk]|refine sR ?_
    refine sE ?_;exact⟨⟨k+1,own2,tok2,nt2⟩,⟨hlk,htk2⟩,by simp only;omega,wM htk2.le rfl (by simp only[hR2];simp[ToL,lk]) trivial⟩
  .refine sX ?_;simp only[AU,↓reduceIte];have:k=l.length:=by omega
   subst this;rw[List.take_length] at hR;have hR2:ascL l (i+1)=R:=by
    rw[hsc,<-hR];split<;>simp
   repeat first|simp[hw]|refine sR ?_
   refine sE ?_;exact⟨⟨i+1,own2,tok2,nt2⟩,⟨hiN,htk2⟩,by simp only;omega,wM htk2.le rfl (by simp only[hR2];simp[ToL,lk]) trivial⟩
 .have hful:=hful (by omega);refine sX ?_;simp only[AU,↓reduceIte];repeat first|simp|refine sR ?_
  refine sT (sG Hb Ht htk.old htk.le ?_);simp[hful]
def stLe(places from' to':List Int)(nb:Nat)(box:Bxs)(x:Acc):AS:=⟨tl [(0,.d (ints places)),(1,.d (ints from')),(2,.d (ints to')),(7,.osl 1 (rI (byK (places.map (indexI from')) to' x.i)) x.own),(8,I x.i)],lb nb box [],x.tok,x.nt⟩
def stLe2(places from' to' Q:List Int)(i:Nat)(p:Int)(nb:Nat)(box:Bxs)(x:Acc):AS :=
 ⟨tl [(0,.d (ints places)),(1,.d (ints from')),(2,.d (ints to')),(7,.osl 1 (rI (Q++if p∈from'.take x.i then [to'.getD (indexI from' p).toNat 0] else [])) x.own),(8,I i),(9,I x.i)],lb nb box [],x.tok,x.nt⟩
theorem led34_c(places from' to':List Int)(h1:places.length<=1000000)(h2:from'.length<=1000000)(hn:from'.Nodup)(hs:∀x∈places,x∈from')(hk:from'.length<=to'.length):DC 219 [.d (ints places),.d (ints from'),.d (ints to')] (.d (ints (byK (places.map (indexI from')) to' (places.map (indexI from')).length))):=by
 intro tok nt box nb;have hlenP:∀i,(byK (places.map (indexI from')) to' i).length<=i:=fun i=>by simp[byK];omega
 refine sI func219 ntmps219 fun Hb Ht=>?_
 repeat first|simp|refine sR ?_
 refine sN ?_;refine sL (stLe places from' to' nb box) (fun x=>x.i<=places.length/\TK tok nt x.tok x.nt [x.own]) (fun x=>places.length-x.i) ⟨0,.full,tok,nt⟩ ⟨Nat.zero_le _,(TK.start Ht).full⟩ (wM (nr _) rfl (by simp[ToL,lk,byK_zero]) trivial) ?_;rintro⟨i,own,tok',nt'⟩ S ⟨hi,htk⟩ hS;simp only[stLe] at hS hi htk;subst hS;have hw:=sW (i:=i) (by omega);have hlen:=hlenP i;obtain⟨Q,hQ⟩:∃Q,byK (places.map (indexI from')) to' i=Q:=⟨_,rfl⟩
 rw[hQ] at hlen ⊢;repeat first|simp|refine sR ?_|refine sC ?_
 refine⟨fun hlt=>?_,fun hge=>?_⟩
 .have hsc:=byK_succ (places.map (indexI from')) to' (i:=i) (by simpa using hlt);rw[List.getElem_map,hQ] at hsc;obtain⟨x0,x1⟩:=mem_indexI hs i hlt;have hix:=(indexI_in (hs _ (List.getElem_mem hlt))).2.2;repeat first|simp|refine sR ?_
  refine sN ?_;refine sL (stLe2 places from' to' Q i places[i] nb box) (fun x=>x.i<=from'.length/\TK tok nt x.tok x.nt [x.own]) (fun x=>from'.length-x.i) ⟨0,own,tok',nt'⟩ ⟨Nat.zero_le _,htk⟩ (wM htk.le rfl (by simp[ToL,lk]) trivial) ?_;rintro⟨k,own2,tok2,nt2⟩ S ⟨hk2,htk2⟩ hS;simp only[stLe2] at hS hk2 htk2;subst hS;have hwk:=sW (i:=k) (by omega);obtain⟨R,hR⟩:∃R,(Q++if places[i]∈from'.take k then [to'.getD (indexI from' places[i]).toNat 0] else []:List Int)=R:=⟨_,rfl⟩
  have hak:R.length<=1000001:=by
   rw[<-hR,List.length_append];split<;>simp<;>omega
  rw[hR];repeat first|simp|refine sR ?_|refine sC ?_
  refine⟨fun hlk=>?_,fun hge=>?_⟩
  .have hmem:∀x:Int,x∈from'.take (k+1)↔x∈from'.take k∨x=from'[k]:=fun x=>by rw[<-List.take_append_getElem hlk,List.mem_append,List.mem_singleton]
   have hnot:from'[k]∉from'.take k:=not_take hn hlk
   by_cases e:from'[k]=places[i]
   .have b:(from'[k]==places[i])=true:=by simp[e]
    have hidx:(indexI from' places[i]).toNat=k:=by
     have:=indexI_gd hn hlk
     have g:from'.getD k 0=from'[k]:=by simp[hlk]
     rw[g,e] at this;omega
    have hkt:k<to'.length:=by omega
    have hR2:(Q++if places[i]∈from'.take (k+1) then [to'.getD (indexI from' places[i]).toNat 0] else []:List Int)=R++[to'[k]]:=by
     rw[<-hR,if_pos ((hmem _).2 (.inr e.symm)),if_neg (by rw[<-e];exact hnot),List.append_nil,hidx];simp[hkt]
    repeat first|simp[hlt,hlk,b]|refine sR ?_
    refine sC ?_;simp;repeat first|simp[hkt]|refine sR ?_
    refine⟨⟨by omega,htk2.live⟩,?_⟩;repeat first|simp[hwk]|refine sR ?_
    refine sE ?_;exact⟨⟨k+1,_,_,_⟩,⟨hlk,htk2.app⟩,by simp only;omega,wM htk2.app.le rfl (by simp only[hR2];simp[ToL,lk]) trivial⟩
   .have b:(from'[k]==places[i])=false:=by simp[e]
    have hR2:(Q++if places[i]∈from'.take (k+1) then [to'.getD (indexI from' places[i]).toNat 0] else []:List Int)=R:=by
     rw[<-hR];congr 2
     rw[hmem,eq_iff_iff];exact⟨fun h=>h.resolve_right fun h=>e h.symm,.inl⟩
    repeat first|simp[hlt,hlk,b]|refine sR ?_
    refine sC ?_;simp;repeat first|simp[hwk]|refine sR ?_
    refine sE ?_;exact⟨⟨k+1,own2,tok2,nt2⟩,⟨hlk,htk2⟩,by simp only;omega,wM htk2.le rfl (by simp only[hR2];simp[ToL,lk]) trivial⟩
  .refine sX ?_;simp only[AU,↓reduceIte];have:k=from'.length:=by omega
   subst this;rw[List.take_length,if_pos (hs _ (List.getElem_mem hlt))] at hR;rw[hR] at hsc;repeat first|simp[hw]|refine sR ?_
   refine sE ?_;exact⟨⟨i+1,own2,tok2,nt2⟩,⟨hlt,htk2⟩,by simp only;omega,wM htk2.le rfl (by simp only[hsc];simp[ToL,lk]) trivial⟩
 .refine sX ?_;simp only[AU,↓reduceIte];have:i=places.length:=by omega
  subst this;repeat first|simp|refine sR ?_
  refine sT (sG Hb Ht htk.old htk.le ?_);simp[<-hQ]
theorem false34_c:DC 156 [] noC.av:=by
 intro tok nt box nb;have h:=true33_c;refine sI func156 ntmps156 fun Hb Ht=>?_
 repeat first|simp|refine sR ?_
 refine sD (h _ _) ?_;repeat first|simp|refine sR ?_
 refine sT (sH Hb Ht ?_);simp[noC,Cd.cells,Cd.rows,trueC,cdOf,Cd.kind,Cd.kids,Cd.m,Cd.g,Cd.sl,Cd.vars,Cd.te,conds,ints,AM.edges,slots,tests]
def Sp.ru(s:Sp):Ru:=⟨⟨#[]⟩,s.l,[],0,[],s.r,[],0,[],s.k,s.i,true,cdOf 0 []⟩
theorem of34_c(l r:Gr)(k i:Mo):DC 218 [l.av,r.av,k.av,i.av] (Sp.ru ⟨l,r,k,i⟩).av:=by
 intro tok nt box nb;refine sI func218 ntmps218 fun Hb Ht=>?_
 repeat first|simp|refine sR ?_
 refine sT (sH Hb Ht ?_);simp[Sp.ru,cdOf,Cd.kind,Cd.kids,Cd.m,Cd.g,Cd.sl,Cd.vars,Cd.te,conds,ints,AM.edges,slots,tests]
set_option maxRecDepth 100000 in
theorem kept34_c(c l r:Gr)(z k:Mo)(hk:Emb c l k)(h1:k.nodes.length<=z.nodes.length)(h2:k.edges.length<=z.edges.length):DC 159 [l.av,r.av,z.av,k.av] (Sp.ru ⟨l,r,imgP l k,thenM (liftM k (imgP l k)) z⟩).av:=by
 intro tok nt box nb;obtain⟨fk,_,fl⟩:=hk.fit;have v:=hk.vm;have hg:=(validG_types v.vb).1;have a1:=ascending34_c k.nodes l.nodes.length fk.n (by omega) hk.n v.n;have a2:=ascending34_c k.edges l.edges.length fk.e (by omega) hk.e v.e;have hJ:=imgP_vp hk;have fJ:=hJ.emb.fit.1;have sJ:=imgP_sub (y:=l) (q:=k);have l1:=led34_c (imgP l k).nodes k.nodes z.nodes fJ.n fk.n hk.n sJ.1 h1;have l2:=led34_c (imgP l k).edges k.edges z.edges fJ.e fk.e hk.e sJ.2 h2;have e1:ascL k.nodes l.nodes.length=(imgP l k).nodes:=rfl
 have e2:ascL k.edges l.edges.length=(imgP l k).edges:=rfl
 rw[e1] at a1;rw[e2] at a2;have eT:thenM (liftM k (imgP l k)) z=⟨byK ((imgP l k).nodes.map (indexI k.nodes)) z.nodes ((imgP l k).nodes.map (indexI k.nodes)).length,byK ((imgP l k).edges.map (indexI k.edges)) z.edges ((imgP l k).edges.map (indexI k.edges)).length⟩:=rfl
 rw[eT];generalize byK ((imgP l k).nodes.map (indexI k.nodes)) z.nodes ((imgP l k).nodes.map (indexI k.nodes)).length=t1 at *;generalize byK ((imgP l k).edges.map (indexI k.edges)) z.edges ((imgP l k).edges.map (indexI k.edges)).length=t2 at *;have o:=of34_c l r (imgP l k) ⟨t1,t2⟩;generalize imgP l k=q at *;refine sI func159 ntmps159 fun Hb Ht=>?_
 repeat first|simp|refine sR ?_
 refine sD (a1 _ _) ?_;repeat first|simp|refine sR ?_
 refine sD (a2 _ _) ?_;repeat first|simp|refine sR ?_
 refine sD (l1 _ _) ?_;repeat first|simp|refine sR ?_
 refine sD (l2 _ _) ?_;repeat first|simp|refine sR ?_
 refine sD (o _ _) ?_;repeat first|simp|refine sR ?_
 refine sT (sH Hb Ht ?_);simp
set_option maxRecDepth 100000 in
theorem structural34_c(r:Ru)(hr:r.Fit):DC 58 [r.av] (I (strR r)):=by
 intro tok nt box nb;have h1:=valid05_c r.lg hr.lg;have h2:=valid05_c r.rg hr.rg;have h3:=valid07_c r.lg r.k hr.lg hr.k;have h4:=fun h=>extract07_c r.lg r.k hr.lg hr.k h
 have h5:=fun h=>valid53_c (exG r.lg r.k) r.rg r.i h hr.rg
 have h6:=fun h=>injective26_c (exG r.lg r.k) r.rg r.i h hr.rg hr.i
 have hls:=hr.ls;have hlt:=hr.lt;have hrs:=hr.rs;have hrt:=hr.rt;rw[bigN_eq] at hls hlt hrs hrt;refine sI func58 ntmps58 fun Hb Ht=>?_
 repeat first|simp|refine sR ?_
 refine sD (h1 _ _) ?_;repeat first|simp|refine sR ?_
 by_cases e1:vG r.lg=0
 .simp only[e1];refine sC ?_;repeat first|simp|refine sR ?_
  refine sD (h2 _ _) ?_;repeat first|simp|refine sR ?_
  by_cases e2:vG r.rg=0
  .simp only[e2];refine sC ?_;repeat first|simp|refine sR ?_
   refine sD (h3 _ _) ?_;repeat first|simp|refine sR ?_
   by_cases e3:validP r.lg r.k=0
   .simp only[e3];refine sC ?_;repeat first|simp|refine sR ?_
    have hp:=VP.of e3;have hx:=hp.emb.fit.2.1;refine sD (h4 hp _ _) ?_;repeat first|simp|refine sR ?_
    refine sD (h5 hx _ _) ?_;repeat first|simp|refine sR ?_
    by_cases e4:validM (exG r.lg r.k) r.rg r.i=0
    .simp only[e4];refine sC ?_;repeat first|simp|refine sR ?_
     refine sD (h6 hx _ _) ?_;repeat first|simp|refine sR ?_
     cases e5:injM (exG r.lg r.k) r.rg r.i
     .refine sC ?_;repeat first|simp|refine sR ?_
      refine sT (sH Hb Ht ?_);simp[strR,e1,e2,e3,e4,e5]
     .refine sC ?_;simp;have w0:IntKind.i64.wrap ((r.lsl.length:Int)+r.lte.length)=(r.lsl.length:Int)+r.lte.length:=wrap_in (by omega) (by omega)
      have w1:IntKind.i64.wrap ((r.lsl.length:Int)+r.lte.length+r.rsl.length)=(r.lsl.length:Int)+r.lte.length+r.rsl.length:=wrap_in (by omega) (by omega)
      have w2:IntKind.i64.wrap ((r.lsl.length:Int)+r.lte.length+r.rsl.length+r.rte.length)=(r.lsl.length:Int)+r.lte.length+r.rsl.length+r.rte.length:=wrap_in (by omega) (by omega)
      by_cases s1:((r.lsl.length:Int)+r.lte.length+r.rsl.length+r.rte.length)=0
      .have b1:(((r.lsl.length:Int)+r.lte.length+r.rsl.length+r.rte.length)==0)=true:=by rw[beq_iff_eq];exact s1
       by_cases s2:r.lv=0
       .have b2:(r.lv==0)=true:=by simp[s2]
        by_cases s3:r.rv=0
        .have b3:(r.rv==0)=true:=by simp[s3]
         have y1:r.plainL:=⟨by omega,s2⟩
         have y2:r.plainR:=⟨by omega,s3⟩
         cases hin:r.inj
         .repeat first|simp[w0,w1,w2,b1,b2,b3,hin]|refine sR ?_
          refine sC ?_;repeat first|simp|refine sR ?_
          refine sT (sH Hb Ht ?_);simp[strR,e1,e2,e3,e4,e5,y1,y2,hin]
         .repeat first|simp[w0,w1,w2,b1,b2,b3,hin]|refine sR ?_
          refine sC ?_;repeat first|simp|refine sR ?_
          refine sT (sH Hb Ht ?_);simp[strR,e1,e2,e3,e4,e5,y1,y2,hin]
        .have b3:(r.rv==0)=false:=by simp[s3]
         have n2:¬r.plainR:=fun h=>s3 h.2
         repeat first|simp[w0,w1,w2,b1,b2,b3]|refine sR ?_
         refine sC ?_;repeat first|simp|refine sR ?_
         refine sT (sH Hb Ht ?_);simp[strR,e1,e2,e3,e4,e5,n2]
       .have b2:(r.lv==0)=false:=by simp[s2]
        have n1:¬r.plainL:=fun h=>s2 h.2
        repeat first|simp[w0,w1,w2,b1,b2]|refine sR ?_
        refine sC ?_;repeat first|simp|refine sR ?_
        refine sT (sH Hb Ht ?_);simp[strR,e1,e2,e3,e4,e5,n1]
      .have b1:(((r.lsl.length:Int)+r.lte.length+r.rsl.length+r.rte.length)==0)=false:=by rw[beq_eq_false_iff_ne];exact s1
       have n1:¬(r.plainL/\r.plainR/\r.inj=true):=fun h=>by
        have h1:=h.1.1;have h2:=h.2.1.1;omega
       have hS:strR r=8:=by simp only[strR,e1,e2,e3,e4,e5];simp[n1]
       rw[hS];repeat first|simp[w0,w1,w2,b1]|refine sR ?_
       refine sC ?_;repeat first|simp|refine sR ?_
       refine sT (sH Hb Ht ?_);simp
    .have b4:(validM (exG r.lg r.k) r.rg r.i !=0)=true:=by simp[e4]
     simp only[b4];refine sC ?_;repeat first|simp|refine sR ?_
     refine sT (sH Hb Ht ?_);simp[strR,e1,e2,e3,e4]
   .have b3:(validP r.lg r.k !=0)=true:=by simp[e3]
    simp only[b3];refine sC ?_;repeat first|simp|refine sR ?_
    refine sT (sH Hb Ht ?_);simp[strR,e1,e2,e3]
  .have b2:(vG r.rg !=0)=true:=by simp[e2]
   simp only[b2];refine sC ?_;repeat first|simp|refine sR ?_
   refine sT (sH Hb Ht ?_);simp[strR,e1,e2]
 .have b1:(vG r.lg !=0)=true:=by simp[e1]
  simp only[b1];refine sC ?_;repeat first|simp|refine sR ?_
  refine sT (sH Hb Ht ?_);simp[strR,e1]
def fewR(r:Ru):Bool:=fewG r.lg&&fewG r.rg&&fewM r.k 140&&fewM r.i 140
structure Ru.Big (r:Ru):Prop where
 k:r.k.nodes.length<=bigN/\r.k.edges.length<=bigN
 i:r.i.nodes.length<=bigN/\r.i.edges.length<=bigN
 ls:r.lsl.length<=bigN
 lt:r.lte.length<=bigN
 rs:r.rsl.length<=bigN
 rt:r.rte.length<=bigN
 c:r.c.Big
theorem few34_c(r:Ru)(hb:r.Big):DC 57 [r.av] (B (fewR r)):=by
 intro tok nt box nb;obtain⟨k1,k2⟩:=hb.k;obtain⟨i1,i2⟩:=hb.i;rw[bigN_eq] at k1 k2 i1 i2;have h1:=few05_c r.lg;have h2:=few05_c r.rg;have h3:=few07_c r.k 140 (by omega) (by omega);have h4:=few06_c r.i 140 (by omega) (by omega);refine sI func57 ntmps57 fun Hb Ht=>?_
 repeat first|simp|refine sR ?_
 refine sD (h1 _ _) ?_;repeat first|simp|refine sR ?_
 cases e1:fewG r.lg
 .repeat first|simp|refine sR ?_
  refine sT (sH Hb Ht ?_);simp[fewR,e1]
 .repeat first|simp|refine sR ?_
  refine sD (h2 _ _) ?_;repeat first|simp|refine sR ?_
  cases e2:fewG r.rg
  .repeat first|simp|refine sR ?_
   refine sT (sH Hb Ht ?_);simp[fewR,e1,e2]
  .repeat first|simp|refine sR ?_
   refine sD (h3 _ _) ?_;repeat first|simp|refine sR ?_
   cases e3:fewM r.k 140
   .repeat first|simp|refine sR ?_
    refine sT (sH Hb Ht ?_);simp[fewR,e1,e2,e3]
   .repeat first|simp|refine sR ?_
    refine sD (h4 _ _) ?_;repeat first|simp|refine sR ?_
    refine sT (sH Hb Ht ?_);simp[fewR,e1,e2,e3]
theorem ovr_shs:∀(n:Nat) (c:Cd),SizeOf.sizeOf c<n->∀a,c.ovr a=0->c.shs=0
 | 0,c,hn,_,_=>absurd hn (Nat.not_lt_zero _)
 | n+1,c,hn,a,hv=>by
  obtain⟨h0,_,h2⟩:=Cd.ovr_zero hv;rw[c.shs_eq,if_pos h0];exact errL_all fun x hx=>ovr_shs n x (by have:=Cd.kid_lt hx;omega) _ (h2 x hx)
set_option maxRecDepth 100000 in
theorem small34_c(c:Cd)(hb:c.Big)(h:c.shs=0):DC 87 [c.av] (.tup [(if smallC c≠0 then cdOf 0 [] else c).av,I (smallC c)]):=by
 intro tok nt box nb;have h1:=size11_c c hb;have e:sizeR c=if smallC c≠0 then (0,0,smallC c) else (c.meas.1,c.meas.2,0):=by rw[sizeR,if_neg (by simp[h])]
 rw[e] at h1;by_cases e1:smallC c=0
 .rw[if_neg (by simp[e1])] at h1 ⊢;rw[e1];refine sI func87 ntmps87 fun Hb Ht=>?_
  repeat first|simp|refine sR ?_
  refine sD (h1 _ _) ?_;repeat first|simp|refine sR ?_
  refine sC ?_;repeat first|simp|refine sR ?_
  refine sT (sH Hb Ht ?_);simp
 .rw[if_pos e1] at h1 ⊢;rw[zav];have b1:(smallC c !=0)=true:=by simp[e1]
  refine sI func87 ntmps87 fun Hb Ht=>?_
  repeat first|simp|refine sR ?_
  refine sD (h1 _ _) ?_;simp;repeat first|simp[b1]|refine sR ?_
  refine sC ?_;repeat first|simp|refine sR ?_
  refine sT (sH Hb Ht ?_);simp
def backL(l:List Int)(n:Nat):List Int:=(List.range n).map fun (k:Nat)=>indexI l (k:Int)
theorem backL_len(l:List Int)(n:Nat):(backL l n).length=n:=by simp[backL]
theorem backL_getD{l:List Int}{n k:Nat}(h:k<n):(backL l n).getD k 0=indexI l k:=by simp[backL,h]
def BackOK:Prop:=∀(l:List Int) (n:Nat),l.length<=1000000->n<=1000000->l.Nodup->∀(tok:Tks) (nt:Nat),DCall prog 158 [.d (ints l),I n] tok nt (.d (ints (backL l n))) tok nt
theorem byK_back{q l:List Int}{n:Nat}(h:∀x∈q,0<=x/\x<n):byK q (backL l n) q.length=q.map (indexI l):=byK_ext (by simp) fun i hi=>by
 have:=h _ (getD_mem (d:=0) hi)
 rw[backL_getD (by omega),mapI_getD hi,show (((q.getD i 0).toNat:Nat):Int)=q.getD i 0 by omega]
set_option maxRecDepth 100000 in
theorem exists34_c(hB:BackOK)(c x:Cd)(hkx:c.kids=[x])(k5:c.kind=5)(r:Ru)(hs:SpOk r.sp)(hm:Emb r.rg c.g c.m)(ih:r.sp.dng c.m c.g=false->¬r.sp.big c.m c.g->∀(tok:Tks) (nt:Nat),DCall prog 86 [(r.sp.inn c.m c.g).ru.av,x.av] tok nt (.tup [(x.lft (r.sp.inn c.m c.g)).1.av,I (x.lft (r.sp.inn c.m c.g)).2]) tok nt):DC 86 [r.av,c.av] (.tup [(c.lft r.sp).1.av,I (c.lft r.sp).2]):=by
 intro tok nt box nb;obtain⟨fl,fr,fk,fi⟩:=hs.fit;obtain⟨fm,_,fg⟩:=hm.fit;have vi:=hs.i.vm;have vm:=hm.vm;have hvr:=(validG_types vm.va).1;have hvg:=(validG_types vm.vb).1;have s1:=ascending34_c r.i.nodes r.rg.nodes.length fi.n (by omega) hs.i.n vi.n;have s2:=ascending34_c r.i.edges r.rg.edges.length fi.e (by omega) hs.i.e vi.e;have hi:=imgP_vp hs.i;have hC:=of12_c r.rg c.g (imgP r.rg r.i) c.m fr fg fm hi.emb.fit.1 hm hi;have hL:c.lft r.sp=lftStep 5 c.m c.g r.sp (fun s=>kidsE (fun x=>Cd.lft x s) [x]) (fun s=>kidsE (fun x=>Cd.lft x s) [x]):=by rw[c.lft_eq,k5,hkx]
 have b5:(c.kind !=5)=false:=by simp[k5]
 refine sI func86 ntmps86 fun Hb Ht=>?_
 repeat first|simp[b5]|refine sR ?_
 refine sC ?_;repeat first|simp|refine sR ?_
 refine sD (s1 _ _) ?_;repeat first|simp|refine sR ?_
 refine sD (s2 _ _) ?_;repeat first|simp|refine sR ?_
 refine sD (hC _ _) ?_;simp;by_cases hd:r.sp.dng c.m c.g=true
 .have e:cmpR r.rg c.g (imgP r.rg r.i) c.m=(⟨[],[]⟩,14):=if_pos hd
  rw[e,show c.lft r.sp=(noC,0) by rw[hL,lftStep,if_neg (by simp),if_pos hd]];have hn:=false34_c;repeat first|simp|refine sR ?_
  refine sC ?_;repeat first|simp|refine sR ?_
  refine sD (hn _ _) ?_;repeat first|simp|refine sR ?_
  refine sT (sH Hb Ht ?_);simp
 .have hd':r.sp.dng c.m c.g=false:=by simpa using hd
  have e:cmpR r.rg c.g (imgP r.rg r.i) c.m=(r.sp.z c.m c.g,0):=if_neg hd
  rw[e];have ih:=ih hd';have vz:=Sp.z_vp hs hm hd';have fz:=vz.emb.fit.1;have hgo:=Sp.go_emb hs hm hd';have x1:=extract07_c c.g (r.sp.z c.m c.g) fg fz vz;have x2:=extract07_c r.lg r.k fl fk hs.k;have t0:=then63_c r.i c.m fi (by rw[vm.ln];exact vi.n) (by rw[vm.le];exact vi.e);have ft:(thenM r.i c.m).Fit:=(hs.i.comp hm).fit.1
  have vt:VM (exG r.lg r.k) c.g (thenM r.i c.m):=(hs.i.comp hm).vm
  have k1:=hB (r.sp.z c.m c.g).nodes c.g.nodes.length fz.n (by omega) (nodup_of_lt vz.sn);have k2:=hB (r.sp.z c.m c.g).edges c.g.edges.length fz.e (by omega) (nodup_of_lt vz.se);have a1:=through68_c (thenM r.i c.m).nodes (backL (r.sp.z c.m c.g).nodes c.g.nodes.length) ft.n (by rw[backL_len];exact vt.n);have a2:=through68_c (thenM r.i c.m).edges (backL (r.sp.z c.m c.g).edges c.g.edges.length) ft.e (by rw[backL_len];exact vt.e);rw[byK_back vt.n] at a1;rw[byK_back vt.e] at a2;have po:=po10_c (exG r.lg r.k) r.lg (r.sp.rest c.m c.g) r.k (r.sp.go c.m c.g) hs.k.emb hgo;have ego:r.sp.go c.m c.g=⟨(thenM r.i c.m).nodes.map (indexI (r.sp.z c.m c.g).nodes),(thenM r.i c.m).edges.map (indexI (r.sp.z c.m c.g).edges)⟩:=rfl
  obtain⟨P,hP⟩:∃P,pushR r.lg (r.sp.rest c.m c.g) r.k (r.sp.go c.m c.g)=P:=⟨_,rfl⟩
  rw[hP,ego] at po;have erest:exG c.g (r.sp.z c.m c.g)=r.sp.rest c.m c.g:=rfl
  rw[erest] at x1;generalize hT:thenM r.i c.m=T at *;repeat first|simp|refine sR ?_
  refine sC ?_;repeat first|simp|refine sR ?_
  refine sC ?_;repeat first|simp|refine sR ?_
  refine sD (x2 _ _) ?_;repeat first|simp|refine sR ?_
  refine sD (x1 _ _) ?_;repeat first|simp|refine sR ?_
  refine sD (t0 _ _) ?_;repeat first|simp|refine sR ?_
  refine sD (k1 _ _) ?_;repeat first|simp|refine sR ?_
  refine sD (a1 _ _) ?_;repeat first|simp|refine sR ?_
  refine sD (k2 _ _) ?_;repeat first|simp|refine sR ?_
  refine sD (a2 _ _) ?_;repeat first|simp|refine sR ?_
  refine sD (po _ _) ?_;simp;by_cases hb:r.sp.big c.m c.g
  .have e:P=(⟨⟨[],[]⟩,⟨[],[]⟩,⟨[],[]⟩⟩,3):=by rw[<-hP];exact if_pos hb
   rw[e,show c.lft r.sp=(cdOf 0 [],3) by rw[hL,lftStep,if_neg (by simp),if_neg (by simp[hd']),if_pos hb],zav];repeat first|simp|refine sR ?_
   refine sC ?_;repeat first|simp|refine sR ?_
   refine sT (sH Hb Ht ?_);simp
  .have e:P=(r.sp.po c.m c.g,0):=by rw[<-hP];exact if_neg hb
   rw[e];have ih:=ih hb;obtain⟨p1,p2,p3⟩:=Sp.po_emb hs hm hd' hb;have v3:=p3.vm;have kp:=kept34_c (r.sp.rest c.m c.g) (r.sp.po c.m c.g).g c.g (r.sp.z c.m c.g) (r.sp.po c.m c.g).r p3 (by rw[v3.ln];simp[Sp.rest,exG]) (by rw[v3.le];simp[Sp.rest,exG]);have eN:r.sp.inn c.m c.g=⟨(r.sp.po c.m c.g).g,c.g,imgP (r.sp.po c.m c.g).g (r.sp.po c.m c.g).r,thenM (liftM (r.sp.po c.m c.g).r (imgP (r.sp.po c.m c.g).g (r.sp.po c.m c.g).r)) (r.sp.z c.m c.g)⟩:=rfl
   rw[<-eN] at kp;obtain⟨R,hR⟩:∃R,x.lft (r.sp.inn c.m c.g)=R:=⟨_,rfl⟩
   rw[hR] at ih;repeat first|simp|refine sR ?_
   refine sC ?_;repeat first|simp|refine sR ?_
   refine sD (kp _ _) ?_;simp;repeat first|simp[hkx,Cd.cells_eq]|refine sR ?_
   refine sD (ih _ _) ?_;repeat first|simp|refine sR ?_
   by_cases h0:R.2=0
   .rw[show c.lft r.sp=(.mk 5 [R.1] (r.sp.po c.m c.g).l (r.sp.po c.m c.g).g [] 0 [],0) by rw[hL,lftStep,if_neg (by simp),if_neg (by simp[hd']),if_neg hb];have hk:kidsE (fun x=>Cd.lft x (r.sp.inn c.m c.g)) [x]=([R.1],0):=by { unfold kidsE;rw[hR,if_neg (by simp[h0])];exact if_neg (by simp[kidsE]) };rw[hk];exact if_neg (by simp)];have hav:(Cd.mk 5 [R.1] (r.sp.po c.m c.g).l (r.sp.po c.m c.g).g [] 0 []).av=.agg [I 5,.d (.sl 9 [R.1.cells]),.d (ints (r.sp.po c.m c.g).l.nodes),.d (ints (r.sp.po c.m c.g).l.edges),.d (ints (r.sp.po c.m c.g).g.nodes),.d (AM.edges (r.sp.po c.m c.g).g.edges),.d (.sl 4 []),I 0,.d (.sl 5 [])]:=rfl
    rw[R.1.cells_eq] at hav;rw[hav];simp only[h0];refine sC ?_;repeat first|simp|refine sR ?_
    refine sT (sH Hb Ht ?_);simp
   .rw[show c.lft r.sp=(cdOf 0 [],R.2) by rw[hL,lftStep,if_neg (by simp),if_neg (by simp[hd']),if_neg hb];have hk:kidsE (fun x=>Cd.lft x (r.sp.inn c.m c.g)) [x]=([],R.2):=by { unfold kidsE;rw[hR];exact if_pos h0 };rw[hk];exact if_pos h0,zav];have b0:(R.2 !=0)=true:=by simp[h0]
    simp only[b0];refine sC ?_;repeat first|simp|refine sR ?_
    refine sT (sH Hb Ht ?_);simp
theorem backL_succ(l:List Int)(k:Nat):backL l (k+1)=backL l k++[indexI l k]:=by simp[backL,List.range_succ]
def backS(l:List Int)(k j:Nat):List Int:=backL l k++[indexI (l.take j) k]
theorem backS_len(l:List Int)(k j:Nat):(backS l k j).length=k+1:=by simp[backS,backL]
theorem backS_zero(l:List Int)(k:Nat):backS l k 0=backL l k++[-1]:=by simp[backS,indexI]
theorem backS_all(l:List Int)(k:Nat):backS l k l.length=backL l (k+1):=by simp[backS,backL_succ]
theorem indexI_none{l:List Int}{v:Int}(h:v∉l):indexI l v = -1:=by
 rcases indexI_spec l v with ⟨h1,_⟩|⟨k,_,h3,h4⟩
 .exact h1
 .exact absurd (h4 ▸ getD_mem h3) h
theorem take_mem{l:List Int}{j:Nat}(h:j<l.length){v:Int}:v∈l.take (j+1)↔v∈l.take j∨v=l.getD j 0:=by
 rw[<-List.take_append_getElem h,List.mem_append,List.mem_singleton];simp[h]
theorem index_no{l:List Int}{j:Nat}(h:j<l.length){v:Int}(hv:l.getD j 0≠v)(hn:l.Nodup):indexI (l.take (j+1)) v=indexI (l.take j) v:=by
 by_cases hm:v∈l.take j
 .obtain⟨a1,a2,a3⟩:=indexI_in hm;obtain⟨b1,b2,b3⟩:=indexI_in ((take_mem h).2 (.inl hm));have hnd:(l.take (j+1)).Nodup:=hn.sublist (List.take_sublist _ _)
  have hl:(l.take j).length<=(l.take (j+1)).length:=by simp;omega
  have e:(l.take (j+1)).getD (indexI (l.take j) v).toNat 0=v:=by
   have q:(indexI (l.take j) v).toNat<(l.take j).length:=by omega
   have q1:(indexI (l.take j) v).toNat<j:=by simp at q;omega
   have q2:(l.take (j+1)).getD (indexI (l.take j) v).toNat 0=(l.take j).getD (indexI (l.take j) v).toNat 0:=by
    simp only[List.getD_eq_getElem?_getD,List.getElem?_take];rw[if_pos (by omega),if_pos q1]
   rw[q2];exact a3
  have:=getD_inj hnd (show (indexI (l.take j) v).toNat<(l.take (j+1)).length by omega) (show (indexI (l.take (j+1)) v).toNat<(l.take (j+1)).length by omega) (e.trans b3.symm)
  omega
 .rw[indexI_none hm,indexI_none fun hm2=>by
   rcases (take_mem h).1 hm2 with h1|h1
   .exact hm h1
   .exact hv h1.symm]
theorem index_yes{l:List Int}{j:Nat}(h:j<l.length)(hn:l.Nodup):indexI (l.take (j+1)) (l.getD j 0)=j:=by
 have hnd:(l.take (j+1)).Nodup:=hn.sublist (List.take_sublist _ _)
 have hj:j<(l.take (j+1)).length:=by simp;omega
 have e:(l.take (j+1)).getD j 0=l.getD j 0:=by
  simp only[List.getD_eq_getElem?_getD,List.getElem?_take];rw[if_pos (by omega)]
 have:=indexI_gd hnd hj
 rwa [e] at this
theorem backS_no{l:List Int}{k j:Nat}(h:j<l.length)(hv:l.getD j 0≠k)(hn:l.Nodup):backS l k (j+1)=backS l k j:=by rw[backS,backS,index_no h hv hn]
theorem backS_yes{l:List Int}{k j:Nat}(h:j<l.length)(hv:l.getD j 0=k)(hn:l.Nodup):backS l k (j+1)=(backS l k j).set k j:=by
 have h2:=index_yes h hn;rw[hv] at h2;have hl:(backL l k).length=k:=by simp[backL]
 rw[backS,backS,h2,List.set_append_right _ _ (by omega),hl];simp
end Go.AM
namespace Go.Proofs.YtebmobphgaiaiaaGreat.back
open Go Go.Proofs Go.RowKit Go.AM
open Go.Proofs.Tryz
theorem info3:(prog.info? 3).map (fun i=>(i.zero,i.size,i.bytes))=some (some (.int .i64 0),1,8):=by kernel_rfl
set_option maxHeartbeats 2000000 in
set_option maxRecDepth 100000 in
theorem any(b off n c m:Nat)(zs:List Int)(w:World)(hz:zs.length=n)(hn:n<=1000000)(hm:m<=1000000)(hd:zs.Nodup)(hb:b<w.heap.size)(hc:∀j,j<zs.length->w.cell? ⟨b,off+j,none⟩=some (.int .i64 (zs.getD j 0))):
  Calls prog 158 #[.slice (some ⟨b,off,none⟩) n c,.int .i64 m] w fun e w'=>∃v,e=.returned v/\w'.ownsRow w.heap.size 3 1 v m ((backL zs m).map (Value.int .i64))/\Below w.heap.size w w':=by
 obtain⟨i0,hi,hz0,hz1,hz2⟩:=info_parts info3
 go_enter func158,ntmps158
 go_wp2
 go_loopw [5,6] (fun v i wr=>∃k:Nat,k<=m/\i=.int .i64 k/\wr.ownsRow w.heap.size 3 1 v k ((backL zs k).map (Value.int .i64))/\Below w.heap.size w wr) (fun _ i _=>m-(intOf i).toNat)
 case atStart=>exact⟨0,Nat.zero_le _,rfl,World.ownsRow_nil _ _ _ _,Below.refl _ _⟩
 case round =>
  obtain⟨k,hk,rfl,hown,hnx⟩:=hrel
  go_wp2_with (first
   | (at_builtin;refine wpList_append_own _ rfl _ _ 26 rfl w.heap.size 3 i0 (.int .i64 0) 1 8 underlying26 hi hz0 hz1 hz2 rfl (by decide) _ _ _ rfl (hown.alloc _) ⟨wr.heap.size,0,none⟩ 1 1 [.int .i64 (-1)] rfl rfl ?c1 ?c2 ?c3 ?c4 ?c5 ?_)
   | go_in)
  case c1 =>
   intro j u hj
   match j,hj with
   | 0,hj=>simp at hj;subst hj;simp[Addr.add]
  case c2=>intro u hu;simp at hu;subst hu;rfl
  case c3=>unfold maxLen;omega
  case c4=>omega
  case c5=>have:=hnx.size;simp;omega
  .intro v' w1 hown' hgrow hne;have hk':k<m:=by assumption
   obtain⟨g,cap,rfl,hg1,hg2⟩:=hown'.form (by omega);have hnx1:Below w.heap.size w w1:=(hnx.alloc (by have:=hnx.size;omega) _).grown hgrow (by have:=hnx.size;simp;omega) (fun q hq=>(hown.lt q hq).1)
   rw[show List.map (Value.int .i64) (backL zs k)++[Value.int .i64 (-1)]=(backS zs k 0).map (Value.int .i64) by rw[backS_zero];simp] at hown';clear hgrow hown hnx hne
   go_wp2
   go_loopw [7] (fun i wr=>∃j:Nat,j<=n/\i=.int .i64 j/\wr.ownsRow w.heap.size 3 1 (.slice (some ⟨g,0,none⟩) (k+1) cap) (k+1) ((backS zs k j).map (Value.int .i64))/\Below w.heap.size w wr) (fun i _=>n-(intOf i).toNat)
   case atStart=>exact⟨0,Nat.zero_le _,rfl,hown',hnx1⟩
   case round =>
    clear hown' hnx1;obtain⟨j,hj,rfl,hown,hnx⟩:=hrel;have hcx:j<n->wr.cell? ⟨b,off+j,none⟩=some (.int .i64 (zs.getD j 0)):=fun h=>(hnx.cell (by exact hb)).trans (hc j (by omega))
    have hst:=hown.stored k (.int .i64 j);have hfz:=hown.frozenAt k;have hck:wr.cell? ⟨g,k,none⟩=some (.int .i64 ((backS zs k j).getD k 0)):=by
     rw[hown.cellAt k (by omega),List.getElem?_map,List.getElem?_eq_getElem (by rw[backS_len];omega)];simp[show k<(backS zs k j).length by rw[backS_len];omega]
    go_wp2
    .have hlt:j<n:=by assumption
     have hjl:j<zs.length:=by omega
     have h:(zs[j]==(k:Int))=true:=by assumption
     have e:zs.getD j 0=(k:Int):=by
      have:=beq_iff_eq.1 h
      simpa[hjl] using this
     refine⟨⟨j+1,by omega,by simp,?_,hnx.setCell hg1 _⟩,by simp[intOf];omega⟩;rw[backS_yes hjl e hd,List.map_set];exact hst.1
    .have hlt:j<n:=by assumption
     have hjl:j<zs.length:=by omega
     have h:(zs[j]==(k:Int))=false:=by assumption
     have e:zs.getD j 0≠(k:Int):=by
      have:=beq_eq_false_iff_ne.1 h
      simpa[hjl] using this
     refine⟨⟨j+1,by omega,by simp,?_,hnx⟩,by simp[intOf];omega⟩;rw[backS_no hjl e hd];exact hown
    .have hlt:¬j<n:=by assumption
     have hjn:j=zs.length:=by omega
     rw[hjn,backS_all] at hown;exact⟨⟨k+1,by omega,by simp,hown,hnx⟩,by simp[intOf];omega⟩
  .go_ret
   have hk':¬k<m:=by assumption
   obtain rfl:k=m:=by omega
   exact⟨_,rfl,hown,hnx⟩
end Go.Proofs.YtebmobphgaiaiaaGreat.back
namespace Go.Proofs.YtebmobphgaiaiaaGreat.back
open Go Go.Proofs Go.RowKit Go.AM
open Go.Proofs.Tryz
set_option maxHeartbeats 2000000 in
set_option maxRecDepth 100000 in
theorem zero(A:Option Addr)(c m:Nat)(w:World)(hm:m<=1000000):
  Calls prog 158 #[.slice A 0 c,.int .i64 m] w fun e w'=>∃v,e=.returned v/\w'.ownsRow w.heap.size 3 1 v m ((backL [] m).map (Value.int .i64))/\Below w.heap.size w w':=by
 obtain⟨i0,hi,hz0,hz1,hz2⟩:=info_parts info3
 go_enter func158,ntmps158
 go_wp2
 go_loopw [5,6] (fun v i wr=>∃k:Nat,k<=m/\i=.int .i64 k/\wr.ownsRow w.heap.size 3 1 v k ((backL [] k).map (Value.int .i64))/\Below w.heap.size w wr) (fun _ i _=>m-(intOf i).toNat)
 case atStart=>exact⟨0,Nat.zero_le _,rfl,World.ownsRow_nil _ _ _ _,Below.refl _ _⟩
 case round =>
  obtain⟨k,hk,rfl,hown,hnx⟩:=hrel
  go_wp2_with (first
   | (at_builtin;refine wpList_append_own _ rfl _ _ 26 rfl w.heap.size 3 i0 (.int .i64 0) 1 8 underlying26 hi hz0 hz1 hz2 rfl (by decide) _ _ _ rfl (hown.alloc _) ⟨wr.heap.size,0,none⟩ 1 1 [.int .i64 (-1)] rfl rfl ?c1 ?c2 ?c3 ?c4 ?c5 ?_)
   | go_in)
  case c1 =>
   intro j u hj
   match j,hj with
   | 0,hj=>simp at hj;subst hj;simp[Addr.add]
  case c2=>intro u hu;simp at hu;subst hu;rfl
  case c3=>unfold maxLen;omega
  case c4=>omega
  case c5=>have:=hnx.size;simp;omega
  .intro v' w1 hown' hgrow hne;have hk':k<m:=by assumption
   have hnx1:Below w.heap.size w w1:=(hnx.alloc (by have:=hnx.size;omega) _).grown hgrow (by have:=hnx.size;simp;omega) (fun q hq=>(hown.lt q hq).1)
   rw[show List.map (Value.int .i64) (backL [] k)++[Value.int .i64 (-1)]=(backL [] (k+1)).map (Value.int .i64) by rw[backL_succ];simp[indexI]] at hown';clear hgrow hown hnx hne
   go_wp2
   go_loopw [7] (fun i wr=>i=.int .i64 0/\wr=w1) (fun i _=>0)
   case atStart=>exact⟨rfl,rfl⟩
   case round =>
    obtain⟨rfl,rfl⟩:=hrel
    go_wp2
    exact⟨⟨k+1,by omega,by simp,hown',hnx1⟩,by simp[intOf];omega⟩
  .go_ret
   have hk':¬k<m:=by assumption
   obtain rfl:k=m:=by omega
   exact⟨_,rfl,hown,hnx⟩
end Go.Proofs.YtebmobphgaiaiaaGreat.back
namespace Go.AM
open Go Go.Proofs Go.RowKit
open Go.Proofs.Tryz
theorem backOK:BackOK:=by
 intro l n hl hn hd tok nt box nb;refine⟨Enters.mk func158 rfl (by kernel_rfl),fun G w vals hm hr=>?_⟩;obtain⟨hlen,hrv⟩:=hr
 match vals,hlen with
 | [v,u],_ =>
  have h0:=hrv 0 (by simp) (by simp);have h1:=hrv 1 (by simp) (by simp);simp only[List.getElem_cons_zero,List.getElem_cons_succ] at h0 h1;cases h1 with
  | d h1 =>
  cases h1 with
  | raw h1 =>
  cases h0 with
  | d h0 =>
   obtain⟨A,cap,rfl,hcap,hmax,hA,hc⟩:=rvd_ints h0;have hll:(backL l n).length=n:=backL_len l n
   by_cases e:l=[]
   .subst e;refine(YtebmobphgaiaiaaGreat.back.zero A cap n w hn).mono ?_;rintro e w' ⟨v,rfl,ho,hb⟩;rw[<-hll] at ho;simp only[hll] at ho;exact⟨_,_,_,G,rfl,⟨rfl,rfl⟩,rfl,relM_below hm hb,.d (rvd_owns hm (by rw[hll];exact ho)),le_below hm hb,fun k hk=>⟨hk,rfl⟩⟩
   .obtain⟨a,rfl⟩:=hA e;have hp:0<l.length:=List.length_pos_iff.2 e
    have hc':=hc a rfl
    have hs:a.spot=none:=by
     cases hsp:a.spot with
     | none=>rfl
     | some q =>
      exfalso
      have:=hc' 0 hp
      simp only[World.cell?,Addr.add,hsp,Option.isSome_some,↓reduceIte] at this;split at this<;>simp at this
    obtain⟨b,off,sp⟩:=a;simp only at hs;subst hs;have hcc:∀j,j<l.length->w.cell? ⟨b,off+j,none⟩=some (.int .i64 (l.getD j 0)):=fun j hj=>by
     have h1:=hc' j hj;unfold Addr.add at h1;split at h1
     .rename_i e;subst e;exact h1
     .exact h1
    have hbw:b<w.heap.size:=lt_of_cell (hcc 0 hp)
    refine(YtebmobphgaiaiaaGreat.back.any b off l.length cap n l w rfl hl hn hd hbw hcc).mono ?_;rintro e w' ⟨v,rfl,hown,hb⟩;exact⟨v,_,_,G,rfl,⟨rfl,rfl⟩,rfl,relM_below hm hb,.d (rvd_owns hm (by rw[hll];exact hown)),le_below hm hb,fun k hk=>⟨hk,rfl⟩⟩
end Go.AM
