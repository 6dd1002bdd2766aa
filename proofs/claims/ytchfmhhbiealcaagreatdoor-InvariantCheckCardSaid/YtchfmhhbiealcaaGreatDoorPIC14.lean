import Derived.Test.YtchfmhhbiealcaaGreatDoorPIC13
set_option linter.unusedSimpArgs false
set_option linter.unusedVariables false
namespace Go.AM
open Go Go.Proofs
open Go.Proofs.Tryz
def Sd.nr(s:Sd)(e:E):Int:=if s.o=true then e.fr else e.to
def Sd.fa(s:Sd)(e:E):Int:=if s.o=true then e.to else e.fr
theorem pN{α:Type}{f:List Ov->α->List Ov}{B:Nat}(hf:∀out k,(f out k).length<=out.length+B):∀(l:List α) (out:List Ov),(l.foldl f out).length<=out.length+l.length*B
 | [],out=>by simp
 | x::l,out=>by
  have h1:=pN hf l (f out x);have h2:=hf out x;rw[List.foldl_cons,ce,cb];omega
theorem xE(a b:Gr)(nodes:List Int):∀(n:Nat) (es:List Int) (out:List Ov),(ovE a b nodes n es out).length<=out.length+(1+a.edges.length) ^ n
 | 0,es,out=>by
  unfold ovE;split<;>simp
 | n+1,es,out=>by
  unfold ovE;split
  .omega
  .have h1:=xE a b nodes n (es++[-1]) out;have h2:=pN (f:=fun (out:List Ov) (k:Nat)=>if a.edges.getD k default=lC b nodes es/\(k:Int)∉es then ovE a b nodes n (es++[(k:Int)]) out else out) (B:=(1+a.edges.length) ^ n) (fun out k=>by
    split
    .exact xE a b nodes n _ out
    .omega) (List.range a.edges.length) (ovE a b nodes n (es++[-1]) out)
   rw[List.length_range] at h2;rw[Nat.pow_succ,Nat.mul_comm,cb];omega
theorem vN(a b:Gr):∀(n:Nat) (l:List Int) (out:List Ov),(ovN a b n l out).length<=out.length+(1+a.nodes.length) ^ n*(1+a.edges.length) ^ b.edges.length
 | 0,l,out=>by
  unfold ovN;split
  .omega
  .have:=xE a b l b.edges.length [] out
   simpa using this
 | n+1,l,out=>by
  unfold ovN;split
  .omega
  .have h1:=vN a b n (l++[-1]) out;have h2:=pN (f:=cT a b (ovN a b n) l) (B:=(1+a.nodes.length) ^ n*(1+a.edges.length) ^ b.edges.length) (fun out k=>by
    unfold cT;split
    .exact vN a b n _ out
    .omega) (List.range a.nodes.length) (ovN a b n (l++[-1]) out)
   rw[List.length_range] at h2;rw[Nat.pow_succ,Nat.mul_comm ((1+a.nodes.length) ^ n),Nat.mul_assoc,cb];omega
structure Lf (t:Ty) (g:Gr):Prop where
 ty:tyE t=0
 va:vG g=0
 lf:∀x∈g.nodes,(0<=x/\x<t.nodes.length)/\eF t x=true
 fr:∀e∈g.edges,nY t e.ty (g.nodes.getD e.fr.toNat 0) (g.nodes.getD e.to.toNat 0)=true
structure Rc (t:Ty) (r:Ru) (c:Co):Prop where
 sp:aBp r.sp
 st:cN r=0
 gv:qK t r c=0
 k1:c.kind=1
 ex:c.exts=[]
 vl:vG r.lg=0
 vr:vG r.rg=0
 vc:vG c.g=0
 sh:kT c=0
theorem Rc.left{t:Ty}{r:Ru}{c:Co}(h:Rc t r c)(x:Cd):aL7 r x=aNt r.sp x:=by
 unfold aL7;rw[ac (by simp[h.st])]
def cK(k:List Int)(i:Nat):Nat:=(bC k i).length
theorem zR(k:List Int)(i:Nat):bC k (i+1)=bC k i++if (i:Int)∈k then [] else [(i:Int)]:=by
 unfold bC;rw[cu,dj,cw];by_cases h:(i:Int)∈k<;>simp[h]
theorem aBH(k:List Int)(i:Nat):cK k (i+1)=cK k i+if (i:Int)∈k then 0 else 1:=by
 unfold cK;rw[zR,am];by_cases h:(i:Int)∈k<;>simp[h]
theorem aEZ(k:List Int){i:Nat}:∀{j:Nat},i<=j->cK k i<=cK k j
 | 0,h=>by
  have:i=0:=by omega
  rw[this];exact nr0 _
 | j+1,h=>by
  by_cases e:i=j+1
  .rw[e];exact nr0 _
  .have:=aEZ k (i:=i) (j:=j) (by omega)
   rw[aBH];omega
theorem aK6{k:List Int}{i j:Nat}(h:i<j)(hi:(i:Int)∉k):cK k i<cK k j:=by
 have:=aEZ k (show i+1<=j from h)
 rw[aBH,ac hi] at this;omega
theorem aLy(k:List Int)(n:Nat):cK k n<=n:=by
 unfold cK bC;rw[br];exact bz (di _ _) (by simp)
theorem aFu{k:List Int}:∀{n i:Nat},i<n->(i:Int)∉k->(bC k n).getD (cK k i) 0=i
 | n+1,i,h,hi=>by
  rw[zR];by_cases e:i=n
  .subst e;rw[ac hi,ao,da (by unfold cK;exact nr0 _)];simp[cK]
  .have hl:cK k i<(bC k n).length:=aK6 (show i<n by omega) hi
   rw[ao,bg hl,<-List.getD_eq_getElem?_getD];exact aFu (by omega) hi
theorem aCW{k:List Int}:∀{n b:Nat},b<cK k n->∃i,i<n/\(i:Int)∉k/\cK k i=b
 | 0,b,h=>absurd h (b9 _)
 | n+1,b,h=>by
  by_cases e:b<cK k n
  .obtain⟨i,a,b,c⟩:=aCW e;exact⟨i,by omega,b,c⟩
  .rw[aBH] at h;by_cases hn:(n:Int)∈k
   .rw[af hn] at h;omega
   .rw[ac hn] at h;exact⟨n,by omega,hn,by omega⟩
structure yQ (k i a z:List Int) (nl nr nx:Nat):Prop where
 kn:k.Nodup
 kr:∀x∈k,0<=x/\x<(nl:Int)
 sn:i.Nodup
 sr:∀x∈i,0<=x/\x<(nr:Int)
 lk:i.length=k.length
 an:a.Nodup
 ar:∀x∈a,0<=x/\x<(nx:Int)
 al:a.length=nr
 zn:z.Nodup
 zr:∀x∈z,0<=x/\x<(nx:Int)
 zi:∀v,v<nx->((∃j,j<z.length/\atN z j=v)↔¬∃b,b<nr/\atN a b=v/\¬∃j,j<k.length/\atN i j=b)
def fK(k i a z:List Int)(j:Nat):Int:=if (j:Int)∈k then aQ z (a.getD (i.getD (aQ k j).toNat 0).toNat 0) else ((z.length+cK k j:Nat):Int)
theorem aET{l:List Int}{n v:Nat}(hr:∀x∈l,0<=x/\x<(n:Int)):(v:Int)∈l↔∃j,j<l.length/\atN l j=v:=by
 constructor
 .intro h;obtain⟨j,j1,j2⟩:=eK h;exact⟨j,j1,by unfold atN;rw[j2];rfl⟩
 .rintro⟨j,j1,j2⟩;have:=jI hr j1
  rw[<-j2,this.1];exact aO j1
theorem yQ.at{k i a z:List Int}{nl nr nx:Nat}(h:yQ k i a z nl nr nx){j:Nat}(hj:j<k.length):
  0<=fK k i a z (atN k j)/\(fK k i a z (atN k j)).toNat<z.length/\atN z (fK k i a z (atN k j)).toNat=atN a (atN i j):=by
 have e1:=jI h.kr hj;have e2:=jI h.sr (show j<i.length by rw[h.lk];exact hj);have e3:=jI h.ar (show atN i j<a.length by rw[h.al];exact e2.2);have hm:((atN k j:Nat):Int)∈k:=by rw[e1.1];exact aO hj
 have AN:aQ k ((atN k j:Nat):Int)=j:=by rw[e1.1];exact aAk h.kn hj
 have hv:a.getD (i.getD (aQ k ((atN k j:Nat):Int)).toNat 0).toNat 0=((atN a (atN i j):Nat):Int):=by
  rw[AN,bv,e3.1];rfl
 have hz:((atN a (atN i j):Nat):Int)∈z:=by
  rw[aET h.zr,h.zi _ e3.2];rintro⟨b,b1,b2,b3⟩;refine b3 ⟨j,hj,?_⟩;exact(aBq h.an h.ar (by rw[h.al];exact b1) (by rw[h.al];exact e2.2) b2).symm
 have hi:=fC hz;unfold fK;rw[af hm,hv];refine⟨hi.1,by omega,?_⟩;unfold atN at hi ⊢;rw[hi.2.2];omega
theorem yQ.off{k i a z:List Int}{nl nr nx:Nat}(h:yQ k i a z nl nr nx){j:Nat}(hj:(j:Int)∉k):fK k i a z j=((z.length+cK k j:Nat):Int):=ac hj
theorem yQ.rng{k i a z:List Int}{nl nr nx:Nat}(h:yQ k i a z nl nr nx){j:Nat}(hj:j<nl):0<=fK k i a z j/\(fK k i a z j).toNat<z.length+cK k nl:=by
 by_cases e:(j:Int)∈k
 .obtain⟨q,q1,rfl⟩:=(aET h.kr).1 e;have:=h.at q1
  exact⟨this.1,by omega⟩
 .have:=aK6 hj e
  rw[h.off e];omega
theorem aLk{s:Sp}(hs:aBp s){x:Gr}{a:Mo}(hm:Emb s.r x a):yQ s.k.nodes s.i.nodes a.nodes (s.z a x).nodes s.l.nodes.length s.r.nodes.length x.nodes.length/\yQ s.k.edges s.i.edges a.edges (s.z a x).edges s.l.edges.length s.r.edges.length x.edges.length:=by
 obtain⟨k1,k2⟩:=aG1 hs.i;have zn:=aCH (n:=x.nodes.length) hm.vm.ln hm.vm.n k1;have ze:=aCH (n:=x.edges.length) hm.vm.le hm.vm.e k2;have l1:(exG s.l s.k).nodes.length=s.k.nodes.length:=by simp[exG]
 have l2:(exG s.l s.k).edges.length=s.k.edges.length:=by simp[exG]
 rw[l1] at zn;rw[l2] at ze;have r7:=hs.i.vm;exact⟨⟨dJ hs.k.sn,hs.k.n,hs.i.n,r7.n,by rw[r7.ln,l1],hm.n,hm.vm.n,hm.vm.ln,dJ (jL (qT _ _ _)),fun v hv=>(eA.1 hv).1,zn⟩,
  ⟨dJ hs.k.se,hs.k.e,hs.i.e,r7.e,by rw[r7.le,l2],hm.e,hm.vm.e,hm.vm.le,dJ (jL (qT _ _ _)),fun v hv=>(eA.1 hv).1,ze⟩⟩
theorem aHv(r:Ru)(o:Ov):(wI r o).nodes.length=(eG r o).nodes.length+cK r.k.nodes r.lg.nodes.length/\(wI r o).edges.length=(eG r o).edges.length+cK r.k.edges r.lg.edges.length:=by
 constructor
 .simp[wI,exG,cK]
 .simp[wI,exG,cK]
def afA(k:List Int)(f:Nat->Int)(n j:Nat):List Int:=(List.range n).map fun (v:Nat)=>if (v:Int)∈k.take j then f v else 0
def afB(k:List Int)(f:Nat->Int)(n j:Nat):List Int:=(List.range n).map fun (v:Nat)=>if (v:Int)∈k∨(v:Int)∈(bC k n).take j then f v else 0
theorem aJr(k:List Int)(f:Nat->Int)(n j:Nat):(afA k f n j).length=n:=by simp[afA]
theorem aKL(k:List Int)(f:Nat->Int)(n j:Nat):(afB k f n j).length=n:=by simp[afB]
theorem aHI(k:List Int)(f:Nat->Int)(n:Nat):afA k f n 0=List.replicate n 0:=by
 refine f9 (by simp[afA]) fun i h1 h2=>?_
 simp[afA]
theorem aFd{f g:Nat->Int}{n i:Nat}{x:Int}(hi:i<n)(h1:g i=x)(h2:∀v,v<n->v≠i->g v=f v):((List.range n).map f).set i x=(List.range n).map g:=by
 refine f9 (by simp) fun v h3 h4=>?_
 have hv:v<n:=by simpa using h4
 rw[List.getElem_set];split
 .rename_i e;subst e;simp[h1]
 .rename_i e;simp[h2 v hv (fun h=>e h.symm)]
theorem aCp{k:List Int}{f:Nat->Int}{n j:Nat}(hn:k.Nodup)(hr:∀x∈k,0<=x/\x<(n:Int))(hj:j<k.length):(afA k f n j).set (k[j]).toNat (f (k[j]).toNat)=afA k f n (j+1):=by
 have h0:=hr _ (aa hj);have e0:(((k[j]).toNat:Nat):Int)=k[j]:=by omega
 have ht:k.take (j+1)=k.take j++[k[j]]:=ah hj
 refine aFd (by omega) ?_ fun v hv hne=>?_
 .rw[af];rw[ht,e0];exact List.mem_append_right _ (a7.2 rfl)
 .have:(v:Int)≠k[j]:=by omega
  have:(v:Int)∈k.take (j+1)↔(v:Int)∈k.take j:=by rw[ht,ap,a7];exact or_iff_left this
  by_cases hm:(v:Int)∈k.take j
  .rw[af hm,af (this.2 hm)]
  .rw[ac hm,ac (fun h=>hm (this.1 h))]
theorem aJu(k:List Int)(f:Nat->Int)(n:Nat):afA k f n k.length=afB k f n 0:=by
 unfold afA afB;refine d7 fun v _=>?_
 simp
theorem aHF{k:List Int}{f:Nat->Int}{n j:Nat}(hj:j<(bC k n).length):(afB k f n j).set ((bC k n)[j]).toNat (f ((bC k n)[j]).toNat)=afB k f n (j+1):=by
 have h0:=wW _ (aa hj);generalize hm:(bC k n)[j]=x at *;have e0:((x.toNat:Nat):Int)=x:=by omega
 have ht:(bC k n).take (j+1)=(bC k n).take j++[x]:=by rw[ah hj,hm]
 refine aFd (by omega) ?_ fun v hv hne=>?_
 .rw[af];rw[ht,e0];simp
 .have:(v:Int)≠x:=by omega
  have:(v:Int)∈(bC k n).take (j+1)↔(v:Int)∈(bC k n).take j:=by rw[ht];simp[this]
  simp only[this]
theorem aIy{k:List Int}{n v:Nat}(hv:v<n)(h:(v:Int)∉k):(v:Int)∈bC k n:=bc.2 ⟨v,b8.2 ⟨ba.2 hv,ct h⟩,rfl⟩
theorem aKm(k:List Int)(f:Nat->Int)(n:Nat):afB k f n (bC k n).length=(List.range n).map f:=by
 unfold afB;refine d7 fun v hv=>?_
 rw[af];rw[bh];by_cases h:(v:Int)∈k
 .exact .inl h
 .exact .inr (aIy (ba.1 hv) h)
theorem aH1{k:List Int}:∀{n j:Nat} (hj:j<(bC k n).length),cK k ((bC k n)[j]).toNat=j/\((bC k n)[j]).toNat<n/\((((bC k n)[j]).toNat:Nat):Int)∉k:=fun {n j} hj=>by
 obtain⟨i,i1,i2,i3⟩:=aCW (k:=k) (n:=n) (b:=j) hj;have:=aFu i1 i2
 rw[i3] at this;have e:(bC k n)[j]=(i:Int):=by rw[<-this];simp[hj]
 rw[e];simp only[bv];exact⟨i3,i1,i2⟩
structure BfA where
 i:Nat
 tok:Nat->Bool
 nt:Nat
structure BfB where
 i:Nat
 o:Own
 tok:Nat->Bool
 nt:Nat
abbrev Ov.row(o:Ov):List AV:=[.d (ints o.g.nodes),.d (AM.edges o.g.edges),.d (ints o.l.nodes),.d (ints o.l.edges),.d (ints o.r.nodes),.d (ints o.r.edges)]
abbrev aFn(g:Gr):List AV:=[.d (ints g.nodes),.d (AM.edges g.edges)]
def aGq(r:Ru)(f:Nat->Int)(n:Int):E:=⟨(r.lg.edges.getD n.toNat default).ty,f (r.lg.edges.getD n.toNat default).fr.toNat,f (r.lg.edges.getD n.toNat default).to.toNat⟩
def bfN(r:Ru)(i:Nat):List Int:=((bC r.k.nodes r.lg.nodes.length).take i).map fun n=>r.lg.nodes.getD n.toNat 0
def bfE(r:Ru)(f:Nat->Int)(i:Nat):List E:=((bC r.k.edges r.lg.edges.length).take i).map (aGq r f)
theorem aIc(r:Ru):bfN r 0=[]:=by simp[bfN]
theorem aHw(r:Ru)(f:Nat->Int):bfE r f 0=[]:=by simp[bfE]
theorem aKE{r:Ru}{i:Nat}(h:i<=(bC r.k.nodes r.lg.nodes.length).length):(bfN r i).length=i:=by unfold bfN;rw[br,cf];omega
theorem aJR{r:Ru}{f:Nat->Int}{i:Nat}(h:i<=(bC r.k.edges r.lg.edges.length).length):(bfE r f i).length=i:=by unfold bfE;rw[br,cf];omega
theorem aG8{r:Ru}{i:Nat}(h:i<(bC r.k.nodes r.lg.nodes.length).length)(q:((bC r.k.nodes r.lg.nodes.length)[i]).toNat<r.lg.nodes.length):bfN r (i+1)=bfN r i++[r.lg.nodes[((bC r.k.nodes r.lg.nodes.length)[i]).toNat]]:=by
 unfold bfN;rw[ah h,cw,List.map_singleton,show r.lg.nodes.getD ((bC r.k.nodes r.lg.nodes.length)[i]).toNat 0=r.lg.nodes[((bC r.k.nodes r.lg.nodes.length)[i]).toNat] by simp[q]]
theorem aHs{r:Ru}{f:Nat->Int}{i:Nat}(h:i<(bC r.k.edges r.lg.edges.length).length)(q:((bC r.k.edges r.lg.edges.length)[i]).toNat<r.lg.edges.length):bfE r f (i+1)=bfE r f i++[⟨r.lg.edges[((bC r.k.edges r.lg.edges.length)[i]).toNat].ty,f r.lg.edges[((bC r.k.edges r.lg.edges.length)[i]).toNat].fr.toNat,f r.lg.edges[((bC r.k.edges r.lg.edges.length)[i]).toNat].to.toNat⟩]:=by
 unfold bfE;rw[ah h,cw,List.map_singleton];unfold aGq;rw[show r.lg.edges.getD ((bC r.k.edges r.lg.edges.length)[i]).toNat default=r.lg.edges[((bC r.k.edges r.lg.edges.length)[i]).toNat] by simp[q]]
theorem aKZ(r:Ru):bfN r (bC r.k.nodes r.lg.nodes.length).length=(bC r.k.nodes r.lg.nodes.length).map fun n=>r.lg.nodes.getD n.toNat 0:=by unfold bfN;rw[bh]
theorem aKy(r:Ru)(f:Nat->Int):bfE r f (bC r.k.edges r.lg.edges.length).length=(bC r.k.edges r.lg.edges.length).map (aGq r f):=by unfold bfE;rw[bh]
def aLl(r:Ru)(o:Ov)(Z:Mo)(DN:List (List D))(DE:List (List D))(f:Nat->Int)(o1 o2:Own)(nb:Nat)(box:Bxs)(x:BfA):AS :=
 ⟨tl [(66,I x.i),(65,I r.k.nodes.length),(64,.d (ints r.k.nodes)),(12,.msl (nb+61) 0 r.lg.nodes.length 1),(11,.ptr (nb+11) 0 0),(9,.ptr (nb+9) 0 0),(7,.ptr (nb+7) 0 0),(4,.ptr (nb+4) 0 0),(3,.ptr (nb+3) 0 0),(2,.ptr (nb+2) 0 0)],
  lb nb box [(61,eE (afA r.k.nodes f r.lg.nodes.length x.i)),(11,[aFn r.lg]),(9,[[.osl 1 DN o1,.osl 3 DE o2]]),(7,[[.d (ints Z.nodes),.d (ints Z.edges)]]),(4,[[dL,dL]]),(3,[o.row]),(2,[r.row])],x.tok,x.nt⟩
def aLq(r:Ru)(Z:Mo)(DN:List Int)(DE:List (List D))(f:Nat->Int)(o2:Own)(nb:Nat)(box:Bxs)(x:BfB):AS :=
 ⟨tl [(97,I x.i),(96,I (bC r.k.nodes r.lg.nodes.length).length),(95,.d (ints (bC r.k.nodes r.lg.nodes.length))),(12,.msl (nb+61) 0 r.lg.nodes.length 1),(11,.ptr (nb+11) 0 0),(9,.ptr (nb+9) 0 0),(4,.ptr (nb+4) 0 0),(2,.ptr (nb+2) 0 0)],
  lb nb box [(61,eE (afB r.k.nodes f r.lg.nodes.length x.i)),(11,[aFn r.lg]),(9,[[.osl 1 (rI (DN++bfN r x.i)) x.o,.osl 3 DE o2]]),(4,[[dL,dL]]),(2,[r.row])],x.tok,x.nt⟩
def aLv(r:Ru)(DN:List Int)(DE:List E)(f:Nat->Int)(o1:Own)(nb:Nat)(box:Bxs)(x:BfB):AS :=
 ⟨tl [(126,I x.i),(125,I (bC r.k.edges r.lg.edges.length).length),(124,.d (ints (bC r.k.edges r.lg.edges.length))),(12,.msl (nb+61) 0 r.lg.nodes.length 1),(11,.ptr (nb+11) 0 0),(9,.ptr (nb+9) 0 0),(4,.ptr (nb+4) 0 0)],
  lb nb box [(61,eE ((List.range r.lg.nodes.length).map f)),(11,[aFn r.lg]),(9,[[.osl 1 (rI DN) o1,.osl 3 (rE (DE++bfE r f x.i)) x.o]]),(4,[[dL,dL]])],x.tok,x.nt⟩
set_option maxRecDepth 100000 in
theorem aFP(r:Ru)(hr:r.Fit)(o:Ov)(ho:o.Fit)(hs:aBp r.sp)(va:vG r.lg=0)(hm:Emb r.rg o.g o.l):DC 89 [r.av,o.av] (.tup [(lQ r o).1.av,B (lQ r o).2]):=by
 intro tok nt box nb;have s1:=zG r.i.nodes hr.i.n;have s2:=zG r.i.edges hr.i.e;have hi:VP r.rg (kpI r):=aBi hs.i
 have hC:=aPu r.rg o.g (kpI r) o.l hr.rg ho.g ho.l hi.emb.fit.1 hm hi;have eI:kpI r=⟨cP r.i.nodes,cP r.i.edges⟩:=aFE hs.i
 rw[eI] at hC;refine sI func89 ntmps89 fun Hb Ht=>?_
 repeat first|simp|refine sR ?_
 refine sD (s1 _ _) ?_;repeat first|simp|refine sR ?_
 refine sD (s2 _ _) ?_;repeat first|simp|refine sR ?_
 refine sD (hC _ _) ?_;simp;rw[<-eI];by_cases hd:jK o.g (kpI r) o.l=true
 .have e:uA r.rg o.g (kpI r) o.l=(⟨[],[]⟩,14):=af hd
  have e2:lQ r o=(⟨[],[]⟩,false):=af hd
  rw[e,e2];try (simp)
  repeat ((first|refine sR ?_|apply sC|apply sX);simp)
  refine sT (sH ?_);simp[ints,AM.edges]
 .have rz:jK o.g (kpI r) o.l=false:=by simpa using hd
  have e:uA r.rg o.g (kpI r) o.l=(eG r o,0):=ac hd
  have e2:lQ r o=(wI r o,true):=ac hd
  rw[e,e2];have vz:VP o.g (eG r o):=Sp.z_vp (s:=r.sp) hs hm rz
  have fz:=vz.emb.fit.1;obtain⟨bn,be⟩:=aLk (s:=r.sp) hs hm;have bn:yQ r.k.nodes r.i.nodes o.l.nodes (eG r o).nodes r.lg.nodes.length r.rg.nodes.length o.g.nodes.length:=bn
  have hx:=aDG o.g (eG r o) ho.g fz vz;have hG:wI r o=⟨(exG o.g (eG r o)).nodes++(bC r.k.nodes r.lg.nodes.length).map fun n=>r.lg.nodes.getD n.toNat 0,(exG o.g (eG r o)).edges++(bC r.k.edges r.lg.edges.length).map (aGq r (rV r o))⟩:=rfl
  have DW:(exG o.g (eG r o)).nodes.length=(eG r o).nodes.length:=by simp[exG]
  have Bj:(exG o.g (eG r o)).edges.length=(eG r o).edges.length:=by simp[exG]
  have jj:∀j (hj:j<r.k.nodes.length),(r.k.nodes[j]).toNat<r.lg.nodes.length/\aQ (eG r o).nodes (o.l.nodes.getD (r.i.nodes.getD j 0).toNat 0)=rV r o (r.k.nodes[j]).toNat:=fun j hj=>by
   have h1:=bn.kr _ (aa hj);have e0:(((r.k.nodes[j]).toNat:Nat):Int)=r.k.nodes[j]:=by omega
   have AN:aQ r.k.nodes r.k.nodes[j]=j:=by
    have:=aAk bn.kn hj
    rwa [show r.k.nodes.getD j 0=r.k.nodes[j] by simp[hj]] at this
   refine⟨by omega,?_⟩;unfold rV;rw[e0,af (aa hj),AN,bv]
  have u5:∀j (hj:j<(bC r.k.nodes r.lg.nodes.length).length),rV r o ((bC r.k.nodes r.lg.nodes.length)[j]).toNat=(((exG o.g (eG r o)).nodes.length+j:Nat):Int):=fun j hj=>by
   obtain⟨c1,c2,c3⟩:=aH1 hj;unfold rV;rw[ac c3];unfold cK at c1;rw[c1]
  rw[hG,<-aKZ,<-aKy];unfold QEx at hx;generalize rV r o=f at *;generalize hZ:eG r o=Z at *;generalize exG o.g Z=D0 at *;have lu:=hr.lg.n;have g9:=hr.lg.e;have gu:=hr.k.n;have Cs:=hr.k.e;have Ct:=fz.n;have DX:=fz.e;have yu:=aD va;try (simp)
  repeat ((first|refine sR ?_|apply sC|apply sX);simp)
  refine aT.of_a (hx _ _ _ _) ?_;rintro v m' ⟨o1,o2,iy,kv,rfl,rfl,jh⟩;try (simp)
  repeat ((first|refine sR ?_|apply sC|apply sX);simp)
  have vo:=fun v=>aFw Z.nodes v Ct
  refine⟨by omega,?_⟩;try (simp)
  repeat ((first|refine sR ?_|apply sC|apply sX);simp)
  apply sN;refine sL (aLl r o Z (rI D0.nodes) (rE D0.edges) f o1 o2 nb box) (fun x=>x.i<=r.k.nodes.length/\TK tok nt x.tok x.nt [o1,o2]) (fun x=>r.k.nodes.length-x.i) ⟨0,iy,kv⟩ ⟨ai _,jh⟩ (wM jh.le rfl (by simp[ToL,lk]) (by simp[aE,lk,aHI])) ?_;rintro⟨i,ib,io⟩ S ⟨hi,gw⟩ hS;simp only[aLl] at hS hi gw;subst hS;have hw:=sW (i:=i) (by omega);by_cases hlt:i<r.k.nodes.length
  .have lt2:i<r.i.nodes.length:=by rw[bn.lk];exact hlt
   have hy:=bn.sr _ (aa lt2);have Db:=hy.1;have un:r.i.nodes[i]<(o.l.nodes.length:Int):=by rw[bn.al];exact hy.2
   have Cu:r.i.nodes[i].toNat<o.l.nodes.length:=by omega
   have hA:=jj i hlt;have DY:aQ Z.nodes o.l.nodes[r.i.nodes[i].toNat]=f (r.k.nodes[i]).toNat:=by
    rw[<-hA.2];simp[lt2,Cu]
   obtain⟨Bd,p9⟩:=bn.kr _ (aa hlt);have hsuc:=aCp (f:=f) bn.kn bn.kr hlt;have hal:=aJr r.k.nodes f r.lg.nodes.length i;have kc:=aCp (f:=f) bn.kn bn.kr hlt;try (simp[hlt,lt2,Db,un,Cu])
   repeat ((first|refine sR ?_|apply sC|apply sX);simp[hlt,lt2,Db,un,Cu])
   refine sD (vo _ _ _) ?_;rw[DY];try (simp[Bd,p9,hal,hA.1,hw])
   repeat ((first|refine sR ?_|apply sC|apply sX);simp[Bd,p9,hal,hA.1,hw])
   apply sE;exact⟨⟨i+1,ib,io⟩,⟨hlt,gw⟩,by simp only;omega,wM gw.le rfl (by simp[ToL,lk]) (by simp[aE,lk,kc])⟩
  .have:i=r.k.nodes.length:=by omega
   subst this;have c1:=aAb r.k.nodes gu r.lg.nodes.length lu;try (simp)
   repeat ((first|refine sR ?_|apply sC|apply sX);simp)
   refine sD (c1 _ _) ?_;simp;try (simp)
   repeat ((first|refine sR ?_|apply sC|apply sX);simp)
   apply sN;refine sL (aLq r Z D0.nodes (rE D0.edges) f o2 nb box) (fun x=>x.i<=(bC r.k.nodes r.lg.nodes.length).length/\TK tok nt x.tok x.nt [x.o,o2]) (fun x=>(bC r.k.nodes r.lg.nodes.length).length-x.i) ⟨0,o1,ib,io⟩ ⟨ai _,gw⟩ (wM gw.le rfl (by simp[ToL,lk]) (by simp[aE,lk,aJu,aIc])) ?_;rintro⟨i,o3,i7,ka⟩ S ⟨hi,ig⟩ hS;simp only[aLq] at hS hi ig;subst hS;have ph:=mK r.k.nodes r.lg.nodes.length;have hw:=sW (i:=i) (by omega);by_cases hlt:i<(bC r.k.nodes r.lg.nodes.length).length
   .obtain⟨q0,q1⟩:=wW _ (aa hlt);have q2:((bC r.k.nodes r.lg.nodes.length)[i]).toNat<r.lg.nodes.length:=by omega
    have kc:=aHF (f:=f) hlt;rw[u5 i hlt,Int.natCast_add] at kc;have hal:=aKL r.k.nodes f r.lg.nodes.length i;have ht:=aG8 hlt q2;have hl2:=aKE hi;try (simp[hlt,q0,q1,q2,hal,hl2])
    repeat ((first|refine sR ?_|apply sC|apply sX);simp[hlt,q0,q1,q2,hal,hl2])
    refine⟨⟨by omega,ig.live⟩,?_⟩;try (simp[hw])
    repeat ((first|refine sR ?_|apply sC|apply sX);simp[hw])
    apply sE;exact⟨⟨i+1,_,_,_⟩,⟨hlt,ig.app⟩,by simp only;omega,wM ig.app.le rfl (by simp[ToL,lk]) (by simp[aE,lk,kc,ht])⟩
   .have:i=(bC r.k.nodes r.lg.nodes.length).length:=by omega
    subst this;have c2:=aAb r.k.edges Cs r.lg.edges.length g9;try (simp)
    repeat ((first|refine sR ?_|apply sC|apply sX);simp)
    refine sD (c2 _ _) ?_;simp;try (simp)
    repeat ((first|refine sR ?_|apply sC|apply sX);simp)
    apply sN;refine sL (aLv r (D0.nodes++bfN r (bC r.k.nodes r.lg.nodes.length).length) D0.edges f o3 nb box) (fun x=>x.i<=(bC r.k.edges r.lg.edges.length).length/\TK tok nt x.tok x.nt [x.o,o3]) (fun x=>(bC r.k.edges r.lg.edges.length).length-x.i) ⟨0,o2,i7,ka⟩ ⟨ai _,ig.swap⟩ (wM ig.le rfl (by simp[ToL,lk]) (by simp[aE,lk,aKm,aHw])) ?_;rintro⟨i,o4,tok4,nt4⟩ S ⟨hi,lr⟩ hS;simp only[aLv] at hS hi lr;subst hS;have Cv:=mK r.k.edges r.lg.edges.length;have hw:=sW (i:=i) (by omega);by_cases hlt:i<(bC r.k.edges r.lg.edges.length).length
    .obtain⟨q0,q1⟩:=wW _ (aa hlt);have q2:((bC r.k.edges r.lg.edges.length)[i]).toNat<r.lg.edges.length:=by omega
     have ht:=aHs (f:=f) hlt q2;have u3:=yu _ (aa q2);obtain⟨f1,f2,f3,f4⟩:=u3;have f5:r.lg.edges[((bC r.k.edges r.lg.edges.length)[i]).toNat].fr.toNat<r.lg.nodes.length:=by omega
     have f6:r.lg.edges[((bC r.k.edges r.lg.edges.length)[i]).toNat].to.toNat<r.lg.nodes.length:=by omega
     have hl2:=aJR (f:=f) hi;try (simp[hlt,q0,q1,q2])
     repeat ((first|refine sR ?_|apply sC|apply sX);simp[hlt,q0,q1,q2])
     try (simp[f1,f2,f3,f4,f5,f6,hl2])
     repeat ((first|refine sR ?_|apply sC|apply sX);simp[f1,f2,f3,f4,f5,f6,hl2])
     refine⟨⟨by omega,lr.live⟩,?_⟩;try (simp[hw])
     repeat ((first|refine sR ?_|apply sC|apply sX);simp[hw])
     apply sE;exact⟨⟨i+1,_,_,_⟩,⟨hlt,lr.app⟩,by simp only;omega,wM lr.app.le rfl (by simp[ToL,lk]) (by simp[aE,lk,ht])⟩
    .have:i=(bC r.k.edges r.lg.edges.length).length:=by omega
     subst this;try (simp)
     repeat ((first|refine sR ?_|apply sC|apply sX);simp)
     refine sT (sG Hb Ht lr.old lr.le ?_);simp[ints,AM.edges]
theorem aIh{t:Ty}{p g:Gr}{inj:Bool}(ht:t.Fit)(hp:p.Fit)(hg:g.Fit)(h:kO t p g=0):(zB t p g inj).Ok:=by
 have a:=aGZ (inj:=inj) ht hp hg h;exact⟨a.t,a.tp,a.p,a.g,ai _,a.vp,a.pn,a.pe,a.np,a.ng⟩
theorem aJM{t:Ty}{l:List Co}{g:Gr}:aDN t l g<l.length↔∃c∈l,pD t g c=true:=List.findIdx_lt_length
set_option maxRecDepth 100000 in
theorem aC7(t:Ty)(ht:t.Fit)(p g:Gr)(hp:p.Fit)(hg:g.Fit)(inj:Bool):DC 81 [t.av,p.av,g.av,B inj] (.tup [(xV t p g inj).1.av,I (xV t p g inj).2]):=by
 intro tok nt box nb;have hv:=aCL t ht p g hp hg;obtain⟨R,hR⟩:∃R,xV t p g inj=R:=⟨_,rfl⟩
 rw[hR];unfold xV at hR;refine sI func81 ntmps81 fun Hb Ht=>?_
 repeat first|simp|refine sR ?_
 refine sD (hv _ _) ?_;simp;by_cases c1:kO t p g=0
 .rw[ac (by simp[c1])] at hR;have gt:=aIh (inj:=inj) ht hp hg c1;have h0:tyE t=0:=(nF c1).1
  have o7:(zB t p g inj).Nl true:=⟨fun _ x hx=>ci hx,fun _ x hx=>ci hx⟩
  have zk:=aIT (zB t p g inj) gt h0 true o7 1 (by omega);have hL:(zB t p g inj).fnP 1 (zB t p g inj).p.nodes.length [] []=aMX t p g inj:=Sr.fnP_fnR gt
  unfold QFo at zk;rw[hL] at zk;try (simp[c1])
  repeat ((first|refine sR ?_|apply sC|apply sX);simp[c1])
  refine aT.sub (args':=[t.av,p.av,g.av,.agg [.d (.raw aJV),.d (.raw aJV)],B inj,I 1]) ⟨Sub.refl _,Sub.refl _,Sub.refl _,Sub.agg ⟨Sub.nilv,Sub.nilv,trivial⟩,Sub.refl _,Sub.refl _,trivial⟩ ?_;refine aT.of_a (zk _ _ _ _) ?_;generalize aMX t p g inj=L at *;rintro v m' ⟨own,ib,io,rfl,rfl,htk⟩;cases L with
  | nil =>
   try (simp)
   repeat ((first|refine sR ?_|apply sC|apply sX);simp)
   refine sT (sG Hb Ht htk.old htk.le ?_);simp[<-hR,hdM,ints]
  | cons m r =>
   have n1:¬((r.length:Int)+1=0):=by omega
   have n2:((r.length:Int)+1==0)=false:=by simpa using n1
   try (simp[n1,n2])
   repeat ((first|refine sR ?_|apply sC|apply sX);simp[n1,n2])
   refine sT (sG Hb Ht htk.old htk.le ?_);simp[<-hR,hdM,ints]
 .rw[af c1] at hR;try (simp[c1])
  repeat ((first|refine sR ?_|apply sC|apply sX);simp[c1])
  refine sT (sH ?_);simp[<-hR,ints]
structure aN9 (t:Ty) (r:Ru):Prop where
 sp:aBp r.sp
 hl:Lf t r.lg
 hr:Lf t r.rg
theorem aMM{t:Ty}{r:Ru}(ht:tyE t=0)(h:ruE t r=0):cN r=0/\dA t r.lg=true/\dA t r.rg=true:=by
 unfold ruE at h;split at h
 .rename_i h1;exact absurd h h1
 .rename_i h1;split at h
  .rename_i h2;split at h
   .rename_i h3;exact⟨by simpa using h1,h2,h3⟩
   .cases h
  .cases h
theorem aHE{t:Ty}{g:Gr}(ht:tyE t=0)(va:vG g=0)(h:dA t g=true):Lf t g:=by
 unfold dA at h;split at h
 .rename_i h1;have h1:=ax.1 h1;have h2:=ax.1 h;refine⟨ht,va,fun x hx=>?_,fun e he=>h2 e he⟩;have:=h1 x hx
  have h3:=(bE va).2.1 x hx;simp only[aZ,bd,au] at h3;unfold lvN at this;split at this
  .cases this
  .exact⟨by omega,this⟩
 .cases h
theorem aMU{t:Ty}{L:List Ru}{l:List Co}{d:Du}:d∈duL t L l L.length↔∃i k n:Nat,∃(hi:i<L.length) (hk:k<l.length) (hn:n<(cF t L[i] l[k]).1.length),d=⟨⟨i,k,n,(lQ L[i] (cF t L[i] l[k]).1[n]).1⟩,(lQ L[i] (cF t L[i] l[k]).1[n]).2⟩:=by
 unfold duL duK;simp only[List.mem_flatMap,ba];constructor
 .rintro⟨i,hi,k,hk,h⟩;unfold duC duW duN at h;rw[ab hi,ab hk] at h;simp only[bc,ba] at h;obtain⟨n,hn,rfl⟩:=h;refine⟨i,k,n,hi,hk,hn,?_⟩;simp[hn]
 .rintro⟨i,k,n,hi,hk,hn,rfl⟩;refine⟨i,hi,k,hk,?_⟩;unfold duC duW duN;rw[ab hi,ab hk];simp only[bc,ba];exact⟨n,hn,by simp[hn]⟩
theorem mT{t:Ty}{L:List Ru}{l:List Co}(h:gE t L l=0):tyE t=0/\(∀r∈L,ruE t r=0)/\(∀c∈l,cnE t c=0/\c.kind=1)/\L.length<=6/\l.length<=8:=by
 unfold gE at h;split at h
 .rename_i h1;exact absurd h h1
 rename_i h1;split at h
 .cases h
 rename_i h2;split at h
 .rename_i h3;exact absurd h h3
 rename_i h3;have h3:aA (qP t L) L.length=0:=by simpa using h3
 refine⟨by simpa using h1,fun r hr=>?_,fun c hc=>?_,by omega,by omega⟩
 .obtain⟨i,hi,rfl⟩:=bi hr;have:=dY _ h3 i hi
  unfold qP at this;rw[ab hi] at this;exact this
 .obtain⟨i,hi,rfl⟩:=bi hc;have:=dY _ h i hi
  unfold wA at this;rw[ab hi] at this;unfold coE at this;simp only at this;split at this
  .rename_i h4;exact absurd this h4
  .rename_i h4;split at this
   .rename_i h5;exact⟨by simpa using h4,h5⟩
   .cases this
theorem aHd{t:Ty}{r:Ru}(ht:tyE t=0)(h:ruE t r=0):aN9 t r:=by
 obtain⟨h1,h2,h3⟩:=aMM ht h;obtain⟨s,a,b⟩:=fZ h1;exact⟨s,aHE ht a h2,aHE ht b h3⟩
abbrev bV(l:List Co):D:=.sl 5 (rCo l)
def aLi(xs:List Co)(f:FuncId)(caps:List AV)(nb:Nat)(box:Bxs)(tok:Tks)(nt:Nat)(i:Nat):AS:=⟨tl [(0,.d (bV xs)),(1,.fn (.func f) caps),(7,I xs.length),(8,I i)],lb nb box [],tok,nt⟩
theorem xY(xs:List Co)(f:FuncId)(caps:List AV)(p:Co->Bool)(hx:xs.length<=1000000)(box:Bxs)(nb:Nat)(tok:Tks)(nt:Nat)(hc:∀c∈caps,bD (fun k=>box k≠none) (fun _=>True) c)(hf:∀x∈xs,∀box' nb',Ext box box'->aC prog f (x.av::caps) ⟨box',nb',tok,nt⟩ fun v m=>v=B (p x)/\m=⟨box',nb',tok,nt⟩):
  aC prog 134 [.d (bV xs),.fn (.func f) caps] ⟨box,nb,tok,nt⟩ fun v m=>v=I (if bA p xs=true then (xs.findIdx p:Nat) else -1)/\m=⟨box,nb,tok,nt⟩:=by
 refine sI func134 ntmps134 fun Hb Ht=>?_
 repeat first|simp|refine sR ?_
 apply sN;refine sL (aLi xs f caps nb box tok nt) (fun i=>i<=xs.length/\∀x∈xs.take i,p x=false) (fun i=>xs.length-i) 0 ⟨ai _,by simp⟩ (wM (nr0 _) rfl (by simp[ToL];exact .same (kV hc Hb [] (by simp) rfl _)) trivial) ?_;rintro i S' ⟨hi,htk⟩ hS;simp only[aLi] at hS;subst hS;have hw:=sW (i:=i) (by omega);repeat first|simp|refine sR ?_|apply sC
 refine⟨fun hlt=>?_,fun hge=>?_⟩
 .have qu:=hf xs[i] (aa _);have v7:p xs[i]=true->bA p xs=true/\(xs.findIdx p=i):=fun he=>jU hlt htk he
  have lm:p xs[i]=false->∀x∈xs.take (i+1),p x=false:=fun he x hx=>by
   rw[ah hlt] at hx;rcases ap.1 hx with hx|hx
   .exact htk x hx
   .simp at hx;rw[hx];exact he
  repeat first|simp[hlt]|refine sR ?_
  generalize xs[i]=x at *;refine aT.of_b (qu _ _ ((Ext.refl box).lb Hb [])) ?_;simp;cases he:p x
  .apply sC;simp;repeat first|simp[hw]|refine sR ?_
   apply sE;refine⟨i+1,⟨hlt,?_⟩,by omega,wM (nr0 _) rfl (by simp[ToL];exact .same (kV hc Hb [] (by simp) rfl _)) trivial⟩;exact lm he
  .obtain⟨h1,h2⟩:=v7 he;apply sC;repeat first|simp|refine sR ?_
   refine sT (sH ?_);simp[h1,h2]
 .have hn:bA p xs=false:=by
   rw[ak hge] at htk;simpa[bA] using htk
  apply sX;simp only[AU,↓reduceIte];repeat first|simp|refine sR ?_
  refine sT (sH ?_);simp[hn]
theorem rG(xs:List Co)(f:FuncId)(caps:List AV)(p:Co->Bool)(hx:xs.length<=1000000)(box:Bxs)(nb:Nat)(tok:Tks)(nt:Nat)(hc:∀c∈caps,bD (fun k=>box k≠none) (fun _=>True) c)(hf:∀x∈xs,∀box' nb',Ext box box'->aC prog f (x.av::caps) ⟨box',nb',tok,nt⟩ fun v m=>v=B (p x)/\m=⟨box',nb',tok,nt⟩):
  aC prog 85 [.d (bV xs),.fn (.func f) caps] ⟨box,nb,tok,nt⟩ fun v m=>v=B (bA p xs)/\m=⟨box,nb,tok,nt⟩:=by
 obtain⟨A,jr⟩:∃A,bA p xs=A:=⟨_,rfl⟩
 have hi:=fun b nb' h1 h2=>xY xs f caps p hx b nb' tok nt h1 h2
 rw[jr];simp only[jr] at hi;refine sI func85 ntmps85 fun Hb Ht=>?_
 repeat first|simp|refine sR ?_
 refine aT.of_b (hi (lb nb box []) _ (fun c h=>(hc c h).mono (fun k hk=>by rw[Hb];exact hk) fun _ h=>h) (fun x qf box' nb' he=>hf x qf box' nb' (by rw[Hb] at he;exact he))) ?_;simp;cases A
 .repeat first|simp|refine sR ?_
  refine sT (sH ?_);simp
 .have h0:(0:Int)<=(xs.findIdx p:Nat):=by omega
  repeat first|simp|refine sR ?_
  refine sT (sH ?_);simp[h0]
def emC:Co:=⟨⟨#[101,109,112,116,121]⟩,1,⟨[],[]⟩,[]⟩
theorem aMe{t:Ty}(h:tyE t=0):cnE t emC=0:=by
 have hs:kT emC=0:=by decide +kernel
 have hl:lvX t emC=true:=by
  unfold lvX dA;rfl
 unfold cnE;rw[ac (by simp[h]),ac (by simp[hs]),af hl]
theorem aHV{b:Gr}(hb:vG b=0):(oR b ⟨[],[]⟩).2=0:=by
 have hl:=(bE hb).1;have h2:=vN b ⟨[],[]⟩ 0 [] [];have h2:(ovN b ⟨[],[]⟩ (Gr.mk [] []).nodes.length [] []).length<=1:=by simpa using h2
 unfold oR;rw[ac (by simp[hb]),ac (by decide),ac (by simp;omega),ac (by omega)]
theorem aK2{t:Ty}{r:Ru}(h:tyE t=0):(cF t r emC).2=ruE t r:=by
 unfold cF qK ruE;rw[aMe h];by_cases h1:cN r=0
 .have hv:=(fZ h1).2.2;cases e1:dA t r.lg<;>cases e2:dA t r.rg<;>simp[h,h1,emC,aHV hv]
 .simp[h,h1]
theorem aKu:emC.Fit:=⟨by decide,⟨by decide,by decide⟩,by decide,fun x hx=>absurd hx (by simp[emC])⟩
theorem uQ{L:List Ru}{i:Nat}(h:i<L.length):(L.map Ru.rowK)[i]?=some L[i].rowK:=by simp[h]
abbrev fQ(t:Ty):List AV:=[.d (nts t.nodes),.d (ets t.edges)]
def aOi(t:Ty)(L:List Ru)(l:List Co)(nb:Nat)(box:Bxs)(tok:Tks)(nt:Nat)(i:Nat):AS :=
 ⟨tl [(34,I i),(33,I L.length),(32,.d (fF L)),(2,.d (bV l)),(3,.ptr (nb+3) 0 0)],lb nb box [(3,[fQ t])],tok,nt⟩
def aOK(t:Ty)(l:List Co)(nb:Nat)(box:Bxs)(tok:Tks)(nt:Nat)(i:Nat):AS :=
 ⟨tl [(51,I i),(50,I l.length),(49,.d (bV l)),(3,.ptr (nb+3) 0 0)],lb nb box [(3,[fQ t])],tok,nt⟩
structure cA (t:Ty) (L:List Ru) (l:List Co):Prop where
 t:t.Fit
 L:∀r∈L,r.Fit
 l:∀c∈l,c.Fit
theorem aHj{t:Ty}{L:List Ru}{l:List Co}{i:Nat}{e:Int}(h0:tyE t=0)(h1:¬(6<L.length∨8<l.length))(h2:aA (qP t L) i=0)(hi:i<L.length)(he:ruE t L[i]=e)(hne:e≠0):gE t L l=e:=by
 have ha:qP t L i=e:=by unfold qP;rw[ab hi];exact he
 have:=aK h2 (by rw[ha];exact hne) L.length hi
 unfold gE;rw[ac (by simp[h0]),ac h1,this,ha,af hne]
theorem aIe{t:Ty}{L:List Ru}{l:List Co}{i:Nat}{e:Int}(h0:tyE t=0)(h1:¬(6<L.length∨8<l.length))(hr:aA (qP t L) L.length=0)(h2:aA (wA t l) i=0)(hi:i<l.length)(he:coE t l[i]=e)(hne:e≠0):gE t L l=e:=by
 have ha:wA t l i=e:=by unfold wA;rw[ab hi];exact he
 have:=aK h2 (by rw[ha];exact hne) l.length hi
 unfold gE;rw[ac (by simp[h0]),ac h1,ac (by simp[hr]),this,ha]
set_option maxRecDepth 100000 in
theorem aII(t:Ty)(L:List Ru)(l:List Co)(h:cA t L l)(hL:L.length<=1000000)(hl:l.length<=1000000):DC 76 [t.av,.d (fF L),.d (bV l)] (I (gE t L l)):=by
 intro tok nt box nb;have hv:=lW t h.t h.t.hM;obtain⟨R,hR⟩:∃R,gE t L l=R:=⟨_,rfl⟩
 rw[hR];refine sI func76 ntmps76 fun Hb Ht=>?_
 repeat first|simp|refine sR ?_
 refine sD (hv _ _) ?_;simp;by_cases e0:tyE t=0
 case neg =>
  have:R=tyE t:=by rw[<-hR];unfold gE;rw[af e0]
  subst this;try (simp[e0])
  repeat ((first|refine sR ?_|apply sC|apply sX);simp[e0])
  refine sT (sH ?_);simp
 by_cases c1:6<L.length
 .have:R=3:=by rw[<-hR];unfold gE;rw[ac (by simp[e0]),af (.inl c1)]
  subst this;have b1:(6:Int)<L.length:=by omega
  try (simp[e0,b1])
  repeat ((first|refine sR ?_|apply sC|apply sX);simp[e0,b1])
  refine sT (sH ?_);simp
 by_cases c2:8<l.length
 .have:R=3:=by rw[<-hR];unfold gE;rw[ac (by simp[e0]),af (.inr c2)]
  subst this;have b1:¬(6:Int)<L.length:=by omega
  have b2:(8:Int)<l.length:=by omega
  try (simp[e0,b1,b2])
  repeat ((first|refine sR ?_|apply sC|apply sX);simp[e0,b1,b2])
  refine sT (sH ?_);simp
 have b1:¬(6:Int)<L.length:=by omega
 have b2:¬(8:Int)<l.length:=by omega
 have hc:¬(6<L.length∨8<l.length):=by omega
 try (simp[e0,b1,b2])
 repeat ((first|refine sR ?_|apply sC|apply sX);simp[e0,b1,b2])
 apply sN;refine sL (aOi t L l nb box tok nt) (fun i=>i<=L.length/\aA (qP t L) i=0) (fun i=>L.length-i) 0 ⟨ai _,rfl⟩ wkA ?_;rintro i S ⟨hi,gt⟩ hS;simp only[aOi] at hS;subst hS;have hw:=sW (i:=i) (by omega);by_cases hlt:i<L.length
 .have hg:=fun {e:Int} he hne=>aHj (l:=l) (e:=e) e0 hc gt hlt he hne
  have kw:=h.L _ (aa hlt);have jj:qP t L i=ruE t L[i]:=by unfold qP;rw[ab hlt]
  have gx:=uQ hlt;have u0:=aFm t h.t L[i] kw emC aKu;have Bl:=aK2 (r:=L[i]) e0;obtain⟨W,hW⟩:∃W,cF t L[i] emC=W:=⟨_,rfl⟩
  rw[hW] at u0 Bl;try (simp[hlt,gx,Ru.rowK])
  repeat ((first|refine sR ?_|apply sC|apply sX);simp[hlt,gx,Ru.rowK])
  refine aT.sub (args':=[t.av,L[i].av,emC.av]) ⟨Sub.refl _,Sub.refl _,Sub.agg ⟨Sub.refl _,Sub.refl _,Sub.nil _ _ _,Sub.nil _ _ _,Sub.nil _ _ _,trivial⟩,trivial⟩ ?_;refine sD (u0 _ _) ?_;simp;by_cases e1:W.2=0
  .rw[e1] at Bl;try (simp[e1,hw])
   repeat ((first|refine sR ?_|apply sC|apply sX);simp[e1,hw])
   apply sE;refine⟨i+1,⟨hlt,?_⟩,by omega,wkA⟩;simp only[aA,gt,jj,↓reduceIte,<-Bl]
  .have hb:(W.2 != 0)=true:=by simp[e1]
   have:=hg Bl.symm e1
   rw[hR] at this;subst this;try (simp[hb])
   repeat ((first|refine sR ?_|apply sC|apply sX);simp[hb])
   refine sT (sH ?_);simp
 .have:i=L.length:=by omega
  subst this;try (simp)
  repeat ((first|refine sR ?_|apply sC|apply sX);simp)
  apply sN;refine sL (aOK t l nb box tok nt) (fun i=>i<=l.length/\aA (wA t l) i=0) (fun i=>l.length-i) 0 ⟨ai _,rfl⟩ wkA ?_;rintro j S ⟨hj,ou⟩ hS;simp only[aOK] at hS;subst hS;have hw:=sW (i:=j) (by omega);by_cases hlt:j<l.length
  .have hg:=fun {e:Int} he hne=>aIe (e:=e) e0 hc gt ou hlt he hne
   have td:=h.l _ (aa hlt);have jj:wA t l j=coE t l[j]:=by unfold wA;rw[ab hlt]
   have gx:l[j]?=some l[j]:=ab hlt
   have zd:=aDb t h.t l[j] td;try (simp[hlt,gx])
   repeat ((first|refine sR ?_|apply sC|apply sX);simp[hlt,gx])
   refine sD (zd _ _) ?_;simp;by_cases e1:cnE t l[j]=0
   .by_cases e2:l[j].kind=1
    .have hz:coE t l[j]=0:=by unfold coE;rw[ac (by simp[e1]),af e2]
     try (simp[e1,e2,hw])
     repeat ((first|refine sR ?_|apply sC|apply sX);simp[e1,e2,hw])
     apply sE;refine⟨j+1,⟨hlt,?_⟩,by omega,wkA⟩;simp only[aA,ou,jj,↓reduceIte,hz]
    .have b3:(l[j].kind != 1)=true:=by simp[e2]
     have:=hg (show coE t l[j]=8 by unfold coE;rw[ac (by simp[e1]),ac e2]) (by decide)
     rw[hR] at this;subst this;try (simp[e1,b3])
     repeat ((first|refine sR ?_|apply sC|apply sX);simp[e1,b3])
     refine sT (sH ?_);simp
   .have b3:(cnE t l[j] != 0)=true:=by simp[e1]
    have:=hg (show coE t l[j]=cnE t l[j] by unfold coE;rw[af e1]) e1
    rw[hR] at this;subst this;try (simp[b3])
    repeat ((first|refine sR ?_|apply sC|apply sX);simp[b3])
    refine sT (sH ?_);simp
  .have:j=l.length:=by omega
   subst this;have:R=0:=by
    rw[<-hR];unfold gE;rw[ac (by simp[e0]),ac hc,ac (by simp[gt]),ou]
   subst this;try (simp)
   repeat ((first|refine sR ?_|apply sC|apply sX);simp)
   refine sT (sH ?_);simp
def aLa(xs:List Int)(v:Int)(nb:Nat)(box:Bxs)(tok:Tks)(nt:Nat)(i:Nat):AS:=⟨tl [(0,.d (ints xs)),(1,I v),(5,I i)],lb nb box [],tok,nt⟩
theorem rJ(xs:List Int)(v:Int)(hx:xs.length<=1000000):DC 148 [.d (ints xs),I v] (I (aQ xs v)):=by
 intro tok nt box nb;refine sI func148 ntmps148 fun Hb Ht=>?_
 refine sR ?_;simp;refine sR ?_;simp;apply sN;refine sL (aLa xs v nb box tok nt) (fun i=>i<=xs.length/\v∉xs.take i) (fun i=>xs.length-i) 0 ⟨ai _,by simp⟩ (wM (nr0 _) rfl (by simp[ToL]) trivial) ?_;rintro i S ⟨hi,htk⟩ hS;simp only[aLa] at hS;subst hS;have hw:=sW (i:=i) (by omega);refine sR ?_;simp;apply sC;simp;refine⟨fun hlt=>?_,fun hge=>?_⟩
 .have px:xs=xs.take i++xs[i]::xs.drop (i+1):=by simp
  refine sR ?_;simp[hlt];apply sC;simp;refine⟨fun he=>?_,fun hne=>?_⟩
  .refine sR ?_;simp;have i5:v∈xs:=by rw[<-he];exact aa _
   have yd:xs.idxOf v=i:=by
    unfold List.idxOf;rw[fw hlt];refine⟨by simp[he],fun j hj=>?_⟩;have:xs[j]≠v:=fun e=>htk (by rw[<-e,cm];exact⟨j,by omega,rfl⟩)
    simpa using this
   refine sT (sH ?_);simp[aQ,i5,yd]
  .refine sR ?_;simp[hw];apply sE;refine⟨i+1,⟨hlt,?_⟩,by omega,wM (nr0 _) rfl (by simp[ToL]) trivial⟩;rw[ah hlt];simp only[ap,a7,not_or];exact⟨htk,fun e=>hne e.symm⟩
 .apply sX;simp only[AU,↓reduceIte];refine sR ?_;simp;have hn:v∉xs:=by rwa [ak hge] at htk
  refine sT (sH ?_);simp[aQ,hn]
theorem aFy(xs:List Int)(v:Int)(hx:xs.length<=1000000):DC 149 [.d (ints xs),I v] (B (decide (v∈xs))):=by
 intro tok nt box nb;have c1:=rJ xs v hx;have h:=oK xs v;refine sI func149 ntmps149 fun Hb Ht=>?_
 repeat first|simp|refine sR ?_
 refine sD (c1 _ _) ?_;repeat first|simp|refine sR ?_
 refine sT (sH ?_);simp[h]
theorem aJb(l:List Int)(i:Nat):lR l (i+1)=lR l i++if (i:Int)∈l then [(i:Int)] else []:=by
 unfold lR;rw[cu,dj,cw];by_cases h:(i:Int)∈l<;>simp[h]
theorem aFD(l:List Int)(n:Nat):(lR l n).length<=n:=by
 unfold lR;rw[br];exact bz (di _ _) (by simp)
def aHP(l:List Int)(n:Nat)(nb:Nat)(box:Bxs)(x:Acc):AS:=⟨tl [(6,I x.i),(0,I n),(5,.osl 1 (rI (lR l x.i)) x.own),(1,.d (ints l))],lb nb box [],x.tok,x.nt⟩
theorem vC(n:Nat)(hn:n<=1000000)(l:List Int)(hl:l.length<=1000000):DC 146 [I n,.d (ints l)] (.d (ints (lR l n))):=by
 intro tok nt box nb;refine sI func146 ntmps146 fun Hb Ht=>?_
 repeat first|simp|refine sR ?_
 apply sN;refine sL (aHP l n nb box) (fun x=>x.i<=n/\TK tok nt x.tok x.nt [x.own]) (fun x=>n-x.i) ⟨0,.full,tok,nt⟩ ⟨ai _,(TK.start Ht).full⟩ (wM (nr0 _) rfl (by simp[ToL,lk,lR]) (by simp[aE,lk])) ?_;rintro⟨i,own,tok',nt'⟩ S ⟨hi,htk⟩ hS;simp only[aHP] at hS hi htk;subst hS;have hw:=sW (i:=i) (by omega);have hs:=aJb l i;have ph:=aFD l i;by_cases hlt:i<n
 .have c1:=aFy l (i:Int) hl;try (simp[hlt])
  repeat ((first|refine sR ?_|apply sC|apply sX);simp[hlt])
  refine sD (c1 _ _) ?_;simp;by_cases e:(i:Int)∈l
  .rw[af e] at hs;try (simp[e])
   repeat ((first|refine sR ?_|apply sC|apply sX);simp[e])
   refine⟨⟨by omega,htk.live⟩,?_⟩;try (simp[hw])
   repeat ((first|refine sR ?_|apply sC|apply sX);simp[hw])
   apply sE;exact⟨⟨i+1,_,_,_⟩,⟨hlt,htk.app⟩,by simp only;omega,wM htk.app.le rfl (by simp[ToL,lk,hs]) (by simp[aE,lk])⟩
  .rw[ac e,c9] at hs;try (simp[e,hw])
   repeat ((first|refine sR ?_|apply sC|apply sX);simp[e,hw])
   apply sE;exact⟨⟨i+1,_,_,_⟩,⟨hlt,htk⟩,by simp only;omega,wM htk.le rfl (by simp[ToL,lk,hs]) (by simp[aE,lk])⟩
 .have:i=n:=by omega
  subst this;try (simp)
  repeat ((first|refine sR ?_|apply sC|apply sX);simp)
  refine sT (sG Hb Ht htk.old htk.le ?_);simp
def aLR(g:Gr)(p:Mo)(kp:Own)(nb:Nat)(box:Bxs)(x:Acc):AS :=
 ⟨tl [(10,I x.i),(8,.ptr (nb+8) 0 0),(5,.ptr (nb+5) 0 0),(4,.ptr (nb+4) 0 0),(3,.ptr (nb+3) 0 0),(2,.ptr (nb+2) 0 0)],
  lb nb box [(8,[[.osl 1 (rI (iH g p p.nodes.length)) kp,.osl 3 (rE (jZ g p x.i)) x.own]]),(3,[[.d (ints p.nodes),.d (ints p.edges)]]),(2,[[.d (ints g.nodes),.d (AM.edges g.edges)]]),(5,[[dL,dL]]),(4,[[dL,dL]])],x.tok,x.nt⟩
theorem aDc(g:Gr)(p:Mo)(hg:g.Fit)(hp:p.Fit)(h:VP g p)(box:Bxs)(nb:Nat)(tok:Tks)(nt:Nat):aC prog 98 [g.av,p.av] ⟨box,nb,tok,nt⟩ (QEx g p box nb tok nt):=by
 have h1:=nJ g p hg hp;rw[h.v] at h1;refine sI func98 ntmps98 fun Hb Ht=>?_
 repeat first|simp|refine sR ?_
 refine sD (h1 _ _) ?_;repeat first|simp|refine sR ?_
 apply sC;repeat first|simp|refine sR ?_
 apply sN;have v6:=hp.n;have s8:=hp.e;refine sL (aE9 g p nb box) (fun x=>x.i<=p.nodes.length/\TK tok nt x.tok x.nt [x.own]) (fun x=>p.nodes.length-x.i) ⟨0,.full,tok,nt⟩ ⟨ai _,(TK.start Ht).full⟩ (wM (nr0 _) rfl (by simp[ToL,lk]) (by simp[aE,lk,kZ])) ?_;rintro⟨i,own,tok',nt'⟩ S ⟨hi,htk⟩ hS;simp only[aE9] at hS hi htk;subst hS;have hw:=sW (i:=i) (by omega);repeat first|simp|refine sR ?_|apply sC
 refine⟨fun hlt=>?_,fun hge=>?_⟩
 .obtain⟨r1,r2⟩:=h.n _ (aa hlt);have r3:p.nodes[i].toNat<g.nodes.length:=by omega
  refine sR ?_;simp[hlt,r1,r2,r3];refine⟨⟨by have:=nN g p i;omega,htk.live⟩,?_⟩;repeat first|simp[hw]|refine sR ?_
  apply sE;exact⟨⟨i+1,_,_,_⟩,⟨hlt,htk.app⟩,by simp only;omega,wM htk.app.le rfl (by simp[ToL,lk]) (by simp[aE,lk,kW g p hlt,r3])⟩
 .apply sX;simp only[AU,↓reduceIte];have:i=p.nodes.length:=by omega
  subst this;repeat first|simp|refine sR ?_
  apply sN;refine sL (aLR g p own nb box) (fun x=>x.i<=p.edges.length/\TK tok nt x.tok x.nt [x.own,own]) (fun x=>p.edges.length-x.i) ⟨0,.full,tok',nt'⟩ ⟨ai _,htk.full⟩ (wM htk.le rfl (by simp[ToL,lk]) (by simp[aE,lk,kR])) ?_;rintro⟨i,ie,ib,io⟩ S ⟨hi,gw⟩ hS;simp only[aLR] at hS hi gw;subst hS;have hw:=sW (i:=i) (by omega);have hh:=fun v=>aAr p.nodes v hp.n
  repeat first|simp|refine sR ?_|apply sC
  refine⟨fun hlt=>?_,fun hge=>?_⟩
  .obtain⟨r1,r2⟩:=h.e _ (aa hlt);have r3:p.edges[i].toNat<g.edges.length:=by omega
   have hE:qQ g p p.edges[i]=⟨g.edges[p.edges[i].toNat].ty,aQ p.nodes g.edges[p.edges[i].toNat].fr,aQ p.nodes g.edges[p.edges[i].toNat].to⟩:=by
    have q2:g.edges.getD p.edges[i].toNat default=g.edges[p.edges[i].toNat]:=by simp[r3]
    rw[qQ,q2]
   have kc:=kQ g p hlt;rw[hE] at kc;apply sN;refine AL.region2 cC (nr0 _) (by kernel_rfl) (rF.of (by simp)) ?_;simp[hlt,r1,r2,r3];generalize g.edges[p.edges[i].toNat]=x at *;refine sR ?_;simp;refine sD (hh _ _ _) ?_;simp;refine sD (hh _ _ _) ?_;simp;refine⟨⟨by have:=nI g p i;omega,gw.live⟩,?_⟩;repeat first|simp[hw]|refine sR ?_
   apply sE;exact⟨⟨i+1,_,_,_⟩,⟨hlt,gw.app⟩,by simp only;omega,wM gw.app.le rfl (by simp[ToL,lk]) (by simp[aE,lk,kc])⟩
  .apply sX;simp only[AU,↓reduceIte];have:i=p.edges.length:=by omega
   subst this;repeat first|simp|refine sR ?_
   refine⟨by omega,by omega,?_⟩;have ig:=(gw.full.app.full.app).tail.tail.swap;have hG:=aAE g p;refine sT ?_;try simp only[AU]
   exact⟨by simp,(Fin.gen (av:=.tup [.agg [.osl 1 (rI (exG g p).nodes) own,.osl 3 (rE (exG g p).edges) ie],p.av,I 0]) (by simp[aV,bQ];rfl) Hb ig.le (nr0 _) (fun t h=>⟨h,.inl rfl⟩) (fun k rows _ h=>.inl h) (by simp[hG])).mono fun v m hq=>⟨own,ie,_,_,hq.1,hq.2,ig⟩⟩
structure BfC where
 i:Nat
 o:Own
 q:Own
 tok:Nat->Bool
 nt:Nat
def iG(r:Ru)(i:Nat):List Int:=(bC r.k.nodes i).map fun n=>r.lg.nodes.getD n.toNat 0
def mI(r:Ru)(f:Nat->Int)(i:Nat):List E:=(bC r.k.edges i).map (aGq r f)
def rgF(f:Nat->Int)(i:Nat):List Int:=(List.range i).map f
theorem yS{α:Type}(h:Int->α)(k:List Int)(i:Nat):(bC k (i+1)).map h=(bC k i).map h++if (i:Int)∈k then [] else [h i]:=by
 rw[aB4,cw];by_cases e:(i:Int)∈k<;>simp[e]
theorem aKJ{r:Ru}{i:Nat}(h:i<r.lg.nodes.length):iG r (i+1)=iG r i++if (i:Int)∈r.k.nodes then [] else [r.lg.nodes[i]]:=by
 unfold iG;rw[yS];simp[h]
theorem aJm{r:Ru}{f:Nat->Int}{i:Nat}(h:i<r.lg.edges.length):mI r f (i+1)=mI r f i++if (i:Int)∈r.k.edges then [] else [⟨r.lg.edges[i].ty,f r.lg.edges[i].fr.toNat,f r.lg.edges[i].to.toNat⟩]:=by
 unfold mI;rw[yS];simp[h,aGq]
theorem aJz(r:Ru):iG r 0=[]:=rfl
theorem aJj(r:Ru)(f:Nat->Int):mI r f 0=[]:=rfl
theorem aHu(f:Nat->Int):rgF f 0=[]:=rfl
theorem aHo(f:Nat->Int)(i:Nat):rgF f (i+1)=rgF f i++[f i]:=by unfold rgF;rw[cu,cw];rfl
theorem aE5(f:Nat->Int)(i:Nat):(rgF f i).length=i:=by simp[rgF]
theorem aEU{f:Nat->Int}{n i:Nat}(h:i<(rgF f n).length):(rgF f n)[i]=f i:=by simp[rgF]
theorem aI2(r:Ru)(i:Nat):(iG r i).length=(bC r.k.nodes i).length:=by simp[iG]
theorem aJC(r:Ru)(i:Nat):(iG r i).length<=i:=by rw[aI2];exact mK _ _
theorem aKi(r:Ru)(f:Nat->Int)(i:Nat):(mI r f i).length<=i:=by unfold mI;rw[br];exact mK _ _
def aO7(r:Ru)(o:Ov)(Z:Mo)(DN:List Int)(DE:List (List D))(f:Nat->Int)(o2:Own)(nb:Nat)(box:Bxs)(x:BfC):AS :=
 ⟨tl [(14,I x.i),(13,.osl 1 (rI (rgF f x.i)) x.o),(10,.ptr (nb+10) 0 0),(8,.ptr (nb+8) 0 0),(4,.ptr (nb+4) 0 0),(3,.ptr (nb+3) 0 0),(2,.ptr (nb+2) 0 0)],
  lb nb box [(10,[[.osl 1 (rI (DN++iG r x.i)) x.q,.osl 3 DE o2]]),(8,[[.d (ints Z.nodes),.d (ints Z.edges)]]),(4,[[dL,dL]]),(3,[o.row]),(2,[r.row])],x.tok,x.nt⟩
def aO2(r:Ru)(DN:List Int)(DE:List E)(f:Nat->Int)(nb:Nat)(box:Bxs)(x:BfB):AS :=
 ⟨tl [(16,I x.i),(13,.d (ints (rgF f r.lg.nodes.length))),(10,.ptr (nb+10) 0 0),(4,.ptr (nb+4) 0 0),(2,.ptr (nb+2) 0 0)],
  lb nb box [(10,[[.d (ints DN),.osl 3 (rE (DE++mI r f x.i)) x.o]]),(4,[[dL,dL]]),(2,[r.row])],x.tok,x.nt⟩
set_option maxRecDepth 100000 in
theorem aDv(r:Ru)(hr:r.Fit)(o:Ov)(ho:o.Fit)(hs:aBp r.sp)(va:vG r.lg=0)(hm:Emb r.rg o.g o.l):DC 92 [r.av,o.av] (.tup [(lQ r o).1.av,B (lQ r o).2]):=by
 intro tok nt box nb;have s1:=vC r.rg.nodes.length hr.rg.n r.i.nodes hr.i.n;have s2:=vC r.rg.edges.length hr.rg.e r.i.edges hr.i.e;have hi:VP r.rg (kpI r):=aBi hs.i
 have hC:=aMJ r.rg o.g (kpI r) o.l hr.rg ho.g ho.l hi.emb.fit.1 hm hi;have eI:kpI r=⟨lR r.i.nodes r.rg.nodes.length,lR r.i.edges r.rg.edges.length⟩:=rfl
 rw[eI] at hC;refine sI func92 ntmps92 fun Hb Ht=>?_
 repeat first|simp|refine sR ?_
 refine sD (s1 _ _) ?_;repeat first|simp|refine sR ?_
 refine sD (s2 _ _) ?_;repeat first|simp|refine sR ?_
 refine sD (hC _ _) ?_;simp;rw[<-eI];by_cases hd:jK o.g (kpI r) o.l=true
 .have e:uA r.rg o.g (kpI r) o.l=(⟨[],[]⟩,14):=af hd
  have e2:lQ r o=(⟨[],[]⟩,false):=af hd
  rw[e,e2];try (simp)
  repeat ((first|refine sR ?_|apply sC|apply sX);simp)
  refine sT (sH ?_);simp[ints,AM.edges]
 .have rz:jK o.g (kpI r) o.l=false:=by simpa using hd
  have e:uA r.rg o.g (kpI r) o.l=(eG r o,0):=ac hd
  have e2:lQ r o=(wI r o,true):=ac hd
  rw[e,e2];have vz:VP o.g (eG r o):=Sp.z_vp (s:=r.sp) hs hm rz
  have fz:=vz.emb.fit.1;obtain⟨bn,be⟩:=aLk (s:=r.sp) hs hm;have bn:yQ r.k.nodes r.i.nodes o.l.nodes (eG r o).nodes r.lg.nodes.length r.rg.nodes.length o.g.nodes.length:=bn
  have hx:=aDc o.g (eG r o) ho.g fz vz;have hG:wI r o=⟨(exG o.g (eG r o)).nodes++iG r r.lg.nodes.length,(exG o.g (eG r o)).edges++mI r (rV r o) r.lg.edges.length⟩:=rfl
  have DW:(exG o.g (eG r o)).nodes.length=(eG r o).nodes.length:=by simp[exG]
  have Bj:(exG o.g (eG r o)).edges.length=(eG r o).edges.length:=by simp[exG]
  have i6:∀j:Nat,(j:Int)∈r.k.nodes->∃q:Nat,aQ r.k.nodes j=q/\q<r.i.nodes.length/\(r.i.nodes.getD q 0).toNat<o.l.nodes.length/\0<=r.i.nodes.getD q 0/\rV r o j=aQ (eG r o).nodes (o.l.nodes.getD (r.i.nodes.getD q 0).toNat 0):=fun j hj=>by
   have h1:=fC hj;have h2:(aQ r.k.nodes j).toNat<r.i.nodes.length:=by rw[bn.lk];omega
   have h3:=bn.sr _ (aO (d:=0) h2);refine⟨(aQ r.k.nodes j).toNat,by omega,h2,by rw[bn.al];omega,h3.1,?_⟩;unfold rV;rw[af hj]
  have u5:∀j:Nat,(j:Int)∉r.k.nodes->rV r o j=(((exG o.g (eG r o)).nodes.length+(iG r j).length:Nat):Int):=fun j hj=>by rw[aI2];exact ac hj
  rw[hG];unfold QEx at hx;generalize rV r o=f at *;generalize hZ:eG r o=Z at *;generalize exG o.g Z=D0 at *;have lu:=hr.lg.n;have g9:=hr.lg.e;have gu:=hr.k.n;have Cs:=hr.k.e;have Ct:=fz.n;have DX:=fz.e;have xg:=ho.l.n;have yu:=aD va;try (simp)
  repeat ((first|refine sR ?_|apply sC|apply sX);simp)
  refine aT.of_a (hx _ _ _ _) ?_;rintro v m' ⟨o1,o2,iy,kv,rfl,rfl,jh⟩;try (simp)
  repeat ((first|refine sR ?_|apply sC|apply sX);simp)
  apply sN;refine sL (aO7 r o Z D0.nodes (rE D0.edges) f o2 nb box) (fun x=>x.i<=r.lg.nodes.length/\TK tok nt x.tok x.nt [x.o,x.q,o2]) (fun x=>r.lg.nodes.length-x.i) ⟨0,.full,o1,iy,kv⟩ ⟨ai _,jh.full⟩ (wM jh.le rfl (by simp[ToL,lk,aHu]) (by simp[aE,lk,aJz])) ?_;rintro⟨i,oP,oN,ib,io⟩ S ⟨hi,htk⟩ hS;simp only[aO7] at hS hi htk;subst hS;have hw:=sW (i:=i) (by omega);have ph:=aJC r i;have p7:=aHo f i;have mz:=aE5 f i;have hvz:=vz.len.1;have yw:=ho.g.n;by_cases hlt:i<r.lg.nodes.length
  .have c1:=rJ r.k.nodes (i:Int) gu;have tc:=aKJ hlt;by_cases e1:(i:Int)∈r.k.nodes
   .obtain⟨q,q1,q2,q3,q4,q5⟩:=i6 i e1;rw[af e1,c9] at tc;have DZ:r.i.nodes.getD q 0=r.i.nodes[q]:=by simp[q2]
    rw[DZ] at q3 q4 q5;have A5:o.l.nodes.getD (r.i.nodes[q]).toNat 0=o.l.nodes[(r.i.nodes[q]).toNat]:=by simp[q3]
    rw[A5] at q5;rw[q1] at c1;have c2:=rJ Z.nodes o.l.nodes[(r.i.nodes[q]).toNat] Ct;rw[<-q5] at c2;have q6:r.i.nodes[q]<(o.l.nodes.length:Int):=by omega
    try (simp[hlt])
    repeat ((first|refine sR ?_|apply sC|apply sX);simp[hlt])
    refine sD (c1 _ _) ?_;simp;have q7:¬(q:Int)<0:=by omega
    try (simp[q7,q2,q3,q4,q6])
    repeat ((first|refine sR ?_|apply sC|apply sX);simp[q7,q2,q3,q4,q6])
    refine sD (c2 _ _) ?_;simp;try (simp[mz])
    repeat ((first|refine sR ?_|apply sC|apply sX);simp[mz])
    refine⟨⟨by omega,htk.live⟩,?_⟩;try (simp[hw])
    repeat ((first|refine sR ?_|apply sC|apply sX);simp[hw])
    apply sE;exact⟨⟨i+1,_,_,_,_⟩,⟨hlt,htk.app⟩,by simp only;omega,wM htk.app.le rfl (by simp[ToL,lk,p7]) (by simp[aE,lk,tc])⟩
   .rw[ac e1] at tc;rw[aCx e1] at c1;have hf:=u5 i e1;rw[Int.natCast_add] at hf;rw[hf] at p7;try (simp[hlt])
    repeat ((first|refine sR ?_|apply sC|apply sX);simp[hlt])
    refine sD (c1 _ _) ?_;simp;try (simp[mz])
    repeat ((first|refine sR ?_|apply sC|apply sX);simp[mz])
    refine⟨⟨by omega,htk.live⟩,?_⟩;try (simp[hlt])
    repeat ((first|refine sR ?_|apply sC|apply sX);simp[hlt])
    refine⟨⟨by omega,htk.app.swap.live⟩,?_⟩;try (simp[hw])
    repeat ((first|refine sR ?_|apply sC|apply sX);simp[hw])
    apply sE;exact⟨⟨i+1,_,_,_,_⟩,⟨hlt,htk.app.swap.app.swap⟩,by simp only;omega,wM htk.app.swap.app.swap.le rfl (by simp[ToL,lk,p7]) (by simp[aE,lk,tc])⟩
  .have:i=r.lg.nodes.length:=by omega
   subst this;try (simp)
   repeat ((first|refine sR ?_|apply sC|apply sX);simp)
   apply sN;refine sL (aO2 r (D0.nodes++iG r r.lg.nodes.length) D0.edges f nb box) (fun x=>x.i<=r.lg.edges.length/\TK tok nt x.tok x.nt [x.o]) (fun x=>r.lg.edges.length-x.i) ⟨0,o2,ib,io⟩ ⟨ai _,htk.tail.tail⟩ (wM htk.le rfl (by simp[ToL,lk,ints]) (by simp[aE,lk,aJj,ints])) ?_;rintro⟨i,oE,i7,ka⟩ S ⟨hi,htk⟩ hS;simp only[aO2] at hS hi htk;subst hS;have hw:=sW (i:=i) (by omega);have Cv:=aKi r f i;by_cases hlt:i<r.lg.edges.length
   .have c1:=aFy r.k.edges (i:Int) Cs;have tc:=aJm (f:=f) hlt;have u3:=yu _ (aa hlt);obtain⟨f1,f2,f3,f4⟩:=u3;obtain⟨x,hx⟩:∃x,r.lg.edges[i]=x:=⟨_,rfl⟩
    rw[hx] at tc f1 f2 f3 f4;have mz:=aE5 f r.lg.nodes.length;have f5:x.fr.toNat<r.lg.nodes.length:=by omega
    have f6:x.to.toNat<r.lg.nodes.length:=by omega
    by_cases e1:(i:Int)∈r.k.edges
    .rw[af e1,c9] at tc;try (simp[hlt,hx])
     repeat ((first|refine sR ?_|apply sC|apply sX);simp[hlt,hx])
     refine sD (c1 _ _) ?_;simp;try (simp[e1,hw])
     repeat ((first|refine sR ?_|apply sC|apply sX);simp[e1,hw])
     apply sE;exact⟨⟨i+1,_,_,_⟩,⟨hlt,htk⟩,by simp only;omega,wM htk.le rfl (by simp[ToL,lk]) (by simp[aE,lk,tc])⟩
    .rw[ac e1] at tc;try (simp[hlt,hx])
     repeat ((first|refine sR ?_|apply sC|apply sX);simp[hlt,hx])
     refine sD (c1 _ _) ?_;simp;try (simp[e1])
     repeat ((first|refine sR ?_|apply sC|apply sX);simp[e1])
     try (simp[f1,f2,f3,f4,f5,f6,mz,aEU])
     repeat ((first|refine sR ?_|apply sC|apply sX);simp[f1,f2,f3,f4,f5,f6,mz,aEU])
     refine⟨⟨by omega,htk.live⟩,?_⟩;try (simp[hw])
     repeat ((first|refine sR ?_|apply sC|apply sX);simp[hw])
     apply sE;exact⟨⟨i+1,_,_,_⟩,⟨hlt,htk.app⟩,by simp only;omega,wM htk.app.le rfl (by simp[ToL,lk]) (by simp[aE,lk,tc])⟩
   .have:i=r.lg.edges.length:=by omega
    subst this;try (simp)
    repeat ((first|refine sR ?_|apply sC|apply sX);simp)
    refine sT (sG Hb Ht htk.old htk.le ?_);simp[ints,AM.edges]
theorem xQ{t:Ty}{r:Ru}{c:Co}{o:Ov}(h:o∈(cF t r c).1):o∈(oR r.rg c.g).1:=by
 unfold cF at h;split at h
 .simp at h
 .split at h
  .split at h
   .simp at h
   .exact(b8.1 h).1
  .simp at h
theorem aBM(r:Ru)(i k:Nat)(ws:List Ov){n:Nat}(h:n<ws.length):duN r i k ws (n+1)=duN r i k ws n++[⟨⟨i,k,n,(lQ r ws[n]).1⟩,(lQ r ws[n]).2⟩]:=by
 unfold duN;rw[cu,cw];simp[h]
theorem aAZ(r:Ru)(i k:Nat)(ws:List Ov)(n:Nat):(duN r i k ws n).length=n:=by simp[duN]
theorem aEh{t:Ty}{L:List Ru}{l:List Co}{i k:Nat}(hi:i<L.length)(hk:k<l.length):duW t L l i k=cF t L[i] l[k]/\duC t L l i k=duN L[i] i k (cF t L[i] l[k]).1 (cF t L[i] l[k]).1.length:=by
 unfold duC duW;rw[ab hi,ab hk];exact⟨rfl,rfl⟩
theorem aC0(t:Ty)(L:List Ru)(l:List Co)(i k:Nat):duK t L l i (k+1)=duK t L l i k++duC t L l i k:=by
 unfold duK;rw[cu,List.flatMap_append];simp
theorem aCA(t:Ty)(L:List Ru)(l:List Co)(i:Nat):duL t L l (i+1)=duL t L l i++duK t L l i l.length:=by
 unfold duL;rw[cu,List.flatMap_append];simp
theorem rQ{α:Type}(f:Nat->List α)(B:Nat)(h:∀k,(f k).length<=B):∀n:Nat,((List.range n).flatMap f).length<=n*B
 | 0=>by simp
 | n+1=>by
  have h1:=rQ f B h n;have h2:=h n;rw[cu,List.flatMap_append,am,Nat.succ_mul];simp only[gj,List.flatMap_nil,c9];omega
theorem aKh{t:Ty}{L:List Ru}{l:List Co}(h:cA t L l)(i k:Nat):(duC t L l i k).length<=1000000:=by
 by_cases hi:i<L.length
 .by_cases hk:k<l.length
  .rw[(aEh hi hk).2,aAZ];exact(aBe (h.L _ (aa hi)) (h.l _ (aa hk))).n
  .unfold duC duW;rw[ab hi,dx (by omega)];simp[duN]
 .unfold duC;rw[dx (by omega)];simp
theorem aAQ{t:Ty}{L:List Ru}{l:List Co}(h:cA t L l)(i n:Nat):(duK t L l i n).length<=n*1000000:=rQ _ _ (aKh h i) n
theorem aA3{t:Ty}{L:List Ru}{l:List Co}(h:cA t L l)(n:Nat):(duL t L l n).length<=n*(l.length*1000000):=rQ _ _ (fun i=>aAQ h i l.length) n
theorem aEJ{t:Ty}{L:List Ru}{l:List Co}{i k:Nat}{e:Int}(hi:i<L.length)(hk:k<l.length)(h1:aA (duE t L l) i=0)(h2:aA (fun k=>(duW t L l i k).2) k=0)(h3:(duW t L l i k).2=e)(hne:e≠0):lN t L l=([],e):=by
 have a:=aK h2 (by rw[h3];exact hne) l.length hk;rw[h3] at a;have a:duE t L l i=e:=a
 have b:=aK h1 (by rw[a];exact hne) L.length hi;have b:aMk t L l=e:=b.trans a
 unfold lN;rw[b,af hne]
abbrev duR(l:List Du):List (List D):=l.map Du.cells
structure DuA where
 i:Nat
 o:Own
 tok:Nat->Bool
 nt:Nat
def aN0(t:Ty)(L:List Ru)(l:List Co)(nb:Nat)(box:Bxs)(x:DuA):AS :=
 ⟨tl [(21,I x.i),(20,I L.length),(19,.d (fF L)),(8,.osl 6 (duR (duL t L l x.i)) x.o),(2,.d (bV l)),(3,.ptr (nb+3) 0 0)],lb nb box [(3,[fQ t])],x.tok,x.nt⟩
def aOU(t:Ty)(L:List Ru)(l:List Co)(r:Ru)(i:Nat)(X:List Du)(nb:Nat)(box:Bxs)(x:DuA):AS :=
 ⟨tl [(28,I x.i),(27,I l.length),(26,.d (bV l)),(10,.ptr (nb+10) 0 0),(9,I i),(21,I i),(20,I L.length),(19,.d (fF L)),(8,.osl 6 (duR (X++duK t L l i x.i)) x.o),(2,.d (bV l)),(3,.ptr (nb+3) 0 0)],lb nb box [(10,[r.row]),(3,[fQ t])],x.tok,x.nt⟩
def aNI(t:Ty)(L:List Ru)(l:List Co)(r:Ru)(i k:Nat)(W:List Ov)(X:List Du)(nb:Nat)(box:Bxs)(x:DuA):AS :=
 ⟨tl [(45,I x.i),(44,I W.length),(43,.d (ovs W)),(11,I k),(28,I k),(27,I l.length),(26,.d (bV l)),(10,.ptr (nb+10) 0 0),(9,I i),(21,I i),(20,I L.length),(19,.d (fF L)),(8,.osl 6 (duR (X++duN r i k W x.i)) x.o),(2,.d (bV l)),(3,.ptr (nb+3) 0 0)],lb nb box [(10,[r.row]),(3,[fQ t])],x.tok,x.nt⟩
theorem aLn{W:List Ov}{n:Nat}(h:n<W.length):(W.map Ov.cells)[n]?=some W[n].cells:=by simp[h]
set_option maxRecDepth 100000 in
theorem zU(t:Ty)(L:List Ru)(l:List Co)(h:cA t L l)(hT:tyE t=0)(m7:∀r∈L,ruE t r=0)(hL:L.length<=6)(hl:l.length<=8):DC 47 [t.av,.d (fF L),.d (bV l)] (.tup [.d (pO (lN t L l).1),I (lN t L l).2]):=by
 intro tok nt box nb;obtain⟨R,hR⟩:∃R,lN t L l=R:=⟨_,rfl⟩
 rw[hR];refine sI func47 ntmps47 fun Hb Ht=>?_
 repeat first|simp|refine sR ?_
 apply sN;refine sL (aN0 t L l nb box) (fun x=>x.i<=L.length/\aA (duE t L l) x.i=0/\TK tok nt x.tok x.nt [x.o]) (fun x=>L.length-x.i) ⟨0,.full,tok,nt⟩ ⟨ai _,rfl,(TK.start Ht).full⟩ (wM (nr0 _) rfl (by simp[ToL,lk,duL]) (by simp[aE,lk])) ?_;rintro⟨i,o1,iy,kv⟩ S ⟨hi,gt,htk⟩ hS;simp only[aN0] at hS hi gt htk;subst hS;have hw:=sW (i:=i) (by omega);have Dd:=aA3 h i;by_cases hlt:i<L.length
 .have su:=aa hlt;have kw:=h.L _ su;have wv:=m7 _ su;have gx:=uQ hlt;have ra:=aCA t L l i;have jj:∀k (hk:k<l.length),duW t L l i k=cF t L[i] l[k]/\duC t L l i k=duN L[i] i k (cF t L[i] l[k]).1 (cF t L[i] l[k]).1.length:=fun k hk=>aEh hlt hk
  have rq:∀k (hk:k<l.length) e,aA (fun k=>(duW t L l i k).2) k=0->(duW t L l i k).2=e->e≠0->R=([],e):=fun k hk e h2 h3 h4=>hR.symm.trans (aEJ hlt hk gt h2 h3 h4)
  have i6:=aHd hT wv;have j6:=i6.hl.va;obtain⟨r,hr⟩:∃r,L[i]=r:=⟨_,rfl⟩
  rw[hr] at su kw wv gx i6 j6;simp only[hr] at jj;have Cw:(duL t L l i).length<=48000000:=by
   have:i*(l.length*1000000)<=6*(8*1000000):=Nat.mul_le_mul (by omega) (bk _ hl)
   omega
  generalize hX:duL t L l i=X at *;try (simp[hlt,gx,Ru.rowK,hr])
  repeat ((first|refine sR ?_|apply sC|apply sX);simp[hlt,gx,Ru.rowK,hr])
  apply sN;refine sL (aOU t L l r i X nb box) (fun x=>x.i<=l.length/\aA (fun k=>(duW t L l i k).2) x.i=0/\TK tok nt x.tok x.nt [x.o]) (fun x=>l.length-x.i) ⟨0,o1,iy,kv⟩ ⟨ai _,rfl,htk⟩ (wM htk.le rfl (by simp[ToL,lk,duK]) (by simp[aE,lk,Ru.rowK])) ?_;rintro⟨k,o2,ib,io⟩ S ⟨hk,j0,gw⟩ hS;simp only[aOU] at hS hk j0 gw;subst hS;have nc:=sW (i:=k) (by omega);have Ea:=aAQ h i k;by_cases ky:k<l.length
  .have wh:=aa ky;have td:=h.l _ wh;obtain⟨w1,w2⟩:=jj k ky;have qy:l[k]?=some l[k]:=ab ky
   have ss:=aC0 t L l i k;rw[w2] at ss;have he:=rq k ky;rw[w1] at he;obtain⟨c,hc⟩:∃c,l[k]=c:=⟨_,rfl⟩
   rw[hc] at wh td qy w1 w2 ss he;have u0:=aFm t h.t r kw c td;have Cy:=aBe (t:=t) kw td;have qq:=fun o (ho:o∈(cF t r c).1)=>(aAU (xQ ho)).1
   obtain⟨W,hW⟩:∃W,cF t r c=W:=⟨_,rfl⟩
   obtain⟨wn,wf⟩:=Cy;rw[hW] at u0 wn wf qq w1 ss he;obtain⟨W,e⟩:=W;simp only at u0 wn wf qq w1 ss he;try (simp[ky,qy,hc])
   repeat ((first|refine sR ?_|apply sC|apply sX);simp[ky,qy,hc])
   refine sD (u0 _ _) ?_;simp;by_cases e1:e=0
   case neg =>
    have:=he e j0 rfl e1
    subst this;have hb:(e != 0)=true:=by simp[e1]
    try (simp[hb])
    repeat ((first|refine sR ?_|apply sC|apply sX);simp[hb])
    refine sT (sG Hb Ht gw.old gw.le ?_);simp[pO]
   subst e1;generalize hY:X++duK t L l i k=Y at *;have Cz:Y.length<=56000000:=by
    rw[<-hY,am];have:k*1000000<=8*1000000:=bk _ (by omega)
    omega
   try (simp)
   repeat ((first|refine sR ?_|apply sC|apply sX);simp)
   apply sN;refine sL (aNI t L l r i k W Y nb box) (fun x=>x.i<=W.length/\TK tok nt x.tok x.nt [x.o]) (fun x=>W.length-x.i) ⟨0,o2,ib,io⟩ ⟨ai _,gw⟩ (wM gw.le rfl (by simp[ToL,lk,duN,<-hY]) (by simp[aE,lk])) ?_;rintro⟨n,o3,i7,ka⟩ S ⟨hn,ig⟩ hS;simp only[aNI] at hS hn ig;subst hS;have vw:=sW (i:=n) (by omega);have o7:=aAZ r i k W n;by_cases m9:n<W.length
   .have xg:=aa m9;have yx:=aLn m9;have uz:=aBM r i k W m9;have AQ:=qq _ xg;have xh:=wf _ xg;obtain⟨o,ho⟩:∃o,W[n]=o:=⟨_,rfl⟩
    rw[ho] at xg yx uz AQ xh;have AR:=aFP r kw o xh i6.sp j6 AQ;obtain⟨B0,hB0⟩:∃B0,lQ r o=B0:=⟨_,rfl⟩
    rw[hB0] at AR uz;try (simp[m9,yx,ho])
    repeat ((first|refine sR ?_|apply sC|apply sX);simp[m9,yx,ho])
    refine sD (AR _ _) ?_;simp;try (simp)
    repeat ((first|refine sR ?_|apply sC|apply sX);simp)
    refine⟨⟨by omega,ig.live⟩,?_⟩;try (simp[vw])
    repeat ((first|refine sR ?_|apply sC|apply sX);simp[vw])
    apply sE;exact⟨⟨n+1,_,_,_⟩,⟨m9,ig.app⟩,by simp only;omega,wM ig.app.le rfl (by simp[ToL,lk,uz]) (by simp[aE,lk])⟩
   .have:n=W.length:=by omega
    subst this;have ue:X++duK t L l i (k+1)=Y++duN r i k W W.length:=by rw[ss,<-List.append_assoc,hY]
    have pj:X.map Du.cells++(duK t L l i (k+1)).map Du.cells=Y.map Du.cells++(duN r i k W W.length).map Du.cells:=by rw[<-List.map_append,<-List.map_append,ue]
    try (simp[nc])
    repeat ((first|refine sR ?_|apply sC|apply sX);simp[nc])
    apply sE;refine⟨⟨k+1,o3,i7,ka⟩,⟨ky,?_,ig⟩,by simp only;omega,wM ig.le rfl (by simp[ToL,lk,pj]) (by simp[aE,lk])⟩;show (if aA (fun k=>(duW t L l i k).2) k=0 then (duW t L l i k).2 else aA (fun k=>(duW t L l i k).2) k)=0
    rw[af j0,w1]
  .have:k=l.length:=by omega
   subst this;try (simp[hw])
   repeat ((first|refine sR ?_|apply sC|apply sX);simp[hw])
   apply sE;refine⟨⟨i+1,o2,ib,io⟩,⟨hlt,?_,gw⟩,by simp only;omega,wM gw.le rfl (by simp[ToL,lk,ra]) (by simp[aE,lk])⟩;show (if aA (duE t L l) i=0 then duE t L l i else aA (duE t L l) i)=0
   rw[af gt];exact j0
 .have:i=L.length:=by omega
  subst this;have:R=(duL t L l L.length,0):=by
   rw[<-hR];unfold lN;rw[ac];exact fun hne=>hne gt
  subst this;try (simp)
  repeat ((first|refine sR ?_|apply sC|apply sX);simp)
  refine sT (sG Hb Ht htk.old htk.le ?_);simp
theorem aBj(t:Ty)(L:List Ru)(l:List Co)(h:cA t L l)(hL:L.length<=1000000)(hl:l.length<=1000000):DC 37 [t.av,.d (fF L),.d (bV l)] (.tup [.d (pO (fG t L l).1),I (fG t L l).2]):=by
 intro tok nt box nb;have hg:=aII t L l h hL hl;obtain⟨R,hR⟩:∃R,fG t L l=R:=⟨_,rfl⟩
 rw[hR];unfold fG at hR;refine sI func37 ntmps37 fun Hb Ht=>?_
 repeat first|simp|refine sR ?_
 refine sD (hg _ _) ?_;simp;by_cases e:gE t L l=0
 .rw[ac (by simp[e])] at hR;obtain⟨hT,m7,_,h6,h8⟩:=mT e;have hd:=zU t L l h hT m7 h6 h8;rw[hR] at hd;try (simp[e])
  repeat ((first|refine sR ?_|apply sC|apply sX);simp[e])
  refine sD (hd _ _) ?_;simp;try (simp)
  repeat ((first|refine sR ?_|apply sC|apply sX);simp)
  refine sT (sH ?_);simp
 .rw[af e] at hR;have hb:(gE t L l != 0)=true:=by simp[e]
  subst hR;try (simp[hb])
  repeat ((first|refine sR ?_|apply sC|apply sX);simp[hb])
  refine sT (sH ?_);simp[pO]
theorem aJO{t:Ty}{l:List Co}{g:Gr}{i:Nat}(hi:i<l.length)(h1:∀c∈l.take i,pD t g c=false)(h2:pD t g l[i]=true):aDN t l g=i:=by
 unfold aDN;rw[fw hi];refine⟨h2,fun j hj=>?_⟩;have:=h1 l[j] (cm.2 ⟨j,by omega,rfl⟩)
 simpa using this
theorem aFM{t:Ty}{l:List Co}{g:Gr}(h:∀c∈l,pD t g c=false):¬aDN t l g<l.length:=fun hlt=>by
 obtain⟨c,hc,h2⟩:=aJM.1 hlt;rw[h c hc] at h2;cases h2
def aBT(t:Ty)(l:List Co)(d:Du)(nb:Nat)(box:Bxs)(tok:Tks)(nt:Nat)(i:Nat):AS :=
 ⟨tl [(20,I i),(19,I l.length),(18,.d (bV l)),(6,.ptr (nb+6) 0 0),(5,.ptr (nb+5) 0 0),(3,.ptr (nb+3) 0 0)],lb nb box [(6,[[I 0,I 0,I 0,dL,dL,I 0,dL,dL]]),(5,[d.row]),(3,[fQ t])],tok,nt⟩
set_option maxRecDepth 100000 in
theorem aHc(t:Ty)(ht:t.Fit)(l:List Co)(hl:l.length<=1000000)(hc:∀c∈l,c.g.Fit)(d:Du)(hd:d.o.g.Fit):DC 42 [t.av,.d (bV l),d.av] (.tup [(oS t l d).1.av,B (oS t l d).2]):=by
 intro tok nt box nb;obtain⟨R,hR⟩:∃R,oS t l d=R:=⟨_,rfl⟩
 rw[hR];unfold oS at hR;refine sI func42 ntmps42 fun Hb Ht=>?_
 cases hs:d.step
 .rw[hs,ac (by simp)] at hR;subst hR;try (simp[hs])
  repeat ((first|refine sR ?_|apply sC|apply sX);simp[hs])
  refine sT (sH ?_);simp[ints]
 .rw[hs,af rfl] at hR;try (simp[hs])
  repeat ((first|refine sR ?_|apply sC|apply sX);simp[hs])
  apply sN;refine sL (aBT t l d nb box tok nt) (fun i=>i<=l.length/\∀c∈l.take i,pD t d.o.g c=false) (fun i=>l.length-i) 0 ⟨ai _,by simp⟩ (wM (nr0 _) rfl (by simp[ToL,lk]) (by simp[aE,lk,hs])) ?_;rintro i S ⟨hi,jq⟩ hS;simp only[aBT] at hS;subst hS;have hw:=sW (i:=i) (by omega);by_cases hlt:i<l.length
  .have my:=hc _ (aa hlt);have mo:=aJO (t:=t) (g:=d.o.g) hlt jq;have gx:l[i]?=some l[i]:=ab hlt
   have nj:=ah hlt;obtain⟨c,hcc⟩:∃c,l[i]=c:=⟨_,rfl⟩
   have hf:=aC7 t ht c.g d.o.g (by rw[<-hcc];exact my) hd true;rw[hcc] at mo gx nj;have ry:pD t d.o.g c=decide ((xV t c.g d.o.g true).2=0):=rfl
   obtain⟨F,hF⟩:∃F,xV t c.g d.o.g true=F:=⟨_,rfl⟩
   rw[hF] at hf ry;try (simp[hlt,gx,hcc])
   repeat ((first|refine sR ?_|apply sC|apply sX);simp[hlt,gx,hcc])
   refine sD (hf _ _) ?_;simp;by_cases e:F.2=0
   .have hm:=mo (by rw[ry,e];rfl);rw[dif_pos (by rw[hm];exact hlt)] at hR;have m8:R=(⟨d.o,(i:Int),F.1⟩,true):=by
     rw[<-hR];simp only[hm,hcc,hF]
    subst m8;try (simp[e])
    repeat ((first|refine sR ?_|apply sC|apply sX);simp[e])
    refine sT (sH ?_);simp[ints]
   .have hb:(F.2==0)=false:=by simp[e]
    try (simp[hb,hw])
    repeat ((first|refine sR ?_|apply sC|apply sX);simp[hb,hw])
    apply sE;refine⟨i+1,⟨hlt,fun x hx=>?_⟩,by omega,wkA⟩;rw[nj] at hx;rcases ap.1 hx with hx|hx
    .exact jq x hx
    .rw[a7.1 hx,ry];simp[e]
  .have:i=l.length:=by omega
   subst this;rw[bh] at jq;rw[dif_neg (aFM jq)] at hR;subst hR;try (simp)
   repeat ((first|refine sR ?_|apply sC|apply sX);simp)
   refine sT (sH ?_);simp[ints,AM.edges,zOb]
def gV(t:Ty)(l:List Co)(D:List Du)(i:Nat):List Dc:=(D.take i).map fun d=>(oS t l d).1
theorem aA1{t:Ty}{l:List Co}{D:List Du}{i:Nat}(h:i<D.length):gV t l D (i+1)=gV t l D i++[(oS t l D[i]).1]:=by
 unfold gV;rw[ah h,cw];rfl
theorem aCC(t:Ty)(l:List Co)(D:List Du)(i:Nat):(gV t l D i).length<=i:=by simp[gV];omega
theorem aER{D:List Du}{i:Nat}(h:i<D.length):(D.map Du.cells)[i]?=some D[i].cells:=by simp[h]
abbrev dcR(l:List Dc):List (List D):=l.map Dc.cells
def aDq(t:Ty)(l:List Co)(D:List Du)(nb:Nat)(box:Bxs)(x:DuA):AS :=
 ⟨tl [(28,I x.i),(27,I D.length),(26,.d (pO D)),(10,.ptr (nb+10) 0 0),(6,.ptr (nb+6) 0 0),(2,.d (bV l)),(3,.ptr (nb+3) 0 0)],lb nb box [(10,[[.osl 8 (dcR (gV t l D x.i)) x.o]]),(6,[[dL]]),(3,[fQ t])],x.tok,x.nt⟩
structure qJ (D:List Du):Prop where
 n:D.length<=100000000
 g:∀d∈D,d.o.g.Fit
set_option maxRecDepth 100000 in
theorem aBV(t:Ty)(L:List Ru)(l:List Co)(h:cA t L l)(hL:L.length<=1000000)(hl:l.length<=1000000)(hD:qJ (fG t L l).1):DC 16 [t.av,.d (fF L),.d (bV l)] (.tup [.agg [.d (tY (aA6 t L l).1)],I (aA6 t L l).2]):=by
 intro tok nt box nb;have ha:=aBj t L l h hL hl;obtain⟨R,hR⟩:∃R,aA6 t L l=R:=⟨_,rfl⟩
 rw[hR];unfold aA6 at hR;obtain⟨⟨D,e⟩,hA⟩:∃A,fG t L l=A:=⟨_,rfl⟩
 rw[hA] at hR ha hD;simp only at hR ha hD;refine sI func16 ntmps16 fun Hb Ht=>?_
 repeat first|simp|refine sR ?_
 refine sD (ha _ _) ?_;simp;by_cases e1:e=0
 case neg =>
  rw[af e1] at hR;have hb:(e != 0)=true:=by simp[e1]
  subst hR;try (simp[hb])
  repeat ((first|refine sR ?_|apply sC|apply sX);simp[hb])
  refine sT (sH ?_);simp[tY]
 rw[ac (by simp[e1])] at hR;subst e1;have C0:=hD.n;try (simp)
 repeat ((first|refine sR ?_|apply sC|apply sX);simp)
 apply sN;refine sL (aDq t l D nb box) (fun x=>x.i<=D.length/\(∀d∈D.take x.i,(oS t l d).2=true)/\TK tok nt x.tok x.nt [x.o]) (fun x=>D.length-x.i) ⟨0,.full,tok,nt⟩ ⟨ai _,by simp,(TK.start Ht).full⟩ (wM (nr0 _) rfl (by simp[ToL,lk]) (by simp[aE,lk,gV])) ?_;rintro⟨i,o1,iy,kv⟩ S ⟨hi,gt,htk⟩ hS;simp only[aDq] at hS hi gt htk;subst hS;have hw:=sW (i:=i) (by omega);have l5:=aCC t l D i;by_cases hlt:i<D.length
 .have yy:=aa hlt;have gx:=aER hlt;have ra:=aA1 (t:=t) (l:=l) hlt;have nj:=ah hlt;have ut:=hD.g _ yy;obtain⟨d,rr⟩:∃d,D[i]=d:=⟨_,rfl⟩
  rw[rr] at yy gx ra nj ut;have yz:=aHc t h.t l hl (fun c hc=>(h.l c hc).g) d ut;obtain⟨⟨x,ok⟩,hM⟩:∃M,oS t l d=M:=⟨_,rfl⟩
  rw[hM] at yz ra;simp only at yz ra;try (simp[hlt,gx,rr])
  repeat ((first|refine sR ?_|apply sC|apply sX);simp[hlt,gx,rr])
  refine sD (yz _ _) ?_;simp;cases ok
  .have:R=([],10):=by
    rw[<-hR];unfold aMY;rw[ac];intro gz;have:=ax.1 gz d yy
    rw[hM] at this;cases this
   subst this;try (simp)
   repeat ((first|refine sR ?_|apply sC|apply sX);simp)
   refine sT (sG Hb Ht htk.old htk.le ?_);simp[tY]
  .try (simp)
   repeat ((first|refine sR ?_|apply sC|apply sX);simp)
   refine⟨⟨by omega,htk.live⟩,?_⟩;try (simp[hw])
   repeat ((first|refine sR ?_|apply sC|apply sX);simp[hw])
   apply sE;refine⟨⟨i+1,_,_,_⟩,⟨hlt,fun y hy=>?_,htk.app⟩,by simp only;omega,wM htk.app.le rfl (by simp[ToL,lk]) (by simp[aE,lk,ra])⟩;rw[nj] at hy;rcases ap.1 hy with hy|hy
   .exact gt y hy
   .rw[a7.1 hy,hM]
 .have:i=D.length:=by omega
  subst this;rw[bh] at gt;have:R=(gV t l D D.length,0):=by
   rw[<-hR];unfold aMY gV;rw[af (ax.2 gt),bh]
  subst this;try (simp)
  repeat ((first|refine sR ?_|apply sC|apply sX);simp)
  refine sT (sG Hb Ht htk.old htk.le ?_);simp
def opK(t:Ty)(l:List Co)(D:List Du)(i:Nat):List Ob:=((D.take i).filter fun d=>!(oS t l d).2).map Du.o
theorem aHT{t:Ty}{l:List Co}{D:List Du}{i:Nat}(h:i<D.length):opK t l D (i+1)=opK t l D i++if (oS t l D[i]).2=true then [] else [D[i].o]:=by
 unfold opK;rw[ah h,dj,cw];cases e:(oS t l D[i]).2<;>simp[e]
theorem aJY(t:Ty)(l:List Co)(D:List Du)(i:Nat):(opK t l D i).length<=i:=by
 unfold opK;rw[br];exact bz (di _ _) (by simp;omega)
theorem aJx(t:Ty)(l:List Co)(D:List Du):opK t l D D.length=lU t l D:=by
 unfold opK lU;rw[bh]
abbrev obR(l:List Ob):List (List D):=l.map Ob.cells
def aOf(t:Ty)(l:List Co)(D:List Du)(nb:Nat)(box:Bxs)(x:DuA):AS :=
 ⟨tl [(14,I x.i),(13,I D.length),(12,.d (pO D)),(7,.osl 5 (obR (opK t l D x.i)) x.o),(1,.d (bV l)),(3,.ptr (nb+3) 0 0)],lb nb box [(3,[fQ t])],x.tok,x.nt⟩
set_option maxRecDepth 100000 in
theorem aJe(t:Ty)(ht:t.Fit)(l:List Co)(hl:l.length<=1000000)(hc:∀c∈l,c.g.Fit)(D:List Du)(hD:qJ D):DC 38 [t.av,.d (bV l),.d (pO D)] (.d (aI0 (lU t l D))):=by
 intro tok nt box nb;have C0:=hD.n;refine sI func38 ntmps38 fun Hb Ht=>?_
 repeat first|simp|refine sR ?_
 apply sN;refine sL (aOf t l D nb box) (fun x=>x.i<=D.length/\TK tok nt x.tok x.nt [x.o]) (fun x=>D.length-x.i) ⟨0,.full,tok,nt⟩ ⟨ai _,(TK.start Ht).full⟩ (wM (nr0 _) rfl (by simp[ToL,lk,opK]) (by simp[aE,lk])) ?_;rintro⟨i,o1,iy,kv⟩ S ⟨hi,htk⟩ hS;simp only[aOf] at hS hi htk;subst hS;have hw:=sW (i:=i) (by omega);have l5:=aJY t l D i;by_cases hlt:i<D.length
 .have gx:=aER hlt;have ra:=aHT (t:=t) (l:=l) hlt;have ut:=hD.g _ (aa hlt);obtain⟨d,rr⟩:∃d,D[i]=d:=⟨_,rfl⟩
  rw[rr] at gx ra ut;have yz:=aHc t ht l hl hc d ut;obtain⟨⟨x,ok⟩,hM⟩:∃M,oS t l d=M:=⟨_,rfl⟩
  rw[hM] at yz ra;simp only at yz ra;try (simp[hlt,gx,rr])
  repeat ((first|refine sR ?_|apply sC|apply sX);simp[hlt,gx,rr])
  refine sD (yz _ _) ?_;simp;cases ok
  .rw[ac (by simp)] at ra;try (simp)
   repeat ((first|refine sR ?_|apply sC|apply sX);simp)
   refine⟨⟨by omega,htk.live⟩,?_⟩;try (simp[hw])
   repeat ((first|refine sR ?_|apply sC|apply sX);simp[hw])
   apply sE;exact⟨⟨i+1,_,_,_⟩,⟨hlt,htk.app⟩,by simp only;omega,wM htk.app.le rfl (by simp[ToL,lk,ra]) (by simp[aE,lk])⟩
  .rw[af rfl,c9] at ra;try (simp[hw])
   repeat ((first|refine sR ?_|apply sC|apply sX);simp[hw])
   apply sE;exact⟨⟨i+1,_,_,_⟩,⟨hlt,htk⟩,by simp only;omega,wM htk.le rfl (by simp[ToL,lk,ra]) (by simp[aE,lk])⟩
 .have:i=D.length:=by omega
  subst this;rw[aJx];try (simp)
  repeat ((first|refine sR ?_|apply sC|apply sX);simp)
  refine sT (sG Hb Ht htk.old htk.le ?_);simp
theorem aKC(t:Ty)(L:List Ru)(l:List Co)(h:cA t L l)(hL:L.length<=1000000)(hl:l.length<=1000000)(hD:qJ (fG t L l).1):DC 11 [t.av,.d (fF L),.d (bV l)] (.tup [.d (aI0 (aCS t L l).1),I (aCS t L l).2]):=by
 intro tok nt box nb;have ha:=aBj t L l h hL hl;obtain⟨R,hR⟩:∃R,aCS t L l=R:=⟨_,rfl⟩
 rw[hR];unfold aCS at hR;obtain⟨⟨D,e⟩,hA⟩:∃A,fG t L l=A:=⟨_,rfl⟩
 rw[hA] at hR ha hD;simp only at hR ha hD;have ho:=aJe t h.t l hl (fun c hc=>(h.l c hc).g) D hD;refine sI func11 ntmps11 fun Hb Ht=>?_
 repeat first|simp|refine sR ?_
 refine sD (ha _ _) ?_;simp;by_cases e1:e=0
 .rw[ac (by simp[e1])] at hR;subst e1;subst hR;try (simp)
  repeat ((first|refine sR ?_|apply sC|apply sX);simp)
  refine sD (ho _ _) ?_;simp;try (simp)
  repeat ((first|refine sR ?_|apply sC|apply sX);simp)
  refine sT (sH ?_);simp
 .rw[af e1] at hR;have hb:(e != 0)=true:=by simp[e1]
  subst hR;try (simp[hb])
  repeat ((first|refine sR ?_|apply sC|apply sX);simp[hb])
  refine sT (sH ?_);simp[aI0]
def sNm(n:Nat):ByteArray:=⟨#[115]⟩++dgB n
def aKQ(n:Nat)(g:Gr):Co:=⟨sNm n,1,g,[]⟩
def eT(t:Ty):List Co->List Ob->List Co × Int
 | l,[]=>(l,0)
 | l,o::r=>if l.any (pD t o.g)=true then eT t l r else if l.length=8∨6<o.g.nodes.length∨8<o.g.edges.length then ([],3) else eT t (l++[aKQ l.length o.g]) r
def yJ(t:Ty)(L:List Ru):Nat->List Co->List Du->List Co × Int
 | 0,l,D=>if lU t l D=[] then (l,0) else ([],10)
 | n+1,l,D=>if lU t l D=[] then (l,0) else if (eT t l (lU t l D)).2≠0 then ([],3) else if (lN t L (eT t l (lU t l D)).1).2≠0 then ([],(lN t L (eT t l (lU t l D)).1).2) else yJ t L n (eT t l (lU t l D)).1 (lN t L (eT t l (lU t l D)).1).1
def jA(t:Ty)(L:List Ru)(l:List Co)(n:Int):List Co × Int :=
 if (fG t L l).2≠0 then ([],(fG t L l).2) else if n<0∨4<n then ([],6) else yJ t L n.toNat l (fG t L l).1
theorem aHk:∀n,n<8->cM (sNm n)=true/\(sNm n).size=2:=by decide +kernel
theorem aId{t:Ty}{r:Ru}{o:Ov}(hr:aN9 t r)(hm:Emb r.rg o.g o.l):(lQ r o).1.Fit:=by
 unfold lQ;split
 .exact⟨by simp,by simp⟩
 .rename_i hd;have hd:jK o.g (kpI r) o.l=false:=by simpa using hd
  have hz:VP o.g (eG r o):=Sp.z_vp (s:=r.sp) hr.sp hm hd
  obtain⟨l1,l2⟩:=hz.len;obtain⟨g1,g2⟩:=aHv r o;have c1:=aLy r.k.nodes r.lg.nodes.length;have c2:=aLy r.k.edges r.lg.edges.length;have v1:=(bE hr.hl.va).1;have v2:=(bE hm.vm.vb).1;exact⟨by show (wI r o).nodes.length<=_;omega,by show (wI r o).edges.length<=_;omega⟩
theorem uB{t:Ty}{L:List Ru}{l:List Co}(h:cA t L l)(hT:tyE t=0)(m7:∀r∈L,ruE t r=0)(hL:L.length<=6)(hl:l.length<=8):qJ (lN t L l).1:=by
 unfold lN;split
 .exact⟨by simp,fun d hd=>absurd hd (by simp)⟩
 .refine⟨?_,fun d hd=>?_⟩
  .have h1:=aA3 h L.length;have h2:L.length*(l.length*1000000)<=6*(8*1000000):=Nat.mul_le_mul hL (bk _ hl)
   show (duL t L l L.length).length<=_
   omega
  .obtain⟨i,k,n,hi,hk,hn,rfl⟩:=aMU.1 hd;exact aId (aHd hT (m7 _ (aa hi))) (aAU (xQ (aa hn))).1
theorem nV{t:Ty}{L:List Ru}{l:List Co}(h:cA t L l):qJ (fG t L l).1:=by
 unfold fG;split
 .exact⟨by simp,fun d hd=>absurd hd (by simp)⟩
 .rename_i h1;obtain⟨hT,m7,_,h6,h8⟩:=mT (by simpa using h1:gE t L l=0);exact uB h hT m7 h6 h8
theorem aM1(c:Co)(hc:c.Fit)(hx:c.exts=[]):DC 45 [c.av] c.av:=by
 intro tok nt box nb;have c1:=gG c.g.nodes hc.g.n;have c2:=aDo c.g.edges hc.g.e;refine sI func45 ntmps45 fun Hb Ht=>?_
 repeat first|simp|refine sR ?_
 refine sD (c1 _ _) ?_;repeat first|simp|refine sR ?_
 refine sD (c2 _ _) ?_;simp;have htk:=(TK.start Ht).full.app.full.app;try (simp)
 repeat ((first|refine sR ?_|apply sC|apply sX);simp)
 refine sT (sG Hb Ht htk.old htk.le ?_);simp[hx,xts]
theorem aGI(t:Ty)(ht:t.Fit)(g:Gr)(hg:g.Fit)(c:Co)(hc:c.g.Fit)(box:Bxs)(nb k1 k2:Nat)(tok:Tks)(nt:Nat)(h1:box k1=some [fQ t])(h2:box k2=some [aFn g]):
  aC prog 86 [c.av,.ptr k1 0 0,.ptr k2 0 0] ⟨box,nb,tok,nt⟩ fun v m=>v=B (pD t g c)/\m=⟨box,nb,tok,nt⟩:=by
 have hf:=aC7 t ht c.g g hc hg true;have ry:pD t g c=decide ((xV t c.g g true).2=0):=rfl
 rw[ry];refine sI func86 ntmps86 fun Hb Ht=>?_
 have n1:=bH Hb h1;have n2:=bH Hb h2;try (simp[lO n1,h1,lO n2,h2])
 repeat ((first|refine sR ?_|apply sC|apply sX);simp[lO n1,h1,lO n2,h2])
 refine sD (hf _ _) ?_;simp;generalize xV t c.g g true=F at *;have hb:(F.2==0)=decide (F.2=0):=rfl
 try (simp)
 repeat ((first|refine sR ?_|apply sC|apply sX);simp)
 refine sT (sH ?_);simp[hb]
theorem qX(t:Ty):∀(xs ys:List Ob) (l:List Co),eT t l (xs++ys)=if (eT t l xs).2≠0 then eT t l xs else eT t (eT t l xs).1 ys
 | [],ys,l=>by simp[eT]
 | o::r,ys,l=>by
  rw[ga,eT,eT];split
  .exact qX t r ys l
  .split
   .simp
   .exact qX t r ys _
theorem pQ{t:Ty}:∀{xs:List Ob} {l:List Co},(eT t l xs).2≠0->eT t l xs=([],3)
 | [],l,h=>absurd rfl h
 | o::r,l,h=>by
  rw[eT] at h ⊢;split at h
  .rename_i h1;rw[af h1];exact pQ h
  .rename_i h1;rw[ac h1];split at h
   .rename_i h2;rw[af h2]
   .rename_i h2;rw[ac h2];exact pQ h
theorem mR{t:Ty}:∀{xs:List Ob} {l:List Co},l.length<=8->(eT t l xs).1.length<=8
 | [],l,h=>h
 | o::r,l,h=>by
  rw[eT];split
  .exact mR h
  .split
   .simp
   .exact mR (by simp;omega)
theorem lS{t:Ty}:∀{xs:List Ob} {l:List Co},l.length<=8->(∀c∈l,c.Fit)->(∀o∈xs,o.g.Fit)->∀c∈(eT t l xs).1,c.Fit
 | [],l,_,h,_,c,hc=>h c hc
 | o::r,l,hl,h,ho,c,hc=>by
  rw[eT] at hc;split at hc
  .exact lS hl h (fun x hx=>ho x (by simp[hx])) c hc
  .split at hc
   .simp at hc
   .refine lS (by simp;omega) (fun x hx=>?_) (fun x hx=>ho x (by simp[hx])) c hc;rcases ap.1 hx with hx|hx
    .exact h x hx
    .rw[a7.1 hx];have hs:=(aHk l.length (by omega)).2;exact⟨by show (sNm l.length).size<=_;omega,ho o (by simp),ai _,fun y hy=>absurd hy (by simp[aKQ])⟩
def QLo(R:List Co × Int)(box:Bxs)(nb:Nat)(mtok:Tks)(nt0:Nat)(v:AV)(m:bF):Prop :=
 ∃tok nt,m=⟨box,nb,tok,nt⟩/\((R.2=0/\∃own,v=.tup [.osl 5 (rCo R.1) own,I 0]/\TK mtok nt0 tok nt [own])∨R.2≠0/\v=.tup [.osl 0 [] .full,I R.2]/\TK mtok nt0 tok nt [])
def aN7(t:Ty)(l:List Co)(os:List Ob)(nb:Nat)(box:Bxs)(x:DuA):AS :=
 ⟨tl [(13,I x.i),(12,I os.length),(11,.d (aI0 os)),(1,.osl 5 (rCo (eT t l (os.take x.i)).1) x.o),(3,.ptr (nb+3) 0 0)],lb nb box [(3,[fQ t])],x.tok,x.nt⟩
def aPE(t:Ty)(L:List Ru)(l:List Co)(nb:Nat)(box:Bxs)(tok:Tks)(nt:Nat)(i:Nat):AS :=
 ⟨tl [(9,I i),(1,.d (fF L)),(2,.d (bV l)),(3,.ptr (nb+3) 0 0)],lb nb box [(3,[fQ t])],tok,nt⟩
def aPm(t:Ty)(l:List Co)(nb:Nat)(box:Bxs)(tok:Tks)(nt:Nat)(i:Nat):AS :=
 ⟨tl [(11,I i),(2,.d (bV l)),(3,.ptr (nb+3) 0 0)],lb nb box [(3,[fQ t])],tok,nt⟩
set_option maxRecDepth 100000 in
theorem aGk(t:Ty)(L:List Ru)(l:List Co)(h:cA t L l)(hL:L.length<=1000000)(hl:l.length<=1000000):DC 39 [t.av,.d (fF L),.d (bV l)] (I (gE t L l)):=by
 intro tok nt box nb;have hv:=jV t h.t h.t.hM;obtain⟨R,hR⟩:∃R,gE t L l=R:=⟨_,rfl⟩
 rw[hR];refine sI func39 ntmps39 fun Hb Ht=>?_
 repeat first|simp|refine sR ?_
 refine sD (hv _ _) ?_;simp;by_cases e0:tyE t=0
 case neg =>
  have:R=tyE t:=by rw[<-hR];unfold gE;rw[af e0]
  subst this;try (simp[e0])
  repeat ((first|refine sR ?_|apply sC|apply sX);simp[e0])
  refine sT (sH ?_);simp
 by_cases c1:6<L.length
 .have:R=3:=by rw[<-hR];unfold gE;rw[ac (by simp[e0]),af (.inl c1)]
  subst this;have b1:(6:Int)<L.length:=by omega
  try (simp[e0,b1])
  repeat ((first|refine sR ?_|apply sC|apply sX);simp[e0,b1])
  refine sT (sH ?_);simp
 by_cases c2:8<l.length
 .have:R=3:=by rw[<-hR];unfold gE;rw[ac (by simp[e0]),af (.inr c2)]
  subst this;have b1:¬(6:Int)<L.length:=by omega
  have b2:(8:Int)<l.length:=by omega
  try (simp[e0,b1,b2])
  repeat ((first|refine sR ?_|apply sC|apply sX);simp[e0,b1,b2])
  refine sT (sH ?_);simp
 have b1:¬(6:Int)<L.length:=by omega
 have b2:¬(8:Int)<l.length:=by omega
 have hc:¬(6<L.length∨8<l.length):=by omega
 try (simp[e0,b1,b2])
 repeat ((first|refine sR ?_|apply sC|apply sX);simp[e0,b1,b2])
 apply sN;refine sL (aPE t L l nb box tok nt) (fun i=>i<=L.length/\aA (qP t L) i=0) (fun i=>L.length-i) 0 ⟨ai _,rfl⟩ wkA ?_;rintro i S ⟨hi,gt⟩ hS;simp only[aPE] at hS;subst hS;have hw:=sW (i:=i) (by omega);by_cases hlt:i<L.length
 .have hg:=fun {e:Int} he hne=>aHj (l:=l) (e:=e) e0 hc gt hlt he hne
  have kw:=h.L _ (aa hlt);have jj:qP t L i=ruE t L[i]:=by unfold qP;rw[ab hlt]
  have gx:=uQ hlt;obtain⟨r,hr⟩:∃r,L[i]=r:=⟨_,rfl⟩
  rw[hr] at kw jj gx;simp only[hr] at hg;have jo:=fU r kw;try (simp[hlt,gx,Ru.rowK,hr])
  repeat ((first|refine sR ?_|apply sC|apply sX);simp[hlt,gx,Ru.rowK,hr])
  refine sD (jo _ _) ?_;simp;by_cases e1:cN r=0
  case neg =>
   have:=hg (show ruE t r=cN r by unfold ruE;rw[af e1]) e1
   rw[hR] at this;subst this;have hb:(cN r != 0)=true:=by simp[e1]
   try (simp[hb])
   repeat ((first|refine sR ?_|apply sC|apply sX);simp[hb])
   refine sT (sH ?_);simp
  obtain⟨s1,s2,s3⟩:=fZ e1;have ma:=aAd t h.t r.lg kw.lg (fun e he=>aD s2 e he);have hl2:=aAd t h.t r.rg kw.rg (fun e he=>aD s3 e he);try (simp[e1,hlt,gx,hr,Ru.rowK])
  repeat ((first|refine sR ?_|apply sC|apply sX);simp[e1,hlt,gx,hr,Ru.rowK])
  refine sD (ma _ _) ?_;simp;cases g1:dA t r.lg
  .have:=hg (show ruE t r=13 by unfold ruE;rw[ac (by simp[e1]),ac (by simp[g1])]) (by decide)
   rw[hR] at this;subst this;try (simp)
   repeat ((first|refine sR ?_|apply sC|apply sX);simp)
   refine sT (sH ?_);simp
  try (simp[hlt,gx,hr,Ru.rowK])
  repeat ((first|refine sR ?_|apply sC|apply sX);simp[hlt,gx,hr,Ru.rowK])
  refine sD (hl2 _ _) ?_;simp;cases g2:dA t r.rg
  .have:=hg (show ruE t r=13 by unfold ruE;rw[ac (by simp[e1]),af g1,ac (by simp[g2])]) (by decide)
   rw[hR] at this;subst this;try (simp)
   repeat ((first|refine sR ?_|apply sC|apply sX);simp)
   refine sT (sH ?_);simp
  have hz:ruE t r=0:=by unfold ruE;rw[ac (by simp[e1]),af g1,af g2]
  try (simp[hw])
  repeat ((first|refine sR ?_|apply sC|apply sX);simp[hw])
  apply sE;refine⟨i+1,⟨hlt,?_⟩,by omega,wkA⟩;simp only[aA,gt,jj,↓reduceIte,hz]
 .have:i=L.length:=by omega
  subst this;try (simp)
  repeat ((first|refine sR ?_|apply sC|apply sX);simp)
  apply sN;refine sL (aPm t l nb box tok nt) (fun i=>i<=l.length/\aA (wA t l) i=0) (fun i=>l.length-i) 0 ⟨ai _,rfl⟩ wkA ?_;rintro j S ⟨hj,ou⟩ hS;simp only[aPm] at hS;subst hS;have hw:=sW (i:=j) (by omega);by_cases hlt:j<l.length
  .have hg:=fun {e:Int} he hne=>aIe (e:=e) e0 hc gt ou hlt he hne
   have td:=h.l _ (aa hlt);have jj:wA t l j=coE t l[j]:=by unfold wA;rw[ab hlt]
   have gx:l[j]?=some l[j]:=ab hlt
   obtain⟨c,hcc⟩:∃c,l[j]=c:=⟨_,rfl⟩
   rw[hcc] at td jj gx;simp only[hcc] at hg;have zd:=aB6 t h.t c td;try (simp[hlt,gx,hcc])
   repeat ((first|refine sR ?_|apply sC|apply sX);simp[hlt,gx,hcc])
   refine sD (zd _ _) ?_;simp;by_cases e1:cnE t c=0
   .by_cases e2:c.kind=1
    .have hz:coE t c=0:=by unfold coE;rw[ac (by simp[e1]),af e2]
     try (simp[e1,e2,hw,hlt,gx,hcc])
     repeat ((first|refine sR ?_|apply sC|apply sX);simp[e1,e2,hw,hlt,gx,hcc])
     apply sE;refine⟨j+1,⟨hlt,?_⟩,by omega,wkA⟩;simp only[aA,ou,jj,↓reduceIte,hz]
    .have b3:(c.kind != 1)=true:=by simp[e2]
     have:=hg (show coE t c=8 by unfold coE;rw[ac (by simp[e1]),ac e2]) (by decide)
     rw[hR] at this;subst this;try (simp[e1,b3,hlt,gx,hcc])
     repeat ((first|refine sR ?_|apply sC|apply sX);simp[e1,b3,hlt,gx,hcc])
     refine sT (sH ?_);simp
   .have b3:(cnE t c != 0)=true:=by simp[e1]
    have:=hg (show coE t c=cnE t c by unfold coE;rw[af e1]) e1
    rw[hR] at this;subst this;try (simp[b3])
    repeat ((first|refine sR ?_|apply sC|apply sX);simp[b3])
    refine sT (sH ?_);simp
  .have:j=l.length:=by omega
   subst this;have:R=0:=by
    rw[<-hR];unfold gE;rw[ac (by simp[e0]),ac hc,ac (by simp[gt]),ou]
   subst this;try (simp)
   repeat ((first|refine sR ?_|apply sC|apply sX);simp)
   refine sT (sH ?_);simp
def aDi(t:Ty)(L:List Ru)(l:List Co)(nb:Nat)(box:Bxs)(x:DuA):AS :=
 ⟨tl [(9,I x.i),(8,.osl 6 (duR (duL t L l x.i)) x.o),(1,.d (fF L)),(2,.d (bV l)),(3,.ptr (nb+3) 0 0)],lb nb box [(3,[fQ t])],x.tok,x.nt⟩
def aCg(t:Ty)(L:List Ru)(l:List Co)(i:Nat)(X:List Du)(nb:Nat)(box:Bxs)(x:DuA):AS :=
 ⟨tl [(10,I x.i),(9,I i),(8,.osl 6 (duR (X++duK t L l i x.i)) x.o),(1,.d (fF L)),(2,.d (bV l)),(3,.ptr (nb+3) 0 0)],lb nb box [(3,[fQ t])],x.tok,x.nt⟩
def aO1(t:Ty)(L:List Ru)(l:List Co)(r:Ru)(i k:Nat)(W:List Ov)(X:List Du)(nb:Nat)(box:Bxs)(x:DuA):AS :=
 ⟨tl [(13,I x.i),(11,.d (ovs W)),(10,I k),(9,I i),(8,.osl 6 (duR (X++duN r i k W x.i)) x.o),(1,.d (fF L)),(2,.d (bV l)),(3,.ptr (nb+3) 0 0)],lb nb box [(3,[fQ t])],x.tok,x.nt⟩
set_option maxRecDepth 100000 in
theorem aEk(t:Ty)(L:List Ru)(l:List Co)(h:cA t L l)(hT:tyE t=0)(m7:∀r∈L,ruE t r=0)(hL:L.length<=6)(hl:l.length<=8):DC 51 [t.av,.d (fF L),.d (bV l)] (.tup [.d (pO (lN t L l).1),I (lN t L l).2]):=by
 intro tok nt box nb;obtain⟨R,hR⟩:∃R,lN t L l=R:=⟨_,rfl⟩
 rw[hR];refine sI func51 ntmps51 fun Hb Ht=>?_
 repeat first|simp|refine sR ?_
 apply sN;refine sL (aDi t L l nb box) (fun x=>x.i<=L.length/\aA (duE t L l) x.i=0/\TK tok nt x.tok x.nt [x.o]) (fun x=>L.length-x.i) ⟨0,.full,tok,nt⟩ ⟨ai _,rfl,(TK.start Ht).full⟩ (wM (nr0 _) rfl (by simp[ToL,lk,duL]) (by simp[aE,lk])) ?_;rintro⟨i,o1,iy,kv⟩ S ⟨hi,gt,htk⟩ hS;simp only[aDi] at hS hi gt htk;subst hS;have hw:=sW (i:=i) (by omega);have Dd:=aA3 h i;by_cases hlt:i<L.length
 .have su:=aa hlt;have kw:=h.L _ su;have wv:=m7 _ su;have gx:=uQ hlt;have ra:=aCA t L l i;have jj:∀k (hk:k<l.length),duW t L l i k=cF t L[i] l[k]/\duC t L l i k=duN L[i] i k (cF t L[i] l[k]).1 (cF t L[i] l[k]).1.length:=fun k hk=>aEh hlt hk
  have rq:∀k (hk:k<l.length) e,aA (fun k=>(duW t L l i k).2) k=0->(duW t L l i k).2=e->e≠0->R=([],e):=fun k hk e h2 h3 h4=>hR.symm.trans (aEJ hlt hk gt h2 h3 h4)
  have i6:=aHd hT wv;have j6:=i6.hl.va;obtain⟨r,hr⟩:∃r,L[i]=r:=⟨_,rfl⟩
  rw[hr] at su kw wv gx i6 j6;simp only[hr] at jj;have Cw:(duL t L l i).length<=48000000:=by
   have:i*(l.length*1000000)<=6*(8*1000000):=Nat.mul_le_mul (by omega) (bk _ hl)
   omega
  generalize hX:duL t L l i=X at *;try (simp[hlt])
  repeat ((first|refine sR ?_|apply sC|apply sX);simp[hlt])
  apply sN;refine sL (aCg t L l i X nb box) (fun x=>x.i<=l.length/\aA (fun k=>(duW t L l i k).2) x.i=0/\TK tok nt x.tok x.nt [x.o]) (fun x=>l.length-x.i) ⟨0,o1,iy,kv⟩ ⟨ai _,rfl,htk⟩ (wM htk.le rfl (by simp[ToL,lk,duK]) (by simp[aE,lk])) ?_;rintro⟨k,o2,ib,io⟩ S ⟨hk,j0,gw⟩ hS;simp only[aCg] at hS hk j0 gw;subst hS;have nc:=sW (i:=k) (by omega);have Ea:=aAQ h i k;by_cases ky:k<l.length
  .have wh:=aa ky;have td:=h.l _ wh;obtain⟨w1,w2⟩:=jj k ky;have qy:l[k]?=some l[k]:=ab ky
   have ss:=aC0 t L l i k;rw[w2] at ss;have he:=rq k ky;rw[w1] at he;obtain⟨c,hc⟩:∃c,l[k]=c:=⟨_,rfl⟩
   rw[hc] at wh td qy w1 w2 ss he;have u0:=aJl t h.t r kw c td;have Cy:=aBe (t:=t) kw td;have qq:=fun o (ho:o∈(cF t r c).1)=>(aAU (xQ ho)).1
   obtain⟨W,hW⟩:∃W,cF t r c=W:=⟨_,rfl⟩
   obtain⟨wn,wf⟩:=Cy;rw[hW] at u0 wn wf qq w1 ss he;obtain⟨W,e⟩:=W;simp only at u0 wn wf qq w1 ss he;try (simp[ky,qy,hc,hlt,gx,hr,Ru.rowK])
   repeat ((first|refine sR ?_|apply sC|apply sX);simp[ky,qy,hc,hlt,gx,hr,Ru.rowK])
   refine sD (u0 _ _) ?_;simp;by_cases e1:e=0
   case neg =>
    have:=he e j0 rfl e1
    subst this;have hb:(e != 0)=true:=by simp[e1]
    try (simp[hb])
    repeat ((first|refine sR ?_|apply sC|apply sX);simp[hb])
    refine sT (sG Hb Ht gw.old gw.le ?_);simp[pO]
   subst e1;generalize hY:X++duK t L l i k=Y at *;have Cz:Y.length<=56000000:=by
    rw[<-hY,am];have:k*1000000<=8*1000000:=bk _ (by omega)
    omega
   try (simp)
   repeat ((first|refine sR ?_|apply sC|apply sX);simp)
   apply sN;refine sL (aO1 t L l r i k W Y nb box) (fun x=>x.i<=W.length/\TK tok nt x.tok x.nt [x.o]) (fun x=>W.length-x.i) ⟨0,o2,ib,io⟩ ⟨ai _,gw⟩ (wM gw.le rfl (by simp[ToL,lk,duN,<-hY]) (by simp[aE,lk])) ?_;rintro⟨n,o3,i7,ka⟩ S ⟨hn,ig⟩ hS;simp only[aO1] at hS hn ig;subst hS;have vw:=sW (i:=n) (by omega);have o7:=aAZ r i k W n;by_cases m9:n<W.length
   .have xg:=aa m9;have yx:=aLn m9;have uz:=aBM r i k W m9;have AQ:=qq _ xg;have xh:=wf _ xg;obtain⟨o,ho⟩:∃o,W[n]=o:=⟨_,rfl⟩
    rw[ho] at xg yx uz AQ xh;have AR:=aDv r kw o xh i6.sp j6 AQ;obtain⟨B0,hB0⟩:∃B0,lQ r o=B0:=⟨_,rfl⟩
    rw[hB0] at AR uz;try (simp[m9,yx,ho,hlt,gx,hr,Ru.rowK])
    repeat ((first|refine sR ?_|apply sC|apply sX);simp[m9,yx,ho,hlt,gx,hr,Ru.rowK])
    refine sD (AR _ _) ?_;simp;try (simp)
    repeat ((first|refine sR ?_|apply sC|apply sX);simp)
    refine⟨⟨by omega,ig.live⟩,?_⟩;try (simp[vw])
    repeat ((first|refine sR ?_|apply sC|apply sX);simp[vw])
    apply sE;exact⟨⟨n+1,_,_,_⟩,⟨m9,ig.app⟩,by simp only;omega,wM ig.app.le rfl (by simp[ToL,lk,uz]) (by simp[aE,lk])⟩
   .have:n=W.length:=by omega
    subst this;have ue:X++duK t L l i (k+1)=Y++duN r i k W W.length:=by rw[ss,<-List.append_assoc,hY]
    have pj:X.map Du.cells++(duK t L l i (k+1)).map Du.cells=Y.map Du.cells++(duN r i k W W.length).map Du.cells:=by rw[<-List.map_append,<-List.map_append,ue]
    try (simp[nc])
    repeat ((first|refine sR ?_|apply sC|apply sX);simp[nc])
    apply sE;refine⟨⟨k+1,o3,i7,ka⟩,⟨ky,?_,ig⟩,by simp only;omega,wM ig.le rfl (by simp[ToL,lk,pj]) (by simp[aE,lk])⟩;show (if aA (fun k=>(duW t L l i k).2) k=0 then (duW t L l i k).2 else aA (fun k=>(duW t L l i k).2) k)=0
    rw[af j0,w1]
  .have:k=l.length:=by omega
   subst this;try (simp[hw])
   repeat ((first|refine sR ?_|apply sC|apply sX);simp[hw])
   apply sE;refine⟨⟨i+1,o2,ib,io⟩,⟨hlt,?_,gw⟩,by simp only;omega,wM gw.le rfl (by simp[ToL,lk,ra]) (by simp[aE,lk])⟩;show (if aA (duE t L l) i=0 then duE t L l i else aA (duE t L l) i)=0
   rw[af gt];exact j0
 .have:i=L.length:=by omega
  subst this;have:R=(duL t L l L.length,0):=by
   rw[<-hR];unfold lN;rw[ac];exact fun hne=>hne gt
  subst this;try (simp)
  repeat ((first|refine sR ?_|apply sC|apply sX);simp)
  refine sT (sG Hb Ht htk.old htk.le ?_);simp
end Go.AM
namespace Go.Proofs.YtchfmhhbiealcaaGreatDoor.values
open Go Go.Proofs Go.RowKit Go.Shelf Go.Sort
open Go.Proofs.Tryz
set_option maxRecDepth 100000 in
set_option maxHeartbeats 2000000 in
theorem twice_nil(a:Option Addr)(cap:Nat)(w:World):Calls prog 152 #[.slice a 0 cap] w fun e W'=>e=.returned (.bool false)/\Below w.heap.size w W':=by
 have hB1:Below w.heap.size w (w.alloc (.cells #[.slice a 0 cap] 37)):=(Below.refl _ w).alloc (Nat.le_refl _) _
 have hsz:(w.alloc (.cells #[.slice a 0 cap] 37)).heap.size=w.heap.size+1:=by simp
 have Hb:(w.alloc (.cells #[.slice a 0 cap] 37)).cell? ⟨w.heap.size,0,none⟩=some (.slice a 0 cap):=(Boxed.new w 37 _).cell
 have hs:=aBB w.heap.size _ _ (by omega) Hb (.inl ⟨a,cap,rfl,rfl⟩);clear Hb;obtain⟨w1,hw1⟩:∃w1,w.alloc (.cells #[.slice a 0 cap] 37)=w1:=⟨_,rfl⟩
 rw[hw1] at hs hB1 hsz
 go_enter func152,ntmps152
 go_wp2_with (first
  | (go_at_call 215;refine(aDr _ _ _ _).mono ?_;rintro e w' ⟨rfl,rfl⟩;rw[hw1])
  | (go_at_call 214;refine hs.mono ?_;rintro e w2 ⟨rfl,s6⟩)
  | (go_at_call 213;refine(Tryz.slices_Compact_int_empty none 0 _).mono ?_;rintro e w3 ⟨rfl,rfl⟩))
 go_ret
 exact⟨rfl,hB1.trans (s6.mono (by omega))⟩
set_option maxRecDepth 100000 in
set_option maxHeartbeats 2000000 in
theorem twice_any(b off cap:Nat)(zs:List Int)(w:World)(hne:zs≠[])(hlen:zs.length<=maxLen)(hbytes:zs.length*8<=140737488351232)(hc:∀j,j<zs.length->w.cell? ⟨b,off+j,none⟩=some (.int .i64 (zs.getD j 0))):
    Calls prog 152 #[.slice (some ⟨b,off,none⟩) zs.length cap] w fun e W'=>e=.returned (.bool (decide ((Lib.compact (zs.mergeSort fun x y=>decide (x<=y))).length<zs.length)))/\Below w.heap.size w W':=by
  have hp:0<zs.length:=List.length_pos_iff.2 hne
  have hb:b<w.heap.size:=World.block_lt_of_cell? w _ (hc 0 hp)
  have hB1:Below w.heap.size w (w.alloc (.cells #[.slice (some ⟨b,off,none⟩) zs.length cap] 37)):=(Below.refl _ w).alloc (Nat.le_refl _) _
  have hsz:(w.alloc (.cells #[.slice (some ⟨b,off,none⟩) zs.length cap] 37)).heap.size=w.heap.size+1:=by simp
  have Hb:(w.alloc (.cells #[.slice (some ⟨b,off,none⟩) zs.length cap] 37)).cell? ⟨w.heap.size,0,none⟩=some (.slice (some ⟨b,off,none⟩) zs.length cap):=(Boxed.new w 37 _).cell
  have hI:aBE (w.alloc (.cells #[.slice (some ⟨b,off,none⟩) zs.length cap] 37)).heap.size (w.alloc (.cells #[.slice (some ⟨b,off,none⟩) zs.length cap] 37)) (.slice (some ⟨b,off,none⟩) zs.length cap) zs :=
    .inr ⟨b,off,cap,rfl,by omega,fun j hj=>by rw[<-List.getD_eq_getElem?_getD];exact(hB1.cell (p:=⟨b,off+j,none⟩) hb).trans (hc j hj)⟩
  have hs:=aH2 w.heap.size _ zs hlen hbytes _ (by omega) Hb hI hne;clear Hb hI hc;obtain⟨w1,hw1⟩:∃w1,w.alloc (.cells #[.slice (some ⟨b,off,none⟩) zs.length cap] 37)=w1:=⟨_,rfl⟩
  rw[hw1] at hs hB1 hsz
  go_enter func152,ntmps152
  go_wp2_with (first
    | (go_at_call 215;refine(aDr _ _ _ _).mono ?_;rintro e w' ⟨rfl,rfl⟩;rw[hw1])
    | (go_at_call 214;refine hs.mono ?_;rintro e w2 ⟨g,cap2,rfl,s1,s2,s3,s4,s5,s6⟩
       obtain⟨g',c',hg',t1,t2,t3,t4,t5,hH⟩:=Lib.holds_of_ownsRow s5 (by simp);cases hg'
       have hcomp:=Tryz.slices_Compact_int g 0 cap2 (zs.mergeSort fun x y=>decide (x<=y)) w2 hH (by rw[t5];unfold maxLen at hlen;omega) (by rw[t5];exact s3);rw[t5] at hcomp;have X:Aside (Below w1.heap.size w1 w2/\w1.heap.size<=g):=⟨s6,s1⟩
       clear s5 s6 hH hs)
    | (go_at_call 213;refine hcomp.mono ?_;rintro e w3 ⟨rfl,q,rfl⟩))
  go_ret
  exact⟨by simp,hB1.trans (Below.mono (Lib.below_putRow X.out.1 X.out.2) (by omega))⟩
end Go.Proofs.YtchfmhhbiealcaaGreatDoor.values
namespace Go.AM
open Go Go.Proofs Go.RowKit
open Go.Proofs.Tryz
def twK(l:List Int):Bool:=decide ((jM l).length<l.length)
theorem aFo(l:List Int):twK l=true↔¬l.Nodup:=by
 have h:=sQ l;rw[sV] at h;have g9:(jM l).length<=l.length:=by
  have:=Lib.compact_length_le (cP l)
  have h2:(cP l).length=l.length:=(oM l).length_eq
  unfold jM;omega
 unfold twK;rw[au,<-h];omega
theorem aFB(l:List Int)(hl:l.length<=1000000)(tok:Tks)(nt:Nat):cZ prog 152 [.d (ints l)] tok nt (B (twK l)) tok nt:=by
 refine cZ.of_below (gO.mk func152 rfl (by kernel_rfl)) rfl fun G w vals hr=>?_
 obtain⟨hlen,p8⟩:=hr
 match vals,hlen with
 | [v],_ =>
  have h0:=p8 0 (by simp) (by simp);simp only[cg] at h0;cases h0 with
  | d h0 =>
   obtain⟨A,cap,rfl,iq,iu,hA,hc⟩:=vJ h0;by_cases e:l=[]
   .subst e;exact YtchfmhhbiealcaaGreatDoor.values.twice_nil A cap w
   .obtain⟨a,rfl⟩:=hA e;have hp:0<l.length:=dg.2 e
    have qt:=hc a rfl
    have hs:a.spot=none:=by
     cases px:a.spot with
     | none=>rfl
     | some q =>
      exfalso
      have:=qt 0 hp
      simp only[World.cell?,Addr.add,px,Option.isSome_some,↓reduceIte] at this;split at this<;>simp at this
    obtain⟨b,off,sp⟩:=a;simp only at hs;subst hs;refine YtchfmhhbiealcaaGreatDoor.values.twice_any b off cap l w e (by unfold maxLen;omega) (by omega) fun j hj=>?_
    have h1:=qt j hj;unfold Addr.add at h1;split at h1
    .rename_i e;subst e;exact h1
    .exact h1
def aL9(l:List Int)(nb:Nat)(box:Bxs)(tok:Tks)(nt:Nat)(i:Nat):AS:=⟨tl [(0,.d (ints l)),(3,I i)],lb nb box [],tok,nt⟩
def aHU(l:List Int)(i:Nat)(nb:Nat)(box:Bxs)(tok:Tks)(nt:Nat)(k:Nat):AS:=⟨tl [(0,.d (ints l)),(3,I i),(4,I k)],lb nb box [],tok,nt⟩
theorem pR(l:List Int)(hl:l.length<=1000000):DC 216 [.d (ints l)] (B (decide l.Nodup)):=by
 intro tok nt box nb;obtain⟨R,hR⟩:∃R,decide l.Nodup=R:=⟨_,rfl⟩
 rw[hR];have hnd:=@iI l;refine sI func216 ntmps216 fun Hb Ht=>?_
 repeat first|simp|refine sR ?_
 apply sN;refine sL (aL9 l nb box tok nt) (fun i=>i<=l.length/\∀a b,a<b->b<i->l.getD a 0≠l.getD b 0) (fun i=>l.length-i) 0 ⟨ai _,fun a b _ h=>absurd h (b9 _)⟩ wkA ?_;rintro i S ⟨hi,jq⟩ hS;simp only[aL9] at hS;subst hS;have hw:=sW (i:=i) (by omega);by_cases hlt:i<l.length
 .try (simp[hlt])
  repeat ((first|refine sR ?_|apply sC|apply sX);simp[hlt])
  apply sN;refine sL (aHU l i nb box tok nt) (fun k=>k<=i/\∀a,a<k->l.getD a 0≠l.getD i 0) (fun k=>i-k) 0 ⟨ai _,fun a h=>absurd h (b9 _)⟩ wkA ?_;rintro k S ⟨hk,AW⟩ hS;simp only[aHU] at hS;subst hS;have nc:=sW (i:=k) (by omega);by_cases ky:k<i
  .have hk2:k<l.length:=by omega
   have g1:l.getD k 0=l[k]:=by simp[hk2]
   have g2:l.getD i 0=l[i]:=by simp[hlt]
   by_cases e:l[i]=l[k]
   .have b:(l[i]==l[k])=true:=by simp[e]
    have:¬l.Nodup:=fun h=>hnd.1 h k i ky hlt (by rw[g1,g2,e])
    rw[ca this] at hR;try (simp[hlt,hk2,ky,b])
    repeat ((first|refine sR ?_|apply sC|apply sX);simp[hlt,hk2,ky,b])
    refine sT (sH ?_);simp[<-hR]
   .have b:(l[i]==l[k])=false:=by simp[e]
    try (simp[hlt,hk2,ky,b,nc])
    repeat ((first|refine sR ?_|apply sC|apply sX);simp[hlt,hk2,ky,b,nc])
    apply sE;refine⟨k+1,⟨ky,fun a ha=>?_⟩,by omega,wkA⟩;by_cases e2:a=k
    .subst e2;simp only[ab hk2,du];exact fun h=>e h.symm
    .have h9:=AW a (by omega);rw[g2] at h9;simpa[ao] using h9
  .have:k=i:=by omega
   subst this;try (simp[ky,hw])
   repeat ((first|refine sR ?_|apply sC|apply sX);simp[ky,hw])
   apply sE;refine⟨k+1,⟨hlt,fun a b sy hb=>?_⟩,by omega,wkA⟩;by_cases e2:b=k
   .subst e2;exact AW a sy
   .exact jq a b sy (by omega)
 .have:i=l.length:=by omega
  subst this;rw[ct (hnd.2 jq)] at hR;try (simp)
  repeat ((first|refine sR ?_|apply sC|apply sX);simp)
  refine sT (sH ?_);simp[<-hR]
def aLH(t:Ty)(p g:Gr)(m:Mo)(inj:Bool)(nb:Nat)(box:Bxs)(tok:Tks)(nt:Nat)(i:Nat):AS :=
 ⟨tl [(11,I i),(8,.ptr (nb+8) 0 0),(7,.ptr (nb+7) 0 0),(6,.ptr (nb+6) 0 0),(5,.ptr (nb+5) 0 0),(4,B inj)],lb nb box [(8,[[.d (ints m.nodes),.d (ints m.edges)]]),(7,[[.d (ints g.nodes),.d (AM.edges g.edges)]]),(6,[[.d (ints p.nodes),.d (AM.edges p.edges)]]),(5,[[.d (nts t.nodes),.d (ets t.edges)]])],tok,nt⟩
def aLh(t:Ty)(p g:Gr)(m:Mo)(inj:Bool)(nb:Nat)(box:Bxs)(tok:Tks)(nt:Nat)(i:Nat):AS :=
 ⟨tl [(12,I i),(8,.ptr (nb+8) 0 0),(7,.ptr (nb+7) 0 0),(6,.ptr (nb+6) 0 0),(5,.ptr (nb+5) 0 0),(4,B inj)],lb nb box [(8,[[.d (ints m.nodes),.d (ints m.edges)]]),(7,[[.d (ints g.nodes),.d (AM.edges g.edges)]]),(6,[[.d (ints p.nodes),.d (AM.edges p.edges)]]),(5,[[.d (nts t.nodes),.d (ets t.edges)]])],tok,nt⟩
theorem aHB{t:Ty}{p g:Gr}{m:Mo}{i:Nat}(l1:m.nodes.length=p.nodes.length)(l2:m.edges.length=p.edges.length)(h0:aA (iX t p g m) i=0)(hi:i<m.nodes.length)(h:iX t p g m i≠0):gN t p g m=iX t p g m i:=by
 have:=aK h0 h m.nodes.length hi
 unfold gN;rw[ac (by omega),this,af h]
theorem aH4{t:Ty}{p g:Gr}{m:Mo}{i:Nat}(l1:m.nodes.length=p.nodes.length)(l2:m.edges.length=p.edges.length)(hn:aA (iX t p g m) m.nodes.length=0)(h0:aA (gZ p g m) i=0)(hi:i<m.edges.length)(h:gZ p g m i≠0):gN t p g m=gZ p g m i:=by
 have:=aK h0 h m.edges.length hi
 unfold gN;rw[ac (by omega),ac (by simp[hn]),this]
theorem qR{t:Ty}{p g:Gr}{m:Mo}{inj:Bool}(h:gN t p g m≠0):vA t p g m inj=gN t p g m:=by unfold vA;rw[af h]
set_option maxRecDepth 100000 in
theorem aGy(t:Ty)(ht:t.Fit)(p g:Gr)(hp:p.Fit)(hg:g.Fit)(h0:kO t p g=0)(m:Mo)(inj:Bool):DC 153 [t.av,p.av,g.av,m.av,B inj] (I (vA t p g m inj)):=by
 intro tok nt box nb;have v6:=hp.n;have s8:=hp.e;have sc:=hg.n;have hge:=hg.e;obtain⟨hT,A2,Eb,typ,tyg⟩:=nF h0;have yu:=aD A2;have AO:=gB typ;have uy:=gB tyg;have uk:=jH hT;refine sI func153 ntmps153 fun Hb Ht=>?_
 by_cases l1:m.nodes.length=p.nodes.length
 case neg =>
  have hR:vA t p g m inj=20:=by
   have:gN t p g m=20:=by unfold gN;rw[af (.inl l1)]
   rw[qR (by rw[this];decide),this]
  have b1:((m.nodes.length:Int) != (p.nodes.length:Int))=true:=by simp;omega
  rw[hR];try (simp[b1])
  repeat ((first|refine sR ?_|apply sC|apply sX);simp[b1])
  refine sT (sH ?_);simp
 by_cases l2:m.edges.length=p.edges.length
 case neg =>
  have hR:vA t p g m inj=20:=by
   have:gN t p g m=20:=by unfold gN;rw[af (.inr l2)]
   rw[qR (by rw[this];decide),this]
  have b1:((m.nodes.length:Int) != (p.nodes.length:Int))=false:=by simp;omega
  have b2:((m.edges.length:Int) != (p.edges.length:Int))=true:=by simp;omega
  rw[hR];try (simp[b1,b2])
  repeat ((first|refine sR ?_|apply sC|apply sX);simp[b1,b2])
  refine sT (sH ?_);simp
 have b1:((m.nodes.length:Int) != (p.nodes.length:Int))=false:=by simp;omega
 have b2:((m.edges.length:Int) != (p.edges.length:Int))=false:=by simp;omega
 try (simp[b1,b2])
 repeat ((first|refine sR ?_|apply sC|apply sX);simp[b1,b2])
 apply sN;have rj:∀i,i<m.nodes.length->aA (iX t p g m) i=0->∀e,iX t p g m i=e->e≠0->vA t p g m inj=e:=fun i hi h1 e h2 h3=>by
  have:=aHB l1 l2 h1 hi (by rw[h2];exact h3)
  rw[qR (by rw[this,h2];exact h3),this,h2]
 refine sL (aLH t p g m inj nb box tok nt) (fun i=>i<=m.nodes.length/\aA (iX t p g m) i=0) (fun i=>m.nodes.length-i) 0 ⟨ai _,rfl⟩ wkA ?_;rintro i S ⟨hi,gt⟩ hS;simp only[aLH] at hS;subst hS;have hw:=sW (i:=i) (by omega);by_cases hlt:i<m.nodes.length
 .have j4:i<p.nodes.length:=by omega
  have j7:m.nodes.getD i 0=m.nodes[i]:=by simp[hlt]
  have l8:p.nodes.getD i 0=p.nodes[i]:=by simp[j4]
  have yl:=AO _ (aa j4);obtain⟨v,hv⟩:∃v,m.nodes[i]=v:=⟨_,rfl⟩
  obtain⟨u,hu⟩:∃u,p.nodes[i]=u:=⟨_,rfl⟩
  rw[hv] at j7;rw[hu] at l8 yl;by_cases g8:v<0
  .have hR:=rj i hlt gt 6 (by simp only[iX,j7];rw[af (.inl g8)]) (by decide);rw[hR];try (simp[hlt,hv,g8])
   repeat ((first|refine sR ?_|apply sC|apply sX);simp[hlt,hv,g8])
   refine sT (sH ?_);simp
  by_cases hbig:(g.nodes.length:Int)<=v
  .have hR:=rj i hlt gt 6 (by simp only[iX,j7];rw[af (.inr hbig)]) (by decide);rw[hR];try (simp[hlt,hv,g8,hbig])
   repeat ((first|refine sR ?_|apply sC|apply sX);simp[hlt,hv,g8,hbig])
   refine sT (sH ?_);simp
  have iv:v.toNat<g.nodes.length:=by omega
  have uu:0<=v:=by omega
  have py:v<(g.nodes.length:Int):=by omega
  have lq:g.nodes.getD v.toNat 0=g.nodes[v.toNat]:=by simp[iv]
  have og:=uy _ (aa iv);have hB:=pS t u yl.1 uk (t.nodes.length) g.nodes[v.toNat] og.2 og.2;try (simp[hlt,hv,g8,hbig,iv,uu,py,j4,hu])
  repeat ((first|refine sR ?_|apply sC|apply sX);simp[hlt,hv,g8,hbig,iv,uu,py,j4,hu])
  refine sD (hB _ _) ?_;simp;cases hb:isB t g.nodes[v.toNat] u
  .have hR:=rj i hlt gt 13 (by simp only[iX,j7,l8,lq];rw[ac (by omega),ac (by simp[hb])]) (by decide);rw[hR];try (simp)
   repeat ((first|refine sR ?_|apply sC|apply sX);simp)
   refine sT (sH ?_);simp
  .have hN:iX t p g m i=0:=by simp only[iX,j7,l8,lq];rw[ac (by omega),af hb]
   try (simp[hw])
   repeat ((first|refine sR ?_|apply sC|apply sX);simp[hw])
   apply sE;refine⟨i+1,⟨hlt,?_⟩,by omega,wkA⟩;simp only[aA,gt,hN,↓reduceIte]
 .have i6:i=m.nodes.length:=by omega
  subst i6;try (simp)
  repeat ((first|refine sR ?_|apply sC|apply sX);simp)
  apply sN;have oi:∀i,i<m.edges.length->aA (gZ p g m) i=0->∀e,gZ p g m i=e->e≠0->vA t p g m inj=e:=fun i hi h1 e h2 h3=>by
   have:=aH4 l1 l2 gt h1 hi (by rw[h2];exact h3)
   rw[qR (by rw[this,h2];exact h3),this,h2]
  refine sL (aLh t p g m inj nb box tok nt) (fun i=>i<=m.edges.length/\aA (gZ p g m) i=0) (fun i=>m.edges.length-i) 0 ⟨ai _,rfl⟩ wkA ?_;rintro i S ⟨hi,i8⟩ hS;simp only[aLh] at hS;subst hS;have hw:=sW (i:=i) (by omega);by_cases hlt:i<m.edges.length
  .have j4:i<p.edges.length:=by omega
   have j7:m.edges.getD i 0=m.edges[i]:=by simp[hlt]
   have l8:p.edges.getD i default=p.edges[i]:=by simp[j4]
   obtain⟨x1,x2,x3,x4⟩:=yu _ (aa j4);obtain⟨v,hv⟩:∃v,m.edges[i]=v:=⟨_,rfl⟩
   obtain⟨x,hx⟩:∃x,p.edges[i]=x:=⟨_,rfl⟩
   rw[hv] at j7;rw[hx] at l8 x1 x2 x3 x4;rw[<-l1] at x2 x4;have y1:x.fr.toNat<m.nodes.length:=by omega
   have y2:x.to.toNat<m.nodes.length:=by omega
   have mt:m.nodes.getD x.fr.toNat 0=m.nodes[x.fr.toNat]:=by simp[y1]
   have nq:m.nodes.getD x.to.toNat 0=m.nodes[x.to.toNat]:=by simp[y2]
   by_cases g8:v<0
   .have hR:=oi i hlt i8 6 (by simp only[gZ,j7];rw[af (.inl g8)]) (by decide);rw[hR];try (simp[hlt,hv,g8])
    repeat ((first|refine sR ?_|apply sC|apply sX);simp[hlt,hv,g8])
    refine sT (sH ?_);simp
   by_cases hbig:(g.edges.length:Int)<=v
   .have hR:=oi i hlt i8 6 (by simp only[gZ,j7];rw[af (.inr hbig)]) (by decide);rw[hR];try (simp[hlt,hv,g8,hbig])
    repeat ((first|refine sR ?_|apply sC|apply sX);simp[hlt,hv,g8,hbig])
    refine sT (sH ?_);simp
   have iv:v.toNat<g.edges.length:=by omega
   have uu:0<=v:=by omega
   have py:v<(g.edges.length:Int):=by omega
   have lq:g.edges.getD v.toNat default=g.edges[v.toNat]:=by simp[iv]
   have hnn:¬(v<0∨(g.edges.length:Int)<=v):=by omega
   obtain⟨y,hy⟩:∃y,g.edges[v.toNat]=y:=⟨_,rfl⟩
   rw[hy] at lq;refine sR ?_;simp[hlt,hv,g8,hbig];apply sC;simp;refine sR ?_;simp[hlt,hv,g8,hbig];apply sC;simp;apply sN;refine AL.region2 cC (nr0 _) (by kernel_rfl) (rF.of (by simp)) ?_;simp[iv,uu,py,j4,hlt,hv,hx,hy];refine sR ?_;simp;apply sC;simp;refine⟨fun oj=>?_,fun oj=>?_⟩
   .have hR:=oi i hlt i8 13 (by simp only[gZ,j7,l8,lq];rw[ac hnn,af oj]) (by decide);rw[hR];try (simp)
    repeat ((first|refine sR ?_|apply sC|apply sX);simp)
    refine sT (sH ?_);simp
   .by_cases kw:m.nodes[x.fr.toNat]=y.fr
    .have jz:(m.nodes[x.fr.toNat] != y.fr)=false:=by simp[kw]
     by_cases hto:m.nodes[x.to.toNat]=y.to
     .have hb2:(m.nodes[x.to.toNat] != y.to)=false:=by simp[hto]
      have hN:gZ p g m i=0:=by simp only[gZ,j7,l8,lq,mt,nq];rw[ac hnn,ac (by simpa using oj),ac (by simp[kw,hto])]
      try (simp[x1,x2,x3,x4,y1,y2,jz,hb2,hw])
      repeat ((first|refine sR ?_|apply sC|apply sX);simp[x1,x2,x3,x4,y1,y2,jz,hb2,hw])
      apply sE;refine⟨i+1,⟨hlt,?_⟩,by omega,wkA⟩;simp only[aA,i8,hN,↓reduceIte]
     .have hb2:(m.nodes[x.to.toNat] != y.to)=true:=by simp[hto]
      have hR:=oi i hlt i8 11 (by simp only[gZ,j7,l8,lq,mt,nq];rw[ac hnn,ac (by simpa using oj),af (.inr hto)]) (by decide);rw[hR];try (simp[x1,x2,x3,x4,y1,y2,jz,hb2])
      repeat ((first|refine sR ?_|apply sC|apply sX);simp[x1,x2,x3,x4,y1,y2,jz,hb2])
      refine sT (sH ?_);simp
    .have jz:(m.nodes[x.fr.toNat] != y.fr)=true:=by simp[kw]
     have hR:=oi i hlt i8 11 (by simp only[gZ,j7,l8,lq,mt,nq];rw[ac hnn,ac (by simpa using oj),af (.inl kw)]) (by decide);rw[hR];try (simp[x1,x2,x3,x4,y1,y2,jz])
     repeat ((first|refine sR ?_|apply sC|apply sX);simp[x1,x2,x3,x4,y1,y2,jz])
     refine sT (sH ?_);simp
  .have i6:i=m.edges.length:=by omega
   subst i6;have C1:gN t p g m=0:=by
    unfold gN;rw[ac (by omega),ac (by simp[gt]),i8]
   have d1:=pR m.nodes (by omega);have d2:=pR m.edges (by omega);obtain⟨R,hR⟩:∃R,vA t p g m inj=R:=⟨_,rfl⟩
   rw[hR];unfold vA at hR;rw[ac (by simp[C1])] at hR;cases inj
   .rw[ac (by simp)] at hR;try (simp)
    repeat ((first|refine sR ?_|apply sC|apply sX);simp)
    refine sT (sH ?_);simp[<-hR]
   .try (simp)
    repeat ((first|refine sR ?_|apply sC|apply sX);simp)
    refine sD (d1 _ _) ?_;simp;by_cases n1:m.nodes.Nodup
    .try (simp[n1])
     repeat ((first|refine sR ?_|apply sC|apply sX);simp[n1])
     refine sD (d2 _ _) ?_;simp;by_cases n2:m.edges.Nodup
     .rw[ac (by simp[n1,n2])] at hR;try (simp[n2])
      repeat ((first|refine sR ?_|apply sC|apply sX);simp[n2])
      refine sT (sH ?_);simp[<-hR]
     .rw[af ⟨rfl,.inr n2⟩] at hR;try (simp[n2])
      repeat ((first|refine sR ?_|apply sC|apply sX);simp[n2])
      refine sT (sH ?_);simp[<-hR]
    .rw[af ⟨rfl,.inl n1⟩] at hR;try (simp[n1])
     repeat ((first|refine sR ?_|apply sC|apply sX);simp[n1])
     refine sT (sH ?_);simp[<-hR]
theorem aGt(t:Ty)(ht:t.Fit)(p g:Gr)(hp:p.Fit)(hg:g.Fit)(m:Mo)(inj:Bool):DC 96 [t.av,p.av,g.av,m.av,B inj] (I (xC t p g m inj)):=by
 intro tok nt box nb;have rm:=aFW t ht p g hp hg;obtain⟨R,hR⟩:∃R,xC t p g m inj=R:=⟨_,rfl⟩
 rw[hR];unfold xC at hR;refine sI func96 ntmps96 fun Hb Ht=>?_
 repeat first|simp|refine sR ?_
 refine sD (rm _ _) ?_;simp;by_cases c1:kO t p g=0
 .rw[ac (by simp[c1])] at hR;have hm:=aGy t ht p g hp hg c1 m inj;rw[hR] at hm;try (simp[c1])
  repeat ((first|refine sR ?_|apply sC|apply sX);simp[c1])
  refine sD (hm _ _) ?_;simp;try (simp)
  repeat ((first|refine sR ?_|apply sC|apply sX);simp)
  refine sT (sH ?_);simp
 .rw[af c1] at hR;try (simp[c1])
  repeat ((first|refine sR ?_|apply sC|apply sX);simp[c1])
  refine sT (sH ?_);simp[<-hR]
end Go.AM
