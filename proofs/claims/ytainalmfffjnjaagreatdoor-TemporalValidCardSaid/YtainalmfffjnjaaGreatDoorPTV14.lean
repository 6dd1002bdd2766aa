/-
 Parts of the proof, as merged from many texts: a machine over data, what the functions compute, plain laws.
-/
import Derived.Test.YtainalmfffjnjaaGreatDoorPTV13
import Derived.WalkKit
import Derived.ProofKit
import Derived.OpenShut
import Derived.ChangeStays
import Derived.SizedLaws
import Derived.Test.YtainalmfffjnjaaGreatDoorRows
import Derived.LaidMore
import Derived.ChangeBears2
set_option linter.unusedSimpArgs false
set_option linter.unusedVariables false
namespace Go.AM
open Go Go.Proofs
def hst0:Hs:=⟨⟨[],[]⟩,[]⟩
def hst1:Hs:=⟨⟨[0],[]⟩,[[]]⟩
def hst2:Hs:=⟨⟨[0,0],[]⟩,[[],[]]⟩
def hs3:List Hs:=[hst0,hst1,hst2]
def ar3:List Ar50:=[⟨0,0,1,⟨[],[]⟩,[]⟩,⟨0,1,0,⟨[],[]⟩,[]⟩,⟨0,1,2,⟨[],[]⟩,[]⟩]
def foA:Fo:=.mk 1 ⟨#[97]⟩ []
def foB:Fo:=.mk 1 ⟨#[98]⟩ []
def foS:Fo:=.mk 2 ⟨#[]⟩ [foA]
def fo1:Fo:=.mk 6 ⟨#[]⟩ [foS]
def fo2:Fo:=.mk 11 ⟨#[]⟩ [foB]
def fo3:Fo:=.mk 7 ⟨#[]⟩ [foB]
def fo4:Fo:=.mk 10 ⟨#[]⟩ [foS]
theorem cosT_ok:Cos cosT:=⟨by decide,fun c hc=>by
 simp only [cosT,List.mem_cons,List.not_mem_nil,or_false] at hc;rcases hc with rfl|rfl|rfl|rfl
 ·exact ⟨by decide,⟨by decide,by decide⟩,by decide,by simp [coA]⟩
 ·exact ⟨by decide,⟨by decide,by decide⟩,by decide,by simp [coB]⟩
 ·exact ⟨by decide,⟨by decide,by decide⟩,by decide,by simp [coC]⟩
 ·exact ⟨by decide,⟨by decide,by decide⟩,by decide,by simp [coD]⟩⟩
theorem cosT_cn:∀ c∈cosT,cnE tyT c=0:=by decide +kernel
theorem cosT_kd:∀ c∈cosT,c.kind=1:=by decide +kernel
theorem tyT_ok:tyE tyT=0:=by decide +kernel
theorem hs3_r:∀ h∈hs3,(hostR tyT (atsK tyT) h).2=0:=by decide +kernel
theorem hs3_v:∀ h∈hs3,∀ c∈cosT,(vioS tyT c h.g fun _=>false).2=0:=by decide +kernel
theorem gvh3 (f:Fo) (hs:f.Sm) (hv:validF f cosT=0):GvH tyT hs3 ar3 f cosT where
 ft:=tyT_fit
 sm:=hs
 cos:=cosT_ok
 va:=validF_zero hv
 v0:=hv
 ty:=tyT_ok
 cn:=cosT_cn
 kd:=cosT_kd
 hn:=by decide
 hn2:=by decide
 an:=by decide
 hg:=fun h hh=>by
  refine ⟨?_,?_,hs3_r h hh⟩
  ·simp only [hs3,List.mem_cons,List.not_mem_nil,or_false] at hh;rcases hh with rfl|rfl|rfl <;> exact ⟨by decide,by decide⟩
  ·simp only [hs3,List.mem_cons,List.not_mem_nil,or_false] at hh;rcases hh with rfl|rfl|rfl <;> decide
 ar:=fun a ha=>by
  simp only [ar3,List.mem_cons,List.not_mem_nil,or_false] at ha;rcases ha with rfl|rfl|rfl <;> exact ⟨⟨by decide,by decide⟩,by decide,by decide⟩
 vi:=hs3_v
theorem sortI_id {l:List Int} (h:l.Pairwise fun a b=>a≤b):sortI l=l:=by
 unfold sortI;refine List.mergeSort_of_pairwise (h.imp fun h=>by simpa using h)
def mdX (X:List (ByteArray × List Bool)):Mdl:=⟨[[1],[0,2],[2]],[[1],[0],[1,2]],X⟩
theorem mdX_eq {f:Fo} {X:List (ByteArray × List Bool)} (hX:atmR (usedF f) (bitS tyT) cosT hs3=X):mdlR tyT hs3 (ar3.map Ar50.pr) f cosT=mdX X:=by
 have h1:arP hs3.length (ar3.map Ar50.pr) (ar3.map Ar50.pr).length=[[1],[0,2],[]]:=by decide +kernel
 have e:ar3.length=(ar3.map Ar50.pr).length:=by simp
 have h2:nxR [[1],[0,2],[]]=[[1],[0,2],[2]]:=by
  have e1:nx1 0 [1]=[1]:=sortI_id (by decide)
  have e2:nx1 1 [0,2]=[0,2]:=sortI_id (by decide)
  have e3:nx1 2 []=[2]:=nx1_nil 2
  show [nx1 0 [1],nx1 1 [0,2],nx1 2 []]=_
  rw [e1,e2,e3]
 have h3:pvP [[1],[0,2],[2]] hs3.length=[[1],[0],[1,2]]:=by decide +kernel
 unfold mdlR;rw [hX,h1,h2,h3];rfl
def atX1:List (ByteArray × List Bool):=[(⟨#[97]⟩,[true,false,false])]
def atX2:List (ByteArray × List Bool):=[(⟨#[98]⟩,[true,true,false])]
theorem ax1:atmR (usedF fo1) (bitS tyT) cosT hs3=atX1:=by decide +kernel
theorem ax2:atmR (usedF fo2) (bitS tyT) cosT hs3=atX2:=by decide +kernel
theorem ax3:atmR (usedF fo3) (bitS tyT) cosT hs3=atX2:=by decide +kernel
theorem ax4:atmR (usedF fo4) (bitS tyT) cosT hs3=atX1:=by decide +kernel
theorem va1:validF fo1 cosT=0:=by decide +kernel
theorem va2:validF fo2 cosT=0:=by decide +kernel
theorem va3:validF fo3 cosT=0:=by decide +kernel
theorem va4:validF fo4 cosT=0:=by decide +kernel
theorem ho1:fo1.holds (mdX atX1)=[true,true,true]:=by decide +kernel
theorem tr2:(askR (mdX atX2) fo2).map (fun q=>(pathQ (mdX atX2) q,q.verdict))=some ([0,1,2],false):=by decide +kernel
theorem tr3:(askR (mdX atX2) fo3).map (fun q=>(pathQ (mdX atX2) q,q.verdict))=some ([0,1,0],true):=by decide +kernel
theorem rk4:rankR (mdX atX1) (kidV (mdX atX1) fo4 0)=[1,0,0]:=by decide +kernel
theorem traceA_of {m:Mdl} {f:Fo} {p:List Int} {b:Bool} (h:(askR m f).map (fun q=>(pathQ m q,q.verdict))=some (p,b)) (hp:p≠[]):traceA m f=.tup [.d (ints p),B b,I 0]:=by
 unfold traceA;cases hq:askR m f with
 | none=>rw [hq] at h; cases h
 | some q =>
  rw [hq] at h;simp only [Option.map_some,Option.some.injEq,Prod.mk.injEq] at h;obtain ⟨h1,h2⟩:=h;simp only;rw [h1,h2,if_neg hp]
theorem sm_atom (s:ByteArray) (hs:s.size≤1000):(Fo.mk 1 s []).Sm:=.mk (by simp only [Fo.name]; omega) (by simp [Fo.kids]) (fun x hx=>by simp [Fo.kids] at hx)
theorem sm_one {k:Int} {x:Fo} (h:x.Sm):(Fo.mk k ⟨#[]⟩ [x]).Sm:=.mk (by simp only [Fo.name]; decide) (by simp [Fo.kids]) (fun y hy=>by simp [Fo.kids] at hy; subst hy; exact h)
theorem sm1:fo1.Sm:=sm_one (sm_one (sm_atom _ (by decide)))
theorem sm2:fo2.Sm:=sm_one (sm_atom _ (by decide))
theorem sm3:fo3.Sm:=sm_one (sm_atom _ (by decide))
theorem sm4:fo4.Sm:=sm_one (sm_one (sm_atom _ (by decide)))
abbrev prU (l:List (Int × Int)):D:=.sl 2 (l.map fun a=>[u8 a.1,u8 a.2])
def spK (n:Int):Nat:=(n % 3).toNat
def spE1 (n:Int):List E:=if 0<spK n∧n / 3 % 2=1 then [⟨0,0,0⟩] else []
def spE2 (n:Int):List E:=if 1<spK n∧n / 6 % 2=1 then [⟨0,0,1⟩] else []
def spE (n:Int):List E:=spE1 n++spE2 n
def spH (n:Int):Hs:=⟨⟨List.replicate (spK n) 0,spE n⟩,List.replicate (spK n) []⟩
def spN (cs:List Int):Nat:=max 1 (min cs.length 10)
def spS (cs:List Int) (i:Nat):List Hs:=(List.range i).map fun j=>spH (cs.getD j 0)
theorem spS_succ (cs:List Int) (i:Nat):spS cs (i+1)=spS cs i++[spH (cs.getD i 0)]:=by simp [spS,List.range_succ]
@[simp] theorem spS_len (cs:List Int) (i:Nat):(spS cs i).length=i:=by simp [spS]
def spA (k:Nat) (ar:List (Int × Int)) (i:Nat):List Ar50:=(ar.take i).map fun a=>⟨0,a.1 % k,a.2 % k,⟨[],[]⟩,[]⟩
theorem spA_succ (k:Nat) {ar:List (Int × Int)} {i:Nat} (h:i<ar.length):spA k ar (i+1)=spA k ar i++[⟨0,ar[i].1 % k,ar[i].2 % k,⟨[],[]⟩,[]⟩]:=by
 unfold spA;rw [List.take_succ_eq_append_getElem h,List.map_append];rfl
theorem rowsN_to {p:Nat→Prop} {q:Nat→Prop} {fz:Option (Nat × Nat × List (List D))} (k:Nat):RowsTo p q fz (List.replicate k [nilS]) (rowsD (List.replicate k [ints []])):=by
 refine ⟨by simp,fun i h1 h2=>⟨by simp [rowsD],fun j g1 g2=>?_⟩⟩;simp only [rowsD,List.getElem_map,List.getElem_replicate,List.map_cons,List.map_nil] at g1 g2 ⊢;have:j=0:=by simp at g1; omega
 subst this;exact .odsub .emp
theorem frzK {p q:Nat→Prop} (k s:Nat):To p q (some (s,1,List.replicate k [D.raw (.int .i64 0)])) (.msl s 0 k 1) (.d (ints (List.replicate k 0))):=by
 have e:ints (List.replicate k 0)=.sl 1 (List.replicate k [D.raw (.int .i64 0)]):=by simp [ints]
 rw [e];exact to_frz (by simp)
theorem frzL {p q:Nat→Prop} (k s:Nat):To p q (some (s,1,List.replicate k [ints []])) (.msl s 0 k 1) (.d (lls (List.replicate k []))):=by
 have e:lls (List.replicate k [])=.sl 1 (List.replicate k [ints []]):=by simp
 rw [e];exact to_frz (by simp)
structure SpX where
 i:Nat
 o:Own
 tok:Nat→Bool
 nt:Nat
structure SpY where
 oe:Own
 oh:Own
 tok:Nat→Bool
 nt:Nat
def stSp1 (cs:List Int) (ar:List (Int × Int)) (nb:Nat) (box:Bxs) (x:SpX):AState :=
 ⟨tl [(6,I x.i),(0,.d (bytes cs)),(1,.d (prU ar)),(4,.ptr (nb+4) 0 0),(5,.ptr (nb+5) 0 0)],lb nb box [(5,[[.osl 3 ((spS cs x.i).map Hs.cells) x.o,nilS]]),(4,[[nilS,nilS]])],x.tok,x.nt⟩
def stSpH (cs:List Int) (ar:List (Int × Int)) (n:Int) (k i:Nat) (e:List E) (A:List (List D)) (nb:Nat) (box:Bxs) (y:SpY):AState :=
 ⟨tl [(7,I n),(8,.ptr (nb+8) 0 0),(6,I i),(0,.d (bytes cs)),(1,.d (prU ar)),(4,.ptr (nb+4) 0 0),(5,.ptr (nb+5) 0 0)],
  lb nb box [(8,[[.msl (nb+35) 0 k 1,.osl 3 (rE e) y.oe,.msl (nb+39) 0 k 1]]),(35,rowsI (List.replicate k 0)),(39,List.replicate k [nilS]),(5,[[.osl 3 A y.oh,nilS]]),(4,[[nilS,nilS]])],y.tok,y.nt⟩
def stSp2 (cs:List Int) (ar:List (Int × Int)) (H:List Hs) (nb:Nat) (box:Bxs) (oh:Own) (x:SpX):AState :=
 ⟨tl [(9,I x.i),(1,.d (prU ar)),(4,.ptr (nb+4) 0 0),(5,.ptr (nb+5) 0 0)],lb nb box [(5,[[.osl 3 (H.map Hs.cells) oh,.osl 6 ((spA H.length ar x.i).map Ar50.cells) x.o]]),(4,[[nilS,nilS]])],x.tok,x.nt⟩
set_option maxRecDepth 100000 in
theorem space_c (cs:List Int) (hc:U8s cs) (hl:cs.length≤1000000) (ar:List (Int × Int)) (ha:∀ a∈ar,(0≤a.1∧a.1<256)∧0≤a.2∧a.2<256) (hal:ar.length≤1000000) (tok:Tks) (nt:Nat) :
    DCall Tryz.prog 31 [.d (bytes cs),.d (prU ar)] tok nt (spV (spS cs (spN cs)) (spA (spN cs) ar (min ar.length 30))) tok nt:=by
  intro box nb;refine sI Tryz.func31 Tryz.ntmps31 fun hbox htok=>?_
  repeat (first|simp|refine sR ?_)
  refine sN ?_;refine AL.loopT (stSp1 cs ar nb box) (fun x=>x.i≤spN cs∧TK tok nt x.tok x.nt [x.o]) (fun x=>spN cs - x.i) ⟨0,.full,tok,nt⟩ ⟨Nat.zero_le _,(TK.start htok).full⟩ (Weaks.mk (Nat.le_refl _) rfl (by simp [ToL,lk]) (by simp [BoxL,lk,spS])) ?_;rintro ⟨i,o,tok1,nt1⟩ S ⟨hi,htk⟩ hS;simp only [stSp1] at hS hi htk;subst hS;have hN:spN cs≤10:=by unfold spN; omega
  have hw:=sW (i:=i) (by omega);by_cases hlt:i<spN cs
  · have hlt2:i=0∨i<cs.length∧i<10:=by unfold spN at hlt; omega
    obtain ⟨n,hn⟩:∃ n,cs.getD i 0=n:=⟨_,rfl⟩
    have hn1:0≤n∧n<256:=by
      rw [←hn];by_cases e:i<cs.length
      · rw [show cs.getD i 0=cs[i] by simp [e]]; exact hc _ (List.getElem_mem e)
      · rw [show cs.getD i 0=0 by simp [e]]; decide
    obtain ⟨hn1,hn2⟩:=hn1;have hsucc:=spS_succ cs i;rw [hn] at hsucc;have hAl:((spS cs i).map Hs.cells).length=i:=by simp
    refine AL.seq ?_;refine AL.mid ⟨tl [(6,I i),(0,.d (bytes cs)),(1,.d (prU ar)),(4,.ptr (nb+4) 0 0),(5,.ptr (nb+5) 0 0)],lb nb box [(5,[[.osl 3 ((spS cs i).map Hs.cells) o,nilS]]),(4,[[nilS,nilS]])],tok1,nt1⟩ ?_ ?_
    · by_cases h0:i=0
      · subst h0
        try (simp)
        repeat (first|(refine sR ?_; simp)|(refine sC ?_; simp)|(refine sX ?_; simp only [AU, ↓reduceIte]))
        refine sE ?_;exact Weaks.mk htk.le rfl (by simp [ToL,lk]) (by simp [BoxL,lk])
      · have b0:((i:Int)==0)=false:=by simpa using h0
        have c1:i<cs.length:=by omega
        have c2:(i:Int)<10:=by omega
        have c3:i<10:=by omega
        try (simp [b0,c1,c2,c3,h0])
        repeat (first|(refine sR ?_; simp [b0,c1,c2,c3,h0])|(refine sC ?_; simp [b0,c1,c2,c3,h0])|(refine sX ?_; simp only [AU, ↓reduceIte]))
        refine sE ?_;exact Weaks.mk htk.le rfl (by simp [ToL,lk]) (by simp [BoxL,lk])
    · refine sR ?_
      simp;refine AL.seq ?_;refine AL.mid ⟨tl [(7,I n),(6,I i),(0,.d (bytes cs)),(1,.d (prU ar)),(4,.ptr (nb+4) 0 0),(5,.ptr (nb+5) 0 0)],lb nb box [(5,[[.osl 3 ((spS cs i).map Hs.cells) o,nilS]]),(4,[[nilS,nilS]])],tok1,nt1⟩ ?_ ?_
      · by_cases e:i<cs.length
        · have hnc:cs[i]=n:=by rw [←hn]; simp [e]
          have hb:=bytes_at e;have hwn:IntKind.i64.wrap n=n:=wrap_in (by omega) (by omega)
          try (simp [e,hb,hnc,hwn])
          repeat (first|(refine sR ?_; simp [e,hb,hnc,hwn])|(refine sC ?_; simp [e,hb,hnc,hwn])|(refine sX ?_; simp only [AU, ↓reduceIte]))
          refine sE ?_;exact Weaks.mk htk.le rfl (by simp [ToL,lk]) (by simp [BoxL,lk])
        · have hn0:n=0:=by rw [←hn]; simp [e]
          subst hn0;try (simp [e])
          repeat (first|(refine sR ?_; simp [e])|(refine sC ?_; simp [e])|(refine sX ?_; simp only [AU, ↓reduceIte]))
          refine sE ?_;exact Weaks.mk htk.le rfl (by simp [ToL,lk]) (by simp [BoxL,lk])
      · clear hn
        obtain ⟨k,hk⟩:∃ k,spK n=k:=⟨_,rfl⟩
        have hk3:(k:Int)=n % 3:=by rw [←hk]; unfold spK; omega
        have hk2:k≤2:=by omega
        have tm3:n.tmod 3=(k:Int):=by rw [Int.tmod_eq_emod_of_nonneg hn1,hk3]
        have td3:n.tdiv 3=n / 3:=Int.tdiv_eq_ediv_of_nonneg hn1
        have td6:n.tdiv 6=n / 6:=Int.tdiv_eq_ediv_of_nonneg hn1
        have tw3:IntKind.i64.wrap (n / 3)=n / 3:=wrap_in (by omega) (by omega)
        have tw6:IntKind.i64.wrap (n / 6)=n / 6:=wrap_in (by omega) (by omega)
        have tn3:(n / 3).tmod 2=n / 3 % 2:=Int.tmod_eq_emod_of_nonneg (by omega)
        have tn6:(n / 6).tmod 2=n / 6 % 2:=Int.tmod_eq_emod_of_nonneg (by omega)
        refine sR ?_;simp [tm3];refine ⟨by omega,by omega,?_⟩;refine AL.seq ?_;have hX:∀ p fz,RowsTo p (fun _=>True) fz (List.replicate k [nilS]) (List.replicate k [nilS]):=fun p fz=>rowsTo_same fun r hr x hx=>by
          rw [(List.mem_replicate.1 hr).2] at hx;simp at hx;subst hx;exact .osl fun _ e=>by cases e
        refine AL.midT (stSpH cs ar n k i (spE1 n) ((spS cs i).map Hs.cells) nb box) (fun y=>TK tok nt y.tok y.nt [y.oe,y.oh]) ?_ ?_
        · by_cases c1:0<k
          · by_cases c2:n / 3 % 2=1
            · have he:spE1 n=[⟨0,0,0⟩]:=by unfold spE1; rw [hk,if_pos ⟨c1,c2⟩]
              have b2:(n / 3 % 2==1)=true:=by simp [c2]
              try (simp [tm3,td3,tw3,tn3,c1,c2,b2])
              repeat (first|(refine sR ?_; simp [tm3,td3,tw3,tn3,c1,c2,b2])|(refine sC ?_; simp [tm3,td3,tw3,tn3,c1,c2,b2])|(refine sX ?_; simp only [AU, ↓reduceIte]))
              refine sE ?_;exact ⟨⟨.tok nt1,o,_,nt1+1⟩,htk.full.app,Weaks.mk (Nat.le_succ_of_le htk.le) rfl (by simp [ToL,lk]) (by simp [BoxL,lk,he]; exact hX _ _)⟩
            · have he:spE1 n=[]:=by unfold spE1; rw [if_neg (fun h=>c2 h.2)]
              have b2:(n / 3 % 2==1)=false:=by simp [c2]
              try (simp [tm3,td3,tw3,tn3,c1,c2,b2])
              repeat (first|(refine sR ?_; simp [tm3,td3,tw3,tn3,c1,c2,b2])|(refine sC ?_; simp [tm3,td3,tw3,tn3,c1,c2,b2])|(refine sX ?_; simp only [AU, ↓reduceIte]))
              refine sE ?_;exact ⟨⟨.full,o,tok1,nt1⟩,htk.full,Weaks.mk htk.le rfl (by simp [ToL,lk]) (by simp [BoxL,lk,he]; exact hX _ _)⟩
          · have he:spE1 n=[]:=by unfold spE1; rw [hk,if_neg (fun h=>c1 h.1)]
            try (simp [tm3,td3,tw3,tn3,c1])
            repeat (first|(refine sR ?_; simp [tm3,td3,tw3,tn3,c1])|(refine sC ?_; simp [tm3,td3,tw3,tn3,c1])|(refine sX ?_; simp only [AU, ↓reduceIte]))
            refine sE ?_;exact ⟨⟨.full,o,tok1,nt1⟩,htk.full,Weaks.mk htk.le rfl (by simp [ToL,lk]) (by simp [BoxL,lk,he]; exact hX _ _)⟩
        · clear htk
          rintro ⟨oe,oh,tok2,nt2⟩ htk;simp only at htk;have hel:(spE1 n).length≤1:=by unfold spE1; split <;> simp
          simp only [stSpH];refine AL.seq ?_;refine AL.midT (stSpH cs ar n k i (spE n) ((spS cs i).map Hs.cells) nb box) (fun y=>TK tok nt y.tok y.nt [y.oe,y.oh]) ?_ ?_
          · by_cases c1:1<k
            · have c1':(1:Int)<(k:Int):=by omega
              by_cases c2:n / 6 % 2=1
              · have he:spE n=spE1 n++[⟨0,0,1⟩]:=by unfold spE spE2; rw [hk,if_pos ⟨c1,c2⟩]
                have b2:(n / 6 % 2==1)=true:=by simp [c2]
                try (simp [tm3,td6,tw6,tn6,c1,c1',c2,b2])
                repeat (first|(refine sR ?_; simp [tm3,td6,tw6,tn6,c1,c1',c2,b2])|(refine sC ?_; simp [tm3,td6,tw6,tn6,c1,c1',c2,b2])|(refine sX ?_; simp only [AU, ↓reduceIte]))
                refine ⟨⟨by omega,htk.live⟩,?_⟩;try (simp)
                repeat (first|(refine sR ?_; simp)|(refine sC ?_; simp)|(refine sX ?_; simp only [AU, ↓reduceIte]))
                refine sE ?_;exact ⟨⟨.tok nt2,oh,_,nt2+1⟩,htk.app,Weaks.mk htk.app.le rfl (by simp [ToL,lk]) (by simp [BoxL,lk,he]; exact hX _ _)⟩
              · have he:spE n=spE1 n:=by unfold spE spE2; rw [if_neg (fun h=>c2 h.2),List.append_nil]
                have b2:(n / 6 % 2==1)=false:=by simp [c2]
                try (simp [tm3,td6,tw6,tn6,c1,c1',c2,b2])
                repeat (first|(refine sR ?_; simp [tm3,td6,tw6,tn6,c1,c1',c2,b2])|(refine sC ?_; simp [tm3,td6,tw6,tn6,c1,c1',c2,b2])|(refine sX ?_; simp only [AU, ↓reduceIte]))
                refine sE ?_;exact ⟨⟨oe,oh,tok2,nt2⟩,htk,Weaks.mk htk.le rfl (by simp [ToL,lk]) (by simp [BoxL,lk,he]; exact hX _ _)⟩
            · have he:spE n=spE1 n:=by unfold spE spE2; rw [hk,if_neg (fun h=>c1 h.1),List.append_nil]
              have c1':¬ (1:Int)<(k:Int):=by omega
              try (simp [tm3,td6,tw6,tn6,c1,c1'])
              repeat (first|(refine sR ?_; simp [tm3,td6,tw6,tn6,c1,c1'])|(refine sC ?_; simp [tm3,td6,tw6,tn6,c1,c1'])|(refine sX ?_; simp only [AU, ↓reduceIte]))
              refine sE ?_;exact ⟨⟨oe,oh,tok2,nt2⟩,htk,Weaks.mk htk.le rfl (by simp [ToL,lk]) (by simp [BoxL,lk,he]; exact hX _ _)⟩
          · clear htk
            rintro ⟨oe,oh,tok2,nt2⟩ htk;simp only at htk;simp only [stSpH];have htk2:=htk.tail;have hH:spH n=⟨⟨List.replicate k 0,spE n⟩,List.replicate k []⟩:=by unfold spH; rw [hk]
            have hcl:(spS cs (i+1)).map Hs.cells=(spS cs i).map Hs.cells++[[ints (List.replicate k 0),AM.edges (spE n),lls (List.replicate k [])]]:=by rw [hsucc,List.map_append,hH]; rfl
            refine AL.weak (Weaks.mk (l':=[(8,.ptr (nb+8) 0 0),(6,I i),(0,.d (bytes cs)),(1,.d (prU ar)),(4,.ptr (nb+4) 0 0),(5,.ptr (nb+5) 0 0)])
              (loc':=[(8,[[.msl (nb+35) 0 k 1,.d (AM.edges (spE n)),.msl (nb+39) 0 k 1]]),(35,rowsI (List.replicate k 0)),(39,rowsD (List.replicate k [ints []])),(5,[[.osl 3 ((spS cs i).map Hs.cells) oh,nilS]]),(4,[[nilS,nilS]])]) htk.le rfl (by simp [ToL,lk]) (by simp [BoxL,lk]; exact rowsN_to k)) ?_
            refine AL.weak (Weaks.frz (l':=[(8,.ptr (nb+8) 0 0),(6,I i),(0,.d (bytes cs)),(1,.d (prU ar)),(4,.ptr (nb+4) 0 0),(5,.ptr (nb+5) 0 0)])
              (loc':=[(8,[[.d (ints (List.replicate k 0)),.d (AM.edges (spE n)),.msl (nb+39) 0 k 1]]),(39,rowsD (List.replicate k [ints []])),(5,[[.osl 3 ((spS cs i).map Hs.cells) oh,nilS]]),(4,[[nilS,nilS]])]) 35 1 (rI (List.replicate k 0)) htk.le rfl (by simp [lk,rowsI_eq]) (by simp [lk]) (fun e he=>by obtain ⟨b,_,rfl⟩:=List.mem_map.1 he; rfl) (by simp [ToL,lk,lb_at]) (by simp [BoxL,lk,lb_at]; exact frzK _ _)) ?_
            refine AL.weak (Weaks.frz (l':=[(8,.ptr (nb+8) 0 0),(6,I i),(0,.d (bytes cs)),(1,.d (prU ar)),(4,.ptr (nb+4) 0 0),(5,.ptr (nb+5) 0 0)])
              (loc':=[(8,[[.d (ints (List.replicate k 0)),.d (AM.edges (spE n)),.d (lls (List.replicate k []))]]),(5,[[.osl 3 ((spS cs i).map Hs.cells) oh,nilS]]),(4,[[nilS,nilS]])]) 39 1 (List.replicate k [ints []]) htk.le rfl (by simp [lk]) (by simp [lk]) (fun e he=>by rw [(List.mem_replicate.1 he).2]; rfl) (by simp [ToL,lk,lb_at]) (by simp [BoxL,lk,lb_at]; exact frzL _ _)) ?_
            try (simp)
            repeat (first|(refine sR ?_; simp)|(refine sC ?_; simp)|(refine sX ?_; simp only [AU, ↓reduceIte]))
            refine ⟨⟨by omega,htk2.live⟩,?_⟩;try (simp [hw])
            repeat (first|(refine sR ?_; simp [hw])|(refine sC ?_; simp [hw])|(refine sX ?_; simp only [AU, ↓reduceIte]))
            refine sE ?_;exact ⟨⟨i+1,.tok nt2,_,nt2+1⟩,⟨hlt,htk2.app⟩,by simp only; omega,Weaks.mk htk2.app.le rfl (by simp [ToL,lk]) (by simp [BoxL,lk,hcl])⟩
  · have:i=spN cs:=by omega
    subst this;clear hw hi;have hm1:1≤spN cs:=by unfold spN; omega
    have hm2:¬ (spN cs<cs.length∧spN cs<10):=by unfold spN; omega
    obtain ⟨m,hm⟩:∃ m,spN cs=m:=⟨_,rfl⟩
    have hHl:(spS cs (spN cs)).length=spN cs:=by simp
    rw [hm] at hN hm1 hm2 hHl ⊢;generalize spS cs m=H at *;have b00:¬ m=0:=by omega
    have b0:((m:Int)==0)=false:=by simpa using b00
    by_cases c1:m<cs.length
    case' pos=>have c2:¬ (m:Int)<10:=by omega
    case' pos=>have c3:¬ m<10:=by omega
    case' neg=>have c2:¬ (m:Int)<(cs.length:Int):=by omega
    case' neg=>have c3:¬ m<cs.length:=c1
    all_goals
      try (simp [b0,c1,c2,c3])
      repeat (first|(refine sR ?_; simp [b0,c1,c2,c3])|(refine sC ?_; simp [b0,c1,c2,c3])|(refine sX ?_; simp only [AU, ↓reduceIte]))
      refine sN ?_;refine AL.loopT (stSp2 cs ar H nb box o) (fun x=>x.i≤min ar.length 30∧TK tok nt x.tok x.nt [x.o,o]) (fun x=>min ar.length 30 - x.i) ⟨0,.full,tok1,nt1⟩ ⟨Nat.zero_le _,htk.full⟩ (Weaks.mk htk.le rfl (by simp [ToL,lk]) (by simp [BoxL,lk,spA])) ?_;clear htk;rintro ⟨i,o2,tok2,nt2⟩ S ⟨hi,htk⟩ hS;simp only [stSp2] at hS hi htk;subst hS;have hw:=sW (i:=i) (by omega);by_cases hlt:i<ar.length∧i<30
      · obtain ⟨d1,d2⟩:=hlt
        have d3:(i:Int)<30:=by omega
        have hsucc:=spA_succ H.length d1;obtain ⟨⟨e1,e2⟩,e3,e4⟩:=ha _ (List.getElem_mem d1);have hpr:(ar.map fun a=>[u8 a.1,u8 a.2])[i]?=some [u8 ar[i].1,u8 ar[i].2]:=by simp [d1]
        have hb1:IntKind.i64.wrap ar[i].1=ar[i].1:=wrap_in (by omega) (by omega)
        have hb2:IntKind.i64.wrap ar[i].2=ar[i].2:=wrap_in (by omega) (by omega)
        have ht1:ar[i].1.tmod (H.length:Int)=ar[i].1 % (H.length:Int):=Int.tmod_eq_emod_of_nonneg e1
        have ht2:ar[i].2.tmod (H.length:Int)=ar[i].2 % (H.length:Int):=Int.tmod_eq_emod_of_nonneg e3
        have hHz:¬ (H.length:Int)=0:=by omega
        have hsl:(spA H.length ar i).length≤30:=by simp [spA]; omega
        have hHn:H=[]→False:=fun e=>by rw [e] at hHz; simp at hHz
        try (simp [d1,d2,d3,hpr,hb1,hb2,ht1,ht2])
        repeat (first|(refine sR ?_; simp [d1,d2,d3,hpr,hb1,hb2,ht1,ht2])|(refine sC ?_; simp [d1,d2,d3,hpr,hb1,hb2,ht1,ht2])|(refine sX ?_; simp only [AU, ↓reduceIte]))
        refine ⟨hHn,?_⟩;try (simp [d1,d2,d3,hpr,hb1,hb2,ht1,ht2])
        repeat (first|(refine sR ?_; simp [d1,d2,d3,hpr,hb1,hb2,ht1,ht2])|(refine sC ?_; simp [d1,d2,d3,hpr,hb1,hb2,ht1,ht2])|(refine sX ?_; simp only [AU, ↓reduceIte]))
        try refine ⟨hHn,?_⟩
        try (simp [d1,d2,d3,hpr,hb1,hb2,ht1,ht2])
        repeat (first|(refine sR ?_; simp [d1,d2,d3,hpr,hb1,hb2,ht1,ht2])|(refine sC ?_; simp [d1,d2,d3,hpr,hb1,hb2,ht1,ht2])|(refine sX ?_; simp only [AU, ↓reduceIte]))
        refine ⟨⟨by omega,htk.live⟩,?_⟩;try (simp [hw])
        repeat (first|(refine sR ?_; simp [hw])|(refine sC ?_; simp [hw])|(refine sX ?_; simp only [AU, ↓reduceIte]))
        refine sE ?_;exact ⟨⟨i+1,.tok nt2,_,nt2+1⟩,⟨by simp only; omega,htk.app⟩,by simp only; omega,Weaks.mk htk.app.le rfl (by simp [ToL,lk]) (by simp [BoxL,lk,hsucc]; exact to_snoc (by simp [DSub.refl]; exact .emp) _)⟩
      · have:i=min ar.length 30:=by omega
        subst this;by_cases d1:min ar.length 30<ar.length
        case' pos=>have d2:¬ ((min ar.length 30:Nat):Int)<30:=by omega
        case' pos=>have d3:¬ min ar.length 30<30:=by omega
        case' neg=>have d2:¬ ((min ar.length 30:Nat):Int)<(ar.length:Int):=by omega
        case' neg=>have d3:¬ min ar.length 30<ar.length:=d1
        all_goals
          generalize min ar.length 30=z at *;try (simp [d1,d2,d3])
          repeat (first|(refine sR ?_; simp [d1,d2,d3])|(refine sC ?_; simp [d1,d2,d3])|(refine sX ?_; simp only [AU, ↓reduceIte]))
          refine sT (sG hbox htok htk.old htk.le ?_);simp [packA,hHl]
variable {P:Program}
def lkv:List (Nat × Value)→Nat→Option Value
 | [],_=>none
 | (j,v)::r,i=>if i=j then some v else lkv r i
def swpL (l:List (Nat × Value)):Nat→List Oper→List Oper
 | _,[]=>[]
 | i,o::r=>(match lkv l i with|some v=>{ o with op:=.move (.const v) }|none=>o)::swpL l (i+1) r
theorem swpL_get (l:List (Nat × Value)):∀ (ops:List Oper) (k i:Nat),(swpL l k ops)[i]?=(ops[i]?).map fun o=>match lkv l (k+i) with|some v=>{ o with op:=.move (.const v) }|none=>o
 | [],k,i=>by simp [swpL]
 | o::r,k,0=>by simp [swpL]
 | o::r,k,i+1=>by
  have:=swpL_get l r (k+1) i
  simp only [swpL,List.getElem?_cons_succ,this];rw [show k+1+i=k+(i+1) by omega]
theorem swpL_len (l:List (Nat × Value)):∀ (ops:List Oper) (k:Nat),(swpL l k ops).length=ops.length
 | [],k=>rfl
 | o::r,k=>by simp [swpL,swpL_len l r]
def SwpOk (P:Program) (ops:List Oper) (l:List (Nat × Value)):Prop:=∀ i v o,lkv l i=some v→ops[i]?=some o→∀ (a:Act) (w:World),(execOp a.eval o).run P w=.ok (.value v) w
theorem wpOps_swap {ops:List Oper} {l:List (Nat × Value)} {Q:Exit→Act→World→Prop} (h:SwpOk P ops l):∀ (is:List Nat) (a:Act) (w:World),wpOps P (swpL l 0 ops).toArray Q is a w→wpOps P ops.toArray Q is a w
 | [],a,w,hq=>hq
 | i::is,a,w,hq=>by
  have ih:=wpOps_swap (Q:=Q) h is;have hg:=swpL_get l ops 0 i;have hy:∀ tm,yielded (swpL l 0 ops).toArray tm=yielded ops.toArray tm:=fun tm=>by
   funext j
   unfold yielded;have hj:=swpL_get l ops 0 j;simp only [List.getElem?_toArray];rw [hj];cases ops[j]? with
   | none=>rfl
   | some o =>
    simp only [Option.map_some];cases lkv l (0+j) <;> rfl
  unfold wpOps at hq ⊢;simp only [List.getElem?_toArray] at hq ⊢;rw [hg] at hq;cases ho:ops[i]? with
  | none=>rw [ho] at hq; exact ih a w hq
  | some o =>
   rw [ho] at hq;simp only [Option.map_some,Nat.zero_add] at hq ⊢;cases hv:lkv l i with
   | none =>
    rw [hv] at hq;simp only at hq;rw [hy] at hq;split at hq
    ·rename_i hw;rw [if_pos hw];rcases hq with hq|hq
     ·left;unfold Oper.wp at hq ⊢;generalize (execOp a.eval o).run P w=r at *;cases r with
      | ok n w' =>
       cases n <;> simp only [Oper.upon] at hq ⊢ <;>
        first
         | exact ih _ _ hq
         | exact Calls.mono hq (fun e w'' he=>by cases e <;> first|exact ih _ _ he|exact he)
         | exact Rows.mono hq (fun _ _ he=>ih _ _ he)
      | halt x w'=>cases x <;> simp only [Oper.upon] at hq ⊢ <;> exact hq
     ·exact .inr hq
    ·rename_i hw;rw [if_neg hw];exact ih _ _ hq
   | some v =>
    rw [hv] at hq;simp only at hq;rw [hy] at hq;have hr:=h i v o hv ho a w;have hwt:Region.wanted { o with op:=.move (.const v) } (yielded ops.toArray a.tmps)=Region.wanted o (yielded ops.toArray a.tmps):=rfl
    rw [hwt] at hq;split at hq
    ·rename_i hw;rw [if_pos hw];rcases hq with hq|⟨hq,_⟩
     ·left;unfold Oper.wp at hq ⊢;rw [hr,Oper.upon_value];have hr2:(execOp a.eval { o with op:=.move (.const v) }).run P w=.ok (.value v) w:=by simp [execOp,Act.eval]
      rw [hr2,Oper.upon_value] at hq;exact ih _ _ hq
     ·exfalso
      have:=hq.1
      simp [execOp,Act.eval] at this;have h0:Sem.events P (pure (Next.value v)) w #[] = #[]:=rfl
      rw [h0] at this;simp at this
    ·rename_i hw;rw [if_neg hw];exact ih _ _ hq
theorem AL.swap {cx:Cx} {nt0 id:Nat} {ops:List Oper} {S:AState} {K:Exit→AState→Prop} {r:List CI} (l:List (Nat × Value)) (h:SwpOk P ops l) (hnb:cx.base+cx.n≤cx.nb) (hok:regionOk cx.n (swpL l 0 ops).toArray false=true)
  (hr:FReg P cx (swpL l 0 ops).toArray false (AL P cx nt0 K r) S):AL P cx nt0 K (.c (.region id ops.toArray false)::r) S:=by
 simp only [AL];have hA:=fReg_sound hr;clear hr;simp only [regionOk,Bool.and_eq_true,Bool.or_eq_true,Bool.not_eq_true'] at hok;obtain ⟨⟨hal,hdst⟩,hreg⟩:=hok;have hsz:(swpL l 0 ops).toArray.size=ops.toArray.size:=by simp [swpL_len]
 obtain ⟨ops',ho'⟩:∃ o,(swpL l 0 ops).toArray=o:=⟨_,rfl⟩
 intro G0 w0 he hn G a w hr hl;have hsw:=fun is a w (Q:Exit→Act→World→Prop)=>wpOps_swap (Q:=Q) h is a w
 rw [ho'] at hal hdst hA hsz hsw;have hd:=dstOk_spec hdst;obtain ⟨b,hb,hr1,hp,hkeep⟩:=preB_sound hnb ops'.toList S.box (S:=S) hr (fun o ho d hod=>hd o d (by simpa using ho) hod) (allocOk_nodup hal) hA;have hl1:LeC cx G0 w0 G w { S with box:=b }:=⟨hl.1,fun k hk hg=>by
  rw [←hl.2 k hk hg];refine hkeep k fun hm=>?_
  obtain ⟨o,ho,he⟩:=List.mem_filterMap.1 hm;split at he
  ·rename_i T s h1 h2;simp only [Option.some.injEq] at he;subst he;exact absurd hk (by simp)
  ·cases he⟩
 simp only at hb;refine wp_region ?_;rw [←hsz];refine hsw _ _ _ _ ?_;rw [show List.range ops'.size=List.range' 0 ops'.toList.length by simp [List.range_eq_range']];exact aops_sound hd hnb hal (fun S' a' w' G' h1 h2 h3=>⟨S',G',h1,h2,h3⟩) ops'.toList 0 { S with box:=b } a w G (by simp) hp hr1 hl1 hb
theorem gok (f:Fo) (hs:f.Sm) (hv:validF f cosT=0) {X:List (ByteArray × List Bool)} (hX:atmR (usedF f) (bitS tyT) cosT hs3=X):MdlG (mdX X) 3 f ∧
  ∀ tok nt,DCall Tryz.prog 90 [tyT.av,spV hs3 ar3,f.av,.d (cosD cosT)] tok nt (.tup [(mdX X).av,I 0]) tok nt:=by
 have h:=gvh3 f hs hv;have h1:=mdl_ok tyT hs3 (ar3.map Ar50.pr) f cosT h.hn h.hn2 (fun a ha=>by obtain ⟨x,hx,rfl⟩:=List.mem_map.1 ha; exact h.ar x hx) h.va;have h2:=given50_c tyT hs3 ar3 f cosT h;rw [mdX_eq hX] at h1 h2;exact ⟨h1,h2⟩
theorem hold1 (tok:Tks) (nt:Nat):DCall Tryz.prog 35 [tyT.av,spV hs3 ar3,fo1.av,.d (cosD cosT)] tok nt (.tup [.d (bools [true,true,true]),I 0]) tok nt:=by
 obtain ⟨h1,h2⟩:=gok fo1 sm1 va1 ax1;have:=holds50_c (mdX atX1) 3 h1.ok fo1 (by decide) h1.hok _ _ _ _ _ tok nt (h2 tok nt)
 rw [ho1] at this;exact this
theorem trac2 (tok:Tks) (nt:Nat):DCall Tryz.prog 39 [tyT.av,spV hs3 ar3,fo2.av,.d (cosD cosT)] tok nt (.tup [.d (ints [0,1,2]),B false,I 0]) tok nt:=by
 obtain ⟨h1,h2⟩:=gok fo2 sm2 va2 ax2;have:=trace_c (mdX atX2) 3 h1.ok h1.cv fo2 (by decide) h1.hok _ _ _ _ _ tok nt (h2 tok nt)
 rw [traceA_of tr2 (by simp)] at this;exact this
theorem trac3 (tok:Tks) (nt:Nat):DCall Tryz.prog 39 [tyT.av,spV hs3 ar3,fo3.av,.d (cosD cosT)] tok nt (.tup [.d (ints [0,1,0]),B true,I 0]) tok nt:=by
 obtain ⟨h1,h2⟩:=gok fo3 sm3 va3 ax3;have:=trace_c (mdX atX2) 3 h1.ok h1.cv fo3 (by decide) h1.hok _ _ _ _ _ tok nt (h2 tok nt)
 rw [traceA_of tr3 (by simp)] at this;exact this
theorem rank4 (tok:Tks) (nt:Nat):DCall Tryz.prog 40 [tyT.av,spV hs3 ar3,fo4.av,.d (cosD cosT)] tok nt (.tup [.d (ints [1,0,0]),I 0]) tok nt:=by
 obtain ⟨h1,h2⟩:=gok fo4 sm4 va4 ax4;have:=rank_c (mdX atX1) 3 h1.ok h1.ne fo4 (by decide) h1.hok rfl _ _ _ _ _ tok nt (h2 tok nt)
 rw [rk4] at this;exact this
theorem spc3 (tok:Tks) (nt:Nat):DCall Tryz.prog 31 [.d (bytes [0,1,2]),.d (prU [(0,1),(1,0),(1,2)])] tok nt (spV hs3 ar3) tok nt:=by
 have:=space_c [0,1,2] (by unfold U8s; decide) (by decide) [(0,1),(1,0),(1,2)] (by decide) (by decide) tok nt
 have e1:spS [0,1,2] (spN [0,1,2])=hs3:=by rfl
 have e2:spA (spN [0,1,2]) [(0,1),(1,0),(1,2)] (min [((0:Int),(1:Int)),(1,0),(1,2)].length 30)=ar3:=by rfl
 rw [e1,e2] at this;exact this
abbrev u8p (x y:Int):Value:=.agg #[.int .u8 x,.int .u8 y]
set_option maxRecDepth 100000 in
theorem bld2 (x y:Int) (w:World):(Instr.build 169 #[(0,.int .u8 x),(1,.int .u8 y)]).run Tryz.prog w=.ok (u8p x y) w:=by
 have hu:=Tryz.underlying169;have he:zeroT Tryz.prog 169=some [.int .u8 0,.int .u8 0]:=by kernel_rfl
 have hs:szOf Tryz.prog 5=some 1:=by kernel_rfl
 unfold zeroT at he;split at he
 ·rename_i z hz;obtain ⟨i,hi,hzi⟩:=Option.bind_eq_some_iff.1 hz;split at he
  ·simp only [Option.some.injEq] at he;have hzr:(zeroValue 169).run Tryz.prog w=.ok z w:=by simp [zeroValue,typeInfo,hi,hzi]
   have hz2:z.cells = #[.int .u8 0,.int .u8 0]:=by rw [←he]
   simp only [Instr.build,Sem.run_bind,hzr,Result.andThen_ok,run_underlying hu,run_sizeOf hs,hz2];simp [Instr.fill,Value.cells]
  ·cases he
 ·cases he
set_option maxRecDepth 100000 in
theorem awake50_c (tok:Tks) (nt:Nat):DCall Tryz.prog 26 [] tok nt (B true) tok nt:=by
 intro box nb;refine sI Tryz.func26 Tryz.ntmps26 fun hbox htok=>?_
 refine sR ?_;simp;refine sN ?_;refine AL.swap [(1,u8p 0 1),(2,u8p 1 0),(3,u8p 1 2)] ?_ (Nat.le_refl _) (by kernel_rfl) ?_
 ·intro i v o h1 h2 a w;unfold lkv lkv lkv lkv at h1;split at h1
  ·rename_i e; subst e; cases h1; cases h2; simp [execOp,Act.eval,bld2]
  ·split at h1
   ·rename_i e; subst e; cases h1; cases h2; simp [execOp,Act.eval,bld2]
   ·split at h1
    ·rename_i e; subst e; cases h1; cases h2; simp [execOp,Act.eval,bld2]
    ·cases h1
 have oc:∀ n,(Value.int .u8 n).oneCell'=true:=fun _=>rfl
 simp [swpL,lkv,oc];refine ⟨rfl,?_⟩;refine Stop.data ?_;refine Stop.of_d (spc3 _ _) ?_;try (simp)
 repeat (first|(refine sR ?_; simp)|(refine sC ?_; simp)|(refine sX ?_; simp only [AU, ↓reduceIte]))
 refine Stop.of_d (constraints50_c _ _) ?_;simp;try (simp)
 repeat (first|(refine sR ?_; simp)|(refine sC ?_; simp)|(refine sX ?_; simp only [AU, ↓reduceIte]))
 refine Stop.of_d (atom50_c _ _ _) ?_;simp;refine Stop.data ?_;refine Stop.of_d (of50_c 2 [foA] _ _) ?_;try (simp)
 repeat (first|(refine sR ?_; simp)|(refine sC ?_; simp)|(refine sX ?_; simp only [AU, ↓reduceIte]))
 refine Stop.of_d (types50_c _ _) ?_;simp;refine Stop.data ?_;refine Stop.of_d (of50_c 6 [foS] _ _) ?_;simp;refine Stop.of_d (hold1 _ _) ?_;simp;try (simp)
 repeat (first|(refine sR ?_; simp)|(refine sC ?_; simp)|(refine sX ?_; simp only [AU, ↓reduceIte]))
 refine Stop.of_d (types50_c _ _) ?_;simp;refine Stop.of_d (atom50_c _ _ _) ?_;simp;refine Stop.data ?_;refine Stop.of_d (of50_c 11 [foB] _ _) ?_;simp;refine Stop.of_d (trac2 _ _) ?_;try (simp)
 repeat (first|(refine sR ?_; simp)|(refine sC ?_; simp)|(refine sX ?_; simp only [AU, ↓reduceIte]))
 refine Stop.of_d (types50_c _ _) ?_;simp;refine Stop.of_d (atom50_c _ _ _) ?_;simp;refine Stop.data ?_;refine Stop.of_d (of50_c 7 [foB] _ _) ?_;simp;refine Stop.of_d (trac3 _ _) ?_;try (simp)
 repeat (first|(refine sR ?_; simp)|(refine sC ?_; simp)|(refine sX ?_; simp only [AU, ↓reduceIte]))
 refine Stop.of_d (types50_c _ _) ?_;simp;refine Stop.data ?_;refine Stop.of_d (of50_c 10 [foS] _ _) ?_;simp;refine Stop.of_d (rank4 _ _) ?_;try (simp)
 repeat (first|(refine sR ?_; simp)|(refine sC ?_; simp)|(refine sX ?_; simp only [AU, ↓reduceIte]))
 refine ⟨rfl,?_⟩;refine Stop.data ?_;refine Stop.of_d (equalB_c [true,true,true] [true,true,true] (by decide) (by decide) _ _) ?_;try (simp)
 repeat (first|(refine sR ?_; simp)|(refine sC ?_; simp)|(refine sX ?_; simp only [AU, ↓reduceIte]))
 refine ⟨rfl,?_⟩;refine Stop.data ?_;refine Stop.of_d (equalI_c [0,1,2] [0,1,2] (by decide) (by decide) _ _) ?_;try (simp)
 repeat (first|(refine sR ?_; simp)|(refine sC ?_; simp)|(refine sX ?_; simp only [AU, ↓reduceIte]))
 refine ⟨rfl,?_⟩;refine Stop.data ?_;refine Stop.of_d (equalI_c [0,1,0] [0,1,0] (by decide) (by decide) _ _) ?_;try (simp)
 repeat (first|(refine sR ?_; simp)|(refine sC ?_; simp)|(refine sX ?_; simp only [AU, ↓reduceIte]))
 refine ⟨rfl,?_⟩;refine Stop.data ?_;refine Stop.of_d (equalI_c [1,0,0] [1,0,0] (by decide) (by decide) _ _) ?_;try (simp)
 repeat (first|(refine sR ?_; simp)|(refine sC ?_; simp)|(refine sX ?_; simp only [AU, ↓reduceIte]))
 refine sT (sH hbox htok ?_);simp [packA]
theorem fewM_fit2 {m:Mo} (h:fewM m 140=true):m.Fit:=by
 simp [fewM] at h;exact ⟨by omega,by omega⟩
open Go Go.ChangeShapes
variable {P:Program}
def Rd (w:World) (cs:List Value) (ds:List D):Prop:=cs.length=ds.length∧∀ i (h1:i<cs.length) (h2:i<ds.length),RVd w.cell? (fun _=>True) ds[i] cs[i]
theorem Rd.append {w:World} {cs cs':List Value} {ds ds':List D} (h:Rd w cs ds) (k:Rd w cs' ds'):Rd w (cs++cs') (ds++ds'):=by
 refine ⟨by simp [h.1,k.1],fun i h1 h2=>?_⟩;by_cases hi:i<cs.length
 ·rw [List.getElem_append_left hi,List.getElem_append_left (by rw [←h.1]; exact hi)];exact h.2 i hi _
 ·have hl:=h.1;rw [List.getElem_append_right (by omega),List.getElem_append_right (by omega)];have:=k.2 (i - cs.length) (by simp at h1; omega) (by have:=k.1; simp at h1; omega)
  simpa [hl] using this
theorem Rd.one {w:World} {c:Value} {d:D} (h:RVd w.cell? (fun _=>True) d c):Rd w [c] [d]:=⟨rfl,fun i h1 h2=>by
 have:i=0:=by simpa using h1
 subst this;exact h⟩
def Light {H:Type} (P:Program) (T:TypeId) (d:DataW H):Prop:=(d.weights P T).all (· ≤ reachBytes)=true
structure Rdr (P:Program) (T:TypeId) (α:Type) where
 enc:α→List D
 ok:α→Prop
 len:∀ x,(enc x).length=P.cellsOf T
 sound:∀ {H:Type} (e:TypeId × Value→H) (w:World) (base:Nat) (spare:Nat→Bool) (held:Bool) (fuel:Nat) (cs:List Value) (x:DataW H × List MemPlace),
  DataW.trod e P w base spare held fuel T cs=some x→∃ y,Rd w cs (enc y)∧(Light P T x.1→ok y)
def Rdr.int {T:TypeId} {k:IntKind} (h:P.underlying T=some (.int k)) (hc:P.cellsOf T=1):Rdr P T Int where
 enc n:=[.raw (.int k n)]
 ok n:=(Lit.int k n).wf=true
 len _:=by simp [hc]
 sound e w base spare held fuel cs x hx:=by
  cases fuel with
  | zero=>simp [DataW.trod] at hx
  | succ n =>
   unfold DataW.trod at hx;rw [h] at hx;split at hx <;> simp_all
   rename_i k' n' _;exact ⟨n',Rd.one (.raw rfl),fun _=>hx.1.2⟩
theorem cells_spec {w:World} {base:Nat} {a:Addr} {n:Nat} {l:List Value} (h:w.cells? base a n=some l):l.length=n∧∀ i (hi:i<l.length),w.cell? (a.add i)=some l[i]:=by
 unfold World.cells? at h;split at h
 ·have h1:l.length=n:=by have:=mapM_some_length h; simpa using this
  refine ⟨h1,fun i hi=>?_⟩;have hin:i<n:=by omega
  have:=mapM_some_get h i i (by simp [hin])
  rw [this];exact List.getElem?_eq_getElem hi
 ·cases h
theorem light_slice {H:Type} {T E:TypeId} (h:P.underlying T=some (.slice E)) {elems rest:List (DataW H)} (hl:Light P T (.slice elems rest)):elems.length * P.bytesOf E≤reachBytes∧∀ d∈elems,Light P E d:=by
 unfold Light at hl ⊢;simp only [DataW.weights,h,List.all_cons,List.all_append,Bool.and_eq_true,decide_eq_true_eq] at hl;refine ⟨Nat.le_trans (Nat.mul_le_mul_right _ (Nat.le_add_right _ _)) hl.1,?_⟩;have key:∀ l:List (DataW H),(DataW.weightsAll P E l).all (· ≤ reachBytes)=true→∀ d∈l,(d.weights P E).all (· ≤ reachBytes)=true:=by
  intro l;induction l with
  | nil=>intro _ d hd; simp at hd
  | cons x l ih =>
   intro hx d hd;simp only [DataW.weightsAll,List.all_append,Bool.and_eq_true] at hx;rcases List.mem_cons.1 hd with rfl|hd
   ·exact hx.1
   ·exact ih hx.2 d hd
 exact key elems hl.2.1
def Rdr.slice {T E:TypeId} {α:Type} (r:Rdr P E α) (h:P.underlying T=some (.slice E)) (hc:P.cellsOf T=1):Rdr P T (List α) where
 enc l:=[.sl (P.cellsOf E) (l.map r.enc)]
 ok l:=(∀ x∈l,r.ok x)∧l.length * P.bytesOf E≤reachBytes
 len _:=by simp [hc]
 sound e w base spare held fuel cs x hx:=by
  rcases DataW.trod_slice h hx with ⟨rfl,rfl⟩|⟨a,len,cap,elems,rest,n,rfl,rfl,rfl,hb,hl,hm,hel,hat,_⟩
  ·exact ⟨[],Rd.one (.sl (es:=[]) (fun _ _=>default) (Nat.le_refl _) (by decide) (by simp) (by simp) (by simp) (by simp)),fun _=>⟨by simp,by simp⟩⟩
  ·have key:∀ i (hi:i<elems.length),∃ cs y,cs.length=P.cellsOf E∧(∀ j (hj:j<cs.length),w.cell? (a.add (i * P.cellsOf E+j))=some cs[j])∧Rd w cs (r.enc y)∧(Light P E elems[i].1→r.ok y):=by
    intro i hi;have h1:=hat i (by omega);have h2:elems[i]?=some elems[i]:=List.getElem?_eq_getElem hi
    rw [h2,Option.bind_eq_some_iff] at h1;obtain ⟨cs,hcs,htr⟩:=h1;obtain ⟨hcl,hcc⟩:=cells_spec hcs;obtain ⟨y,hy,hok⟩:=r.sound e w base spare held n cs _ htr;refine ⟨cs,y,hcl,fun j hj=>?_,hy,hok⟩;rw [←Addr.add_add];exact hcc j hj
   have pick:∀ m,m≤elems.length→∃ ys:List α,ys.length=m∧(∀ i (hi:i<ys.length) (hi2:i<elems.length),∃ cs,cs.length=P.cellsOf E∧(∀ j (hj:j<cs.length),w.cell? (a.add (i * P.cellsOf E+j))=some cs[j])∧Rd w cs (r.enc ys[i])∧(Light P E elems[i].1→r.ok ys[i])):=by
    intro m;induction m with
    | zero=>intro _; exact ⟨[],rfl,fun i hi=>by simp at hi⟩
    | succ m ih =>
     intro hm';obtain ⟨ys,hys,hall⟩:=ih (by omega);obtain ⟨cs,y,g1,g2,g3,g4⟩:=key m (by omega);refine ⟨ys++[y],by simp [hys],fun i hi hi2=>?_⟩;by_cases him:i<ys.length
     ·rw [List.getElem_append_left him];exact hall i him hi2
     ·have:i=m:=by simp at hi; omega
      subst this;have e1:(ys++[y])[i]=y:=by
       rw [List.getElem_append_right (by omega)];simp
      rw [e1];exact ⟨cs,g1,g2,g3,g4⟩
   obtain ⟨ys,hys,hall⟩:=pick elems.length (Nat.le_refl _);refine ⟨ys,Rd.one ?_,fun hli=>?_⟩
   ·have hlen:len=ys.length:=by omega
    subst hlen;have hml:ys.length=(ys.map r.enc).length:=by simp
    rw [hml];refine .sl (fun i j=>(w.cell? (a.add (i * P.cellsOf E+j))).getD default) (by simpa using hl) hm (fun e he=>?_) (fun _=>⟨a,rfl⟩) (fun a' ha' i j hi hj=>?_) (fun i j hi hj=>?_)
    ·obtain ⟨y,_,rfl⟩:=List.mem_map.1 he;exact r.len y
    ·cases ha'
     obtain ⟨cs,g1,g2,_⟩:=hall i (by simpa using hi) (by simp at hi; omega);rw [g2 j (by omega)];exact ⟨trivial,rfl⟩
    ·obtain ⟨cs,g1,g2,g3,_⟩:=hall i (by simpa using hi) (by simp at hi; omega);simp only [List.getElem_map] at hj ⊢;have hjc:j<cs.length:=by rw [g3.1]; exact hj
     rw [g2 j hjc];exact g3.2 j hjc hj
   ·obtain ⟨w1,w2⟩:=light_slice h hli;refine ⟨fun y hy=>?_,by simpa [hys] using w1⟩;obtain ⟨i,hi,rfl⟩:=List.getElem_of_mem hy;obtain ⟨_,_,_,_,h4⟩:=hall i hi (by omega);exact h4 (w2 _ (List.mem_map.2 ⟨_,List.getElem_mem _,rfl⟩))
def Rdr.map {T:TypeId} {α β:Type} (r:Rdr P T α) (f:α→β) (enc:β→List D) (ok:β→Prop) (he:∀ x,enc (f x)=r.enc x) (hok:∀ x,r.ok x→ok (f x)) (hl:∀ y,(enc y).length=P.cellsOf T):Rdr P T β where
 enc:=enc
 ok:=ok
 len:=hl
 sound e w base spare held fuel cs x hx:=by
  obtain ⟨y,h1,h2⟩:=r.sound e w base spare held fuel cs x hx;exact ⟨f y,by rw [he]; exact h1,fun hl=>hok y (h2 hl)⟩
def Rdr.sliceN {T E:TypeId} {α:Type} (r:Rdr P E α) (n:Nat) (h:P.underlying T=some (.slice E)) (hc:P.cellsOf T=1) (hn:P.cellsOf E=n):Rdr P T (List α) where
 enc l:=[.sl n (l.map r.enc)]
 ok l:=(∀ x∈l,r.ok x)∧l.length * P.bytesOf E≤reachBytes
 len _:=by simp [hc]
 sound:=by
  subst hn;exact (Rdr.slice r h hc).sound
theorem list2 {α:Type} {l:List α} (h:l.length=2):l=[l[0]'(by omega),l[1]'(by omega)]:=by
 match l,h with
 | [p,q],_=>rfl
theorem list3 {α:Type} {l:List α} (h:l.length=3):l=[l[0]'(by omega),l[1]'(by omega),l[2]'(by omega)]:=by
 match l,h with
 | [p,q,r],_=>rfl
def Rdr.struct2 {T A B:TypeId} {α β:Type} (r:Rdr P A α) (s:Rdr P B β) {f0 f1:Field} (h:P.underlying T=some (.struct #[f0,f1])) (hA:f0.type=A) (hB:f1.type=B) (h0:f0.offset=0) (h1:f1.offset=P.cellsOf A)
  (hc:P.cellsOf T=P.cellsOf A+P.cellsOf B):Rdr P T (α × β) where
 enc x:=r.enc x.1++s.enc x.2
 ok x:=r.ok x.1∧s.ok x.2
 len x:=by simp [r.len,s.len,hc]
 sound e w base spare held fuel cs x hx:=by
  obtain ⟨xs,n,rfl,rfl,hl,hxs,hat⟩:=DataW.trod_struct h hx;have hxs':xs.length=2:=hxs
  have g0:=hat 0 f0 rfl;have g1:=hat 1 f1 rfl;have e0:xs[0]?=some (xs[0]'(by omega)):=List.getElem?_eq_getElem (by omega)
  have e1:xs[1]?=some (xs[1]'(by omega)):=List.getElem?_eq_getElem (by omega)
  rw [e0,h0,hA] at g0;rw [e1,h1,hB] at g1;obtain ⟨y,k1,k2⟩:=r.sound e w base spare held n _ _ g0;obtain ⟨z,m1,m2⟩:=s.sound e w base spare held n _ _ g1;refine ⟨(y,z),?_,fun hli=>?_⟩
  rotate_left
  ·unfold Light at hli k2 m2;have e2:xs=[xs[0]'(by omega),xs[1]'(by omega)]:=list2 hxs'
   rw [e2] at hli;simp only [List.map_cons,List.map_nil,DataW.weights,h,DataW.weightsEach,hA,hB,List.all_append,Bool.and_eq_true] at hli;exact ⟨k2 hli.1,m2 hli.2.1⟩
  have hcs:cs=(cs.drop 0).take (P.cellsOf A)++(cs.drop (P.cellsOf A)).take (P.cellsOf B):=by
   have:(cs.drop (P.cellsOf A)).take (P.cellsOf B)=cs.drop (P.cellsOf A):=List.take_of_length_le (by simp; omega)
   rw [this,List.drop_zero,List.take_append_drop]
  rw [hcs];exact k1.append m1
def Rdr.struct3 {T A B C:TypeId} {α β γ:Type} (r:Rdr P A α) (s:Rdr P B β) (t:Rdr P C γ) {f0 f1 f2:Field} (h:P.underlying T=some (.struct #[f0,f1,f2])) (hA:f0.type=A) (hB:f1.type=B) (hC:f2.type=C)
  (h0:f0.offset=0) (h1:f1.offset=P.cellsOf A) (h2:f2.offset=P.cellsOf A+P.cellsOf B) (hc:P.cellsOf T=P.cellsOf A+P.cellsOf B+P.cellsOf C):Rdr P T (α × β × γ) where
 enc x:=r.enc x.1++(s.enc x.2.1++t.enc x.2.2)
 ok x:=r.ok x.1∧s.ok x.2.1∧t.ok x.2.2
 len x:=by simp [r.len,s.len,t.len,hc]; omega
 sound e w base spare held fuel cs x hx:=by
  obtain ⟨xs,n,rfl,rfl,hl,hxs,hat⟩:=DataW.trod_struct h hx;have hxs':xs.length=3:=hxs
  have g0:=hat 0 f0 rfl;have g1:=hat 1 f1 rfl;have g2:=hat 2 f2 rfl;have e0:xs[0]?=some (xs[0]'(by omega)):=List.getElem?_eq_getElem (by omega)
  have e1:xs[1]?=some (xs[1]'(by omega)):=List.getElem?_eq_getElem (by omega)
  have e2:xs[2]?=some (xs[2]'(by omega)):=List.getElem?_eq_getElem (by omega)
  rw [e0,h0,hA] at g0;rw [e1,h1,hB] at g1;rw [e2,h2,hC] at g2;obtain ⟨y,k1,k2⟩:=r.sound e w base spare held n _ _ g0;obtain ⟨z,m1,m2⟩:=s.sound e w base spare held n _ _ g1;obtain ⟨q,p1,p2⟩:=t.sound e w base spare held n _ _ g2;refine ⟨(y,z,q),?_,fun hli=>?_⟩
  rotate_left
  ·unfold Light at hli k2 m2 p2;have e2:xs=[xs[0]'(by omega),xs[1]'(by omega),xs[2]'(by omega)]:=list3 hxs'
   rw [e2] at hli;simp only [List.map_cons,List.map_nil,DataW.weights,h,DataW.weightsEach,hA,hB,hC,List.all_append,Bool.and_eq_true] at hli;exact ⟨k2 hli.1,m2 hli.2.1,p2 hli.2.2.1⟩
  have hcs:cs=(cs.drop 0).take (P.cellsOf A)++((cs.drop (P.cellsOf A)).take (P.cellsOf B)++(cs.drop (P.cellsOf A+P.cellsOf B)).take (P.cellsOf C)):=by
   have:(cs.drop (P.cellsOf A+P.cellsOf B)).take (P.cellsOf C)=cs.drop (P.cellsOf A+P.cellsOf B):=List.take_of_length_le (by simp; omega)
   rw [this,←List.drop_drop,List.take_append_drop,List.drop_zero,List.take_append_drop]
  rw [hcs];exact k1.append (m1.append p1)
def G0:Gh:=⟨fun _=>none,fun _=>none,fun _=>.whole,0⟩
def m0:AMem:=⟨fun _=>none,0,fun _=>false,0⟩
theorem G0_ps (a:Addr):G0.ps a:=trivial
theorem relM_start (W:World) (hg:GlobOk G0 W:=by intro g cs h; simp [globD] at h):RelM G0 m0 W:=by
 constructor
 case glob=>exact hg
 case box=>intro k rows b sz h; cases h
 case nobox=>intro k _; rfl
 case inj=>intro k k' b sz sz' h; cases h
 case nb=>intro k _; rfl
 case nt=>rfl
 case toks=>intro t h; cases h
 case tokb=>intro t g h; cases h
 case tinj=>intro t t' g h; cases h
 case tnt=>intro t x h; cases h
 case fresh=>intro b _; rfl
theorem RVd.start {W:World} {d:D} {v:Value} (h:RVd W.cell? (fun _=>True) d v):RVd W.cell? G0.ps d v:=h.mono fun a u _ hc=>⟨G0_ps a,hc⟩
theorem Rdr.agg {T:TypeId} {α:Type} (r:Rdr P T α) {W:World} {base base':Nat} {sp:Nat→Bool} {held:Bool} {H:Type} {enc:TypeId × Value→H} {v:Value} {d:DataW H} {p:List MemPlace}
  (hs:aggT P T=some true) (hv:Value.okWide P W .any base T v) (h:DataW.Trod enc P W base' sp held T v d p) (hli:Light P T d):∃ y,r.ok y∧RV G0 W (.agg ((r.enc y).map .d)) v:=by
 have hcs:∃ cs,v=.agg cs:=by
  unfold aggT at hs;unfold Value.okWide at hv;cases hu:P.underlying T with
  | none=>rw [hu] at hs; simp at hs
  | some u =>
   rw [hu] at hs hv;cases u <;> simp at hs hv <;> exact ⟨_,hv.choose_spec.1⟩
 obtain ⟨cs,rfl⟩:=hcs;obtain ⟨fuel,h⟩:=h;obtain ⟨y,⟨h1,h2⟩,hok⟩:=r.sound enc W base' sp held fuel _ _ h;refine ⟨y,hok hli,?_⟩;simp only [Value.cells] at h1 h2;have:=RV.agg (G:=G0) (w:=W) (cs:=(r.enc y).map .d) (vs:=cs.toList) (by simp [h1]) (fun i g1 g2=>by
  simp only [List.getElem_map];exact .d (h2 i g2 (by simpa using g1)).start) (fun v hv=>by
  obtain ⟨i,hi,rfl⟩:=List.getElem_of_mem hv;exact (h2 i hi (by omega)).one)
 simpa using this
theorem Rdr.cell {T:TypeId} {α:Type} (r:Rdr P T α) {W:World} {base base':Nat} {sp:Nat→Bool} {held:Bool} {H:Type} {enc:TypeId × Value→H} {v:Value} {d:DataW H} {p:List MemPlace} (f:α→D)
  (hs:aggT P T=some false) (hf:∀ y,r.enc y=[f y]) (hv:Value.okWide P W .any base T v) (h:DataW.Trod enc P W base' sp held T v d p) (hli:Light P T d):∃ y,r.ok y∧RV G0 W (.d (f y)) v:=by
 obtain ⟨fuel,h⟩:=h;obtain ⟨y,⟨h1,h2⟩,hok⟩:=r.sound enc W base' sp held fuel _ _ h;refine ⟨y,hok hli,?_⟩;rw [hf] at h1;have hcs:v.cells.toList=[v]:=by
  cases v with
  | agg cs =>
   exfalso
   unfold aggT at hs;unfold Value.okWide Cell.okWide Cell.ok at hv;cases hu:P.underlying T with
   | none=>rw [hu] at hs; simp at hs
   | some u =>
    rw [hu] at hs hv;cases u <;> simp_all
  | _=>rfl
 have:=h2 0 (by rw [h1]; simp) (by rw [hf]; simp)
 simp only [hf,List.getElem_cons_zero] at this;have e:v.cells.toList[0]'(by rw [h1]; simp)=v:=by simp [hcs]
 rw [e] at this;exact .d this.start
theorem light_arg {H:Type} {ts:List TypeId} {ds:List (DataW H)} (hz:(DataW.weightsEach P ts ds).all (· ≤ reachBytes)=true) {j:Nat} {T:TypeId} {d:DataW H} (ht:ts[j]?=some T) (hd:ds[j]?=some d):Light P T d :=
 List.all_eq_true.2 fun x hx=>List.all_eq_true.1 hz x (DataW.weights_mem_each ht hd x hx)
theorem arg_agg {ps:Array TypeId} {args:Array Value} {W:World} {base base':Nat} {sp:Nat→Bool} {held:Bool} {H:Type} {enc:TypeId × Value→H} (hval:∀ (j:Nat) t v,ps[j]?=some t→args[j]?=some v→Value.okWide P W .any base t v)
  (j:Nat) (T:TypeId) (v:Value) (hp:ps[j]?=some T) (ha:args[j]?=some v) {α:Type} (r:Rdr P T α) {d:DataW H} {p:List MemPlace} (hs:aggT P T=some true) (h:DataW.Trod enc P W base' sp held T v d p) (hli:Light P T d) :
  ∃ y,r.ok y∧RV G0 W (.agg ((r.enc y).map .d)) v:=r.agg hs (hval j T v hp ha) h hli
theorem le_old {W W':World} {G':Gh} (h:Le G0 W G' W') (b:Nat) (hb:b<W.heap.size):W'.heap[b]?=W.heap[b]?:=(h.whole b hb rfl).2
theorem le_kept {W W':World} {G':Gh} (h:Le G0 W G' W') (may:MemPlace→Prop):W.keptBut W' may:=by
 refine ⟨h.os,h.output,fun i hi=>?_⟩;rw [le_old h i hi];split
 ·rename_i c t fr c' t' fr' e1 e2;rw [e1] at e2;cases e2;exact ⟨rfl,rfl,rfl,fun _ _=>rfl⟩
 ·rename_i e1 e2;rw [e1] at e2;cases e2;exact .inr ⟨rfl,rfl⟩
 ·rfl
theorem le_same {W W':World} {G':Gh} (h:Le G0 W G' W') {p:MemPlace} (hp:p.block<W.heap.size):W.sameAt W' p:=by
 cases p with
 | cell b off=>exact World.cell?_of_block (w:=W) (a:=⟨b,off,none⟩) (le_old h b hp)
 | map b=>exact le_old h b hp
theorem trodAll_stays {H:Type} {enc:TypeId × Value→H} {W W':World} {T:TypeId→Prop} {sp':Nat→Bool} (K:Kids P T) (hsz:∀ {t e:TypeId},T t→P.underlying t=some (.slice e)→0<P.cellsOf e) :
  ∀ {ts:List TypeId} {vs:List Value} {ds:List (DataW H)} {ps:List MemPlace},(∀ t∈ts,T t)→DataW.TrodAll enc P W 0 (fun _=>true) true ts vs ds ps→(∀ p∈ps,W.sameAt W' p)→(∀ p∈ps,sp' p.block=true) →
  DataW.TrodAll enc P W' 0 sp' true ts vs ds ps
 | [],[],[],_,_,h,_,_=>h
 | t::ts,v::vs,d::ds,_,hT,⟨p,q,⟨n,hn⟩,h2,e⟩,h3,h4=>by
  subst e;exact ⟨p,q,⟨n,DataW.trod_stays K hsz (fun h=>by cases h) (hT t (by simp)) hn (fun x hx=>h3 x (by simp [hx])) (fun x hx=>h4 x (by simp [hx]))⟩,
   trodAll_stays K hsz (fun t ht=>hT t (by simp [ht])) h2 (fun x hx=>h3 x (by simp [hx])) (fun x hx=>h4 x (by simp [hx])),rfl⟩
theorem law_of {f:FuncId} {fn:Func} {s:ChangeSpec} {H:Type} {enc:TypeId × Value→H} {W:World} {args:Array Value} {ds:List (DataW H)} {before:List MemPlace} {avs:List AV} {tok':Nat→Bool} {nt':Nat}
  (hl:laidOutB P=true) (hm:mapsRowed P=true) (hz:((List.range P.types.size).all fun t=>match P.underlying t with|some (.slice e)=>decide (0<P.cellsOf e)|_=>true)=true)
  (hpar:fn.params.all (· < P.types.size)=true) {tb:TypeId} (hres:fn.resultTypes = #[tb]) (hb:P.underlying tb=some .bool)
  (hvars:s.vars=[]) (hfn:s.fn H ds={ results:=[.lit (.bool true)],args:=ds })
  (hW:DataW.Whole enc P fn.params.toList s.vars false W args.toList ds [] before) (hr:RVs G0 W avs args.toList) (hc:DCall P f avs (fun _=>false) 0 (B true) tok' nt') (hgl:GlobOk G0 W:=by intro g cs h; simp [globD] at h) :
  Calls P f args W fun e W'=>∃ v,e=.returned v∧s.post enc P fn false true false false W args v W':=by
 have hcall:=(hc (fun _=>none) 0).2 G0 W args.toList (relM_start W hgl) hr;simp only [Array.toArray_toList] at hcall;refine hcall.mono ?_;rintro e W' ⟨v,av,m',G',rfl,⟨rfl,rfl⟩,_,_,hv,hle,_⟩;cases hv with
 | d hv =>
  cases hv with
  | raw =>
   refine ⟨_,rfl,?_⟩;have hlt:=hW.lt;have hWW:=hW;obtain ⟨p,q,hA,hV,rfl,hfz,hnd⟩:=hW;rw [hvars] at hV;obtain ⟨_,rfl⟩:=trodVars_none hV;simp only [List.append_nil] at hlt hfz hWW ⊢;have hT:∀ t∈fn.params.toList,t<P.types.size:=fun t ht=>by
    have:=Array.all_eq_true_iff_forall_mem.1 hpar t (by simpa using ht)
    simpa using this
   have hsz:∀ {t e:TypeId},t<P.types.size→P.underlying t=some (.slice e)→0<P.cellsOf e:=by
    intro t e ht hu;have:=List.all_eq_true.1 hz t (List.mem_range.2 ht)
    rw [hu] at this;simpa using this
   have hargs:∀ sp:Nat→Bool,(∀ x∈p,sp x.block=true)→DataW.TrodAll enc P W' 0 sp true fn.params.toList args.toList ds p:=fun sp hsp =>
    trodAll_stays (kids_rows hl hm) hsz hT hA (fun x hx=>le_same hle (hlt x hx)) hsp
   have hnat:(Value.bool true).resultList fn.resultTypes.size=[.bool true]:=by rw [hres]; rfl
   have hresb:∀ (b:Nat) (sp:Nat→Bool) (hd:Bool),DataW.TrodAll enc P W' b sp hd fn.resultTypes.toList ((Value.bool true).resultList fn.resultTypes.size) [.lit (.bool true)] []:=fun b sp hd=>by
    rw [hnat,hres];exact trodAll_mk1 ⟨1,by simp [DataW.trod,hb,Value.cells]⟩
   have hfn':s.fn H (ds++[])={ results:=[.lit (.bool true)],args:=ds }:=by rw [List.append_nil]; exact hfn
   refine ⟨ds,[],p,[],p,[],hWW,?_,?_,?_,World.keptBut_mono (fun _ f=>f.elim) (le_kept hle fun _=>False),fun h=>by cases h⟩
   ·rw [hfn']; exact hresb _ _ _
   ·rw [hfn']; exact hargs _ fun x hx=>by simpa using hlt x hx
   ·rw [hfn',hvars]; exact rfl
theorem own0:ownKnob Tryz.prog.godebug=none:=by kernel_rfl
theorem laidOut0:laidOutB Tryz.prog=true:=by kernel_rfl
theorem mapsRowed0:mapsRowed Tryz.prog=true:=by kernel_rfl
theorem slices0:((List.range Tryz.prog.types.size).all fun t=>match Tryz.prog.underlying t with|some (.slice e)=>decide (0<Tryz.prog.cellsOf e)|_=>true)=true:=by kernel_rfl
def rdInt:Rdr Tryz.prog 3 Int:=Rdr.int (k:=.i64) Tryz.underlying3 (by kernel_rfl)
def rdInts:Rdr Tryz.prog 26 (List Int):=rdInt.sliceN 1 Tryz.underlying26 (by kernel_rfl) (by kernel_rfl)
def rdEdge0:Rdr Tryz.prog 139 (Int × Int × Int):=Rdr.struct3 rdInt rdInt rdInt Tryz.underlying139 rfl rfl rfl rfl (by kernel_rfl) (by kernel_rfl) (by kernel_rfl)
def rdEdge:Rdr Tryz.prog 139 E:=rdEdge0.map (fun x=>⟨x.1,x.2.1,x.2.2⟩) E.cells (fun _=>True) (fun _=>rfl) (fun _ _=>trivial) (fun _=>by kernel_rfl)
def rdEdges:Rdr Tryz.prog 27 (List E):=rdEdge.sliceN 3 Tryz.underlying27 (by kernel_rfl) (by kernel_rfl)
def rdGraph0:Rdr Tryz.prog 29 (List Int × List E):=Rdr.struct2 rdInts rdEdges Tryz.underlying29 rfl rfl rfl (by kernel_rfl) (by kernel_rfl)
structure RdF (P:Program) (T:TypeId) {α:Type} (en:α→List D) (ok:α→Prop) (n:Nat):Prop where
 sound:∀ {H:Type} (e:TypeId × Value→H) (w:World) (base:Nat) (spare:Nat→Bool) (held:Bool) (cs:List Value) (x:DataW H × List MemPlace),
  DataW.trod e P w base spare held n T cs=some x→∃ y,Rd w cs (en y)∧(Light P T x.1→ok y)
theorem Rdr.f {P:Program} {T:TypeId} {α:Type} (r:Rdr P T α) (n:Nat):RdF P T r.enc r.ok n:=⟨fun e w base spare held cs x hx=>r.sound e w base spare held n cs x hx⟩
theorem RdF.zero {P:Program} {T:TypeId} {α:Type} {en:α→List D} {ok:α→Prop}:RdF P T en ok 0:=⟨fun e w base spare held cs x hx=>by simp [DataW.trod] at hx⟩
def Rdr.ofF {P:Program} {T:TypeId} {α:Type} (en:α→List D) (ok:α→Prop) (len:∀ x,(en x).length=P.cellsOf T) (h:∀ n,RdF P T en ok n):Rdr P T α:=⟨en,ok,len,fun e w base spare held n cs x hx=>(h n).sound e w base spare held cs x hx⟩
theorem RdF.slice {P:Program} {T E:TypeId} {α:Type} {en:α→List D} {ok:α→Prop} {n:Nat} (r:RdF P E en ok n) (k:Nat) (hk:P.cellsOf E=k) (hlen:∀ x,(en x).length=k) (h:P.underlying T=some (.slice E)) :
  RdF P T (fun l:List α=>[.sl k (l.map en)]) (fun l=>(∀ x∈l,ok x)∧l.length * P.bytesOf E≤reachBytes) (n+1):=by
 subst hk;constructor
 intro H e w base spare held cs x hx;rcases DataW.trod_slice h hx with ⟨rfl,rfl⟩|⟨a,len,cap,elems,rest,n',hn',rfl,rfl,hb,hl,hm,hel,hat,_⟩
 ·exact ⟨[],Rd.one (.sl (es:=[]) (fun _ _=>default) (Nat.le_refl _) (by decide) (by simp) (by simp) (by simp) (by simp)),fun _=>⟨by simp,by simp⟩⟩
 ·obtain rfl:n'=n:=by omega
  have key:∀ i (hi:i<elems.length),∃ cs y,cs.length=P.cellsOf E∧(∀ j (hj:j<cs.length),w.cell? (a.add (i * P.cellsOf E+j))=some cs[j])∧Rd w cs (en y)∧(Light P E elems[i].1→ok y):=by
   intro i hi;have h1:=hat i (by omega);have h2:elems[i]?=some elems[i]:=List.getElem?_eq_getElem hi
   rw [h2,Option.bind_eq_some_iff] at h1;obtain ⟨cs,hcs,htr⟩:=h1;obtain ⟨hcl,hcc⟩:=cells_spec hcs;obtain ⟨y,hy,hok⟩:=r.sound e w base spare held cs _ htr;refine ⟨cs,y,hcl,fun j hj=>?_,hy,hok⟩;rw [←Addr.add_add];exact hcc j hj
  have pick:∀ m,m≤elems.length→∃ ys:List α,ys.length=m∧(∀ i (hi:i<ys.length) (hi2:i<elems.length),∃ cs,cs.length=P.cellsOf E∧(∀ j (hj:j<cs.length),w.cell? (a.add (i * P.cellsOf E+j))=some cs[j])∧Rd w cs (en ys[i])∧(Light P E elems[i].1→ok ys[i])):=by
   intro m;induction m with
   | zero=>intro _; exact ⟨[],rfl,fun i hi=>by simp at hi⟩
   | succ m ih =>
    intro hm';obtain ⟨ys,hys,hall⟩:=ih (by omega);obtain ⟨cs,y,g1,g2,g3,g4⟩:=key m (by omega);refine ⟨ys++[y],by simp [hys],fun i hi hi2=>?_⟩;by_cases him:i<ys.length
    ·rw [List.getElem_append_left him];exact hall i him hi2
    ·have:i=m:=by simp at hi; omega
     subst this;have e1:(ys++[y])[i]=y:=by
      rw [List.getElem_append_right (by omega)];simp
     rw [e1];exact ⟨cs,g1,g2,g3,g4⟩
  obtain ⟨ys,hys,hall⟩:=pick elems.length (Nat.le_refl _);refine ⟨ys,Rd.one ?_,fun hli=>?_⟩
  ·have hlen':len=ys.length:=by omega
   subst hlen';have hml:ys.length=(ys.map en).length:=by simp
   rw [hml];refine .sl (fun i j=>(w.cell? (a.add (i * P.cellsOf E+j))).getD default) (by simpa using hl) hm (fun e he=>?_) (fun _=>⟨a,rfl⟩) (fun a' ha' i j hi hj=>?_) (fun i j hi hj=>?_)
   ·obtain ⟨y,_,rfl⟩:=List.mem_map.1 he;exact hlen y
   ·cases ha'
    obtain ⟨cs,g1,g2,_⟩:=hall i (by simpa using hi) (by simp at hi; omega);rw [g2 j (by omega)];exact ⟨trivial,rfl⟩
   ·obtain ⟨cs,g1,g2,g3,_⟩:=hall i (by simpa using hi) (by simp at hi; omega);simp only [List.getElem_map] at hj ⊢;have hjc:j<cs.length:=by rw [g3.1]; exact hj
    rw [g2 j hjc];exact g3.2 j hjc hj
  ·obtain ⟨w1,w2⟩:=light_slice h hli;refine ⟨fun y hy=>?_,by simpa [hys] using w1⟩;obtain ⟨i,hi,rfl⟩:=List.getElem_of_mem hy;obtain ⟨_,_,_,_,h4⟩:=hall i hi (by omega);exact h4 (w2 _ (List.mem_map.2 ⟨_,List.getElem_mem _,rfl⟩))
theorem list4 {α:Type} {l:List α} (h:l.length=4):l=[l[0]'(by omega),l[1]'(by omega),l[2]'(by omega),l[3]'(by omega)]:=by
 match l,h with
 | [p,q,r,s],_=>rfl
theorem RdF.struct4 {P:Program} {T A B C E:TypeId} {α β γ δ:Type} {ea:α→List D} {eb:β→List D} {ec:γ→List D} {ed:δ→List D} {oa:α→Prop} {ob:β→Prop} {oc:γ→Prop} {od:δ→Prop} {n:Nat}
  (r:RdF P A ea oa n) (s:RdF P B eb ob n) (t:RdF P C ec oc n) (u:RdF P E ed od n) {f0 f1 f2 f3:Field} (h:P.underlying T=some (.struct #[f0,f1,f2,f3])) (hA:f0.type=A) (hB:f1.type=B) (hC:f2.type=C) (hE:f3.type=E)
  (h0:f0.offset=0) (h1:f1.offset=P.cellsOf A) (h2:f2.offset=P.cellsOf A+P.cellsOf B) (h3:f3.offset=P.cellsOf A+P.cellsOf B+P.cellsOf C) (hc:P.cellsOf T=P.cellsOf A+P.cellsOf B+P.cellsOf C+P.cellsOf E) :
  RdF P T (fun x:α × β × γ × δ=>ea x.1++(eb x.2.1++(ec x.2.2.1++ed x.2.2.2))) (fun x=>oa x.1∧ob x.2.1∧oc x.2.2.1∧od x.2.2.2) (n+1):=by
 constructor
 intro H e w base spare held cs x hx;obtain ⟨xs,n',hn',rfl,hl,hxs,hat⟩:=DataW.trod_struct h hx;obtain rfl:n'=n:=by omega
 have hxs':xs.length=4:=hxs
 have g0:=hat 0 f0 rfl;have g1:=hat 1 f1 rfl;have g2:=hat 2 f2 rfl;have g3:=hat 3 f3 rfl;have e0:xs[0]?=some (xs[0]'(by omega)):=List.getElem?_eq_getElem (by omega)
 have e1:xs[1]?=some (xs[1]'(by omega)):=List.getElem?_eq_getElem (by omega)
 have e2:xs[2]?=some (xs[2]'(by omega)):=List.getElem?_eq_getElem (by omega)
 have e3:xs[3]?=some (xs[3]'(by omega)):=List.getElem?_eq_getElem (by omega)
 rw [e0,h0,hA] at g0;rw [e1,h1,hB] at g1;rw [e2,h2,hC] at g2;rw [e3,h3,hE] at g3;obtain ⟨y,k1,k2⟩:=r.sound e w base spare held _ _ g0;obtain ⟨z,m1,m2⟩:=s.sound e w base spare held _ _ g1;obtain ⟨q,p1,p2⟩:=t.sound e w base spare held _ _ g2;obtain ⟨v,q1,q2⟩:=u.sound e w base spare held _ _ g3;refine ⟨(y,z,q,v),?_,fun hli=>?_⟩
 rotate_left
 ·unfold Light at hli k2 m2 p2 q2;have e2:xs=[xs[0]'(by omega),xs[1]'(by omega),xs[2]'(by omega),xs[3]'(by omega)]:=list4 hxs'
  rw [e2] at hli;simp only [List.map_cons,List.map_nil,DataW.weights,h,DataW.weightsEach,hA,hB,hC,hE,List.all_append,Bool.and_eq_true] at hli;exact ⟨k2 hli.1,m2 hli.2.1,p2 hli.2.2.1,q2 hli.2.2.2.1⟩
 have hcs:cs=(cs.drop 0).take (P.cellsOf A)++((cs.drop (P.cellsOf A)).take (P.cellsOf B)++((cs.drop (P.cellsOf A+P.cellsOf B)).take (P.cellsOf C)++(cs.drop (P.cellsOf A+P.cellsOf B+P.cellsOf C)).take (P.cellsOf E))):=by
  have:(cs.drop (P.cellsOf A+P.cellsOf B+P.cellsOf C)).take (P.cellsOf E)=cs.drop (P.cellsOf A+P.cellsOf B+P.cellsOf C):=List.take_of_length_le (by simp; omega)
  rw [this];have e3:=List.take_append_drop (P.cellsOf C) (cs.drop (P.cellsOf A+P.cellsOf B));have e2:=List.take_append_drop (P.cellsOf B) (cs.drop (P.cellsOf A));rw [List.drop_drop] at e3 e2;rw [e3,e2,List.drop_zero,List.take_append_drop]
 rw [hcs];exact k1.append (m1.append (p1.append q1))
theorem by_int:Tryz.prog.bytesOf 3=8:=by kernel_rfl
theorem by_edge:Tryz.prog.bytesOf 139=24:=by kernel_rfl
theorem rdInts_ok {l:List Int} (h:rdInts.ok l):l.length≤bigN:=by
 have h2:l.length * Tryz.prog.bytesOf 3≤reachBytes:=h.2
 rw [by_int] at h2; unfold reachBytes at h2; rw [bigN_eq]; omega
theorem rdEdges_ok {l:List E} (h:rdEdges.ok l):l.length≤bigN:=by
 have h2:l.length * Tryz.prog.bytesOf 139≤reachBytes:=h.2
 rw [by_edge] at h2; unfold reachBytes at h2; rw [bigN_eq]; omega
structure Gr.Big (g:Gr):Prop where
 n:g.nodes.length≤bigN
 e:g.edges.length≤bigN
def rdGraphB:Rdr Tryz.prog 29 Gr:=rdGraph0.map (fun x=>⟨x.1,x.2⟩) (fun g=>[ints g.nodes,AM.edges g.edges]) Gr.Big (fun _=>rfl) (fun _ h=>⟨rdInts_ok h.1,rdEdges_ok h.2⟩) (fun _=>by kernel_rfl)
def rdMorph0:Rdr Tryz.prog 38 (List Int × List Int):=Rdr.struct2 rdInts rdInts Tryz.underlying38 rfl rfl rfl (by kernel_rfl) (by kernel_rfl)
def Cd.rowD (c:Cd):List D:=[.raw (.int .i64 c.kind),conds c.kids,ints c.m.nodes,ints c.m.edges,ints c.g.nodes,AM.edges c.g.edges,slots c.sl,.raw (.int .i64 c.vars),tests c.te]
def Rdr.str {P:Program} {T:TypeId} (h:P.underlying T=some .string) (hc:P.cellsOf T=1):Rdr P T ByteArray where
 enc n:=[.raw (.string n)]
 ok n:=n.size≤maxLen
 len _:=by simp [hc]
 sound e w base spare held fuel cs x hx:=by
  cases fuel with
  | zero=>simp [DataW.trod] at hx
  | succ n =>
   unfold DataW.trod at hx;rw [h] at hx;split at hx <;> simp_all
   exact ⟨_,Rd.one (.raw rfl),fun _=>hx.1⟩
def Rdr.bool {P:Program} {T:TypeId} (h:P.underlying T=some .bool) (hc:P.cellsOf T=1):Rdr P T Bool where
 enc n:=[.raw (.bool n)]
 ok n:=True
 len _:=by simp [hc]
 sound e w base spare held fuel cs x hx:=by
  cases fuel with
  | zero=>simp [DataW.trod] at hx
  | succ n =>
   unfold DataW.trod at hx;rw [h] at hx;split at hx <;> first|(simp_all; done)|skip
   exact ⟨_,Rd.one (.raw rfl),fun _=>trivial⟩
def rdStr:Rdr Tryz.prog 9 ByteArray:=Rdr.str Tryz.underlying9 (by kernel_rfl)
def Ru.rowD (r:Ru):List D:=[.raw (.string r.name),ints r.lg.nodes,AM.edges r.lg.edges,slots r.lsl,.raw (.int .i64 r.lv),tests r.lte,ints r.rg.nodes,AM.edges r.rg.edges,slots r.rsl,.raw (.int .i64 r.rv),tests r.rte,
 ints r.k.nodes,ints r.k.edges,ints r.i.nodes,ints r.i.edges,.raw (.bool r.inj)]++r.c.cells
structure At.Big (a:At):Prop where
 n:a.name.size≤maxLen
 l:a.names.length≤bigN
 s:∀ x∈a.names,x.size≤maxLen
structure NT.Big (x:NT):Prop where
 n:x.name.size≤maxLen
 l:x.own.length≤bigN
 a:∀ y∈x.own,y.Big
structure Ty.Big (t:Ty):Prop where
 n:t.nodes.length≤bigN
 e:t.edges.length≤bigN
 nn:∀ x∈t.nodes,x.Big
 en:∀ x∈t.edges,x.name.size≤maxLen
structure Xt.Big (x:Xt):Prop where
 mn:x.m.nodes.length≤bigN
 me:x.m.edges.length≤bigN
 g:x.g.Big
structure Co.Big (c:Co):Prop where
 name:c.name.size≤maxLen
 g:c.g.Big
 n:c.exts.length≤bigN
 exts:∀ x∈c.exts,x.Big
theorem by_xt:Tryz.prog.bytesOf 146=96:=by kernel_rfl
def rdXt0:Rdr Tryz.prog 146 ((List Int × List Int) × Gr):=Rdr.struct2 rdMorph0 rdGraphB Tryz.underlying146 rfl rfl rfl (by kernel_rfl) (by kernel_rfl)
def rdXt:Rdr Tryz.prog 146 Xt:=rdXt0.map (fun x=>⟨⟨x.1.1,x.1.2⟩,x.2⟩) Xt.cells Xt.Big (fun _=>rfl) (fun x h=>⟨rdInts_ok h.1.1,rdInts_ok h.1.2,h.2⟩) (fun _=>by kernel_rfl)
def rdXts:Rdr Tryz.prog 30 (List Xt):=rdXt.sliceN 4 Tryz.underlying30 (by kernel_rfl) (by kernel_rfl)
theorem rdXts_ok {l:List Xt} (h:rdXts.ok l):l.length≤bigN∧∀ x∈l,x.Big:=by
 have h2:l.length * Tryz.prog.bytesOf 146≤reachBytes:=h.2
 rw [by_xt] at h2;have:reachBytes=140737488351232:=rfl
 exact ⟨by rw [bigN_eq]; omega,h.1⟩
abbrev CoT:=ByteArray × Int × Gr × List Xt
theorem rdCo_n (n:Nat):RdF Tryz.prog 32 (fun x:CoT=>rdStr.enc x.1++(rdInt.enc x.2.1++(rdGraphB.enc x.2.2.1++rdXts.enc x.2.2.2))) (fun x=>rdStr.ok x.1∧rdInt.ok x.2.1∧rdGraphB.ok x.2.2.1∧rdXts.ok x.2.2.2) n:=by
 cases n with
 | zero=>exact .zero
 | succ n=>exact RdF.struct4 (rdStr.f n) (rdInt.f n) (rdGraphB.f n) (rdXts.f n) Tryz.underlying32 rfl rfl rfl rfl rfl (by kernel_rfl) (by kernel_rfl) (by kernel_rfl) (by kernel_rfl)
def rdCo0:Rdr Tryz.prog 32 CoT:=Rdr.ofF _ _ (fun x=>by simp [rdStr.len,rdInt.len,rdGraphB.len,rdXts.len]; kernel_rfl) rdCo_n
def Co.rowD (c:Co):List D:=[.raw (.string c.name),.raw (.int .i64 c.kind),ints c.g.nodes,AM.edges c.g.edges,xts c.exts]
def rdCo:Rdr Tryz.prog 32 Co:=rdCo0.map (fun x=>⟨x.1,x.2.1,x.2.2.1,x.2.2.2⟩) Co.rowD Co.Big (fun _=>rfl) (fun x h=>⟨h.1,h.2.2.1,(rdXts_ok h.2.2.2).1,(rdXts_ok h.2.2.2).2⟩) (fun _=>by kernel_rfl)
theorem RdF.struct3 {P:Program} {T A B C:TypeId} {α β γ:Type} {ea:α→List D} {eb:β→List D} {ec:γ→List D} {oa:α→Prop} {ob:β→Prop} {oc:γ→Prop} {n:Nat}
  (r:RdF P A ea oa n) (s:RdF P B eb ob n) (t:RdF P C ec oc n) {f0 f1 f2:Field} (h:P.underlying T=some (.struct #[f0,f1,f2])) (hA:f0.type=A) (hB:f1.type=B) (hC:f2.type=C)
  (h0:f0.offset=0) (h1:f1.offset=P.cellsOf A) (h2:f2.offset=P.cellsOf A+P.cellsOf B) (hc:P.cellsOf T=P.cellsOf A+P.cellsOf B+P.cellsOf C) :
  RdF P T (fun x:α × β × γ=>ea x.1++(eb x.2.1++ec x.2.2)) (fun x=>oa x.1∧ob x.2.1∧oc x.2.2) (n+1):=by
 constructor
 intro H e w base spare held cs x hx;obtain ⟨xs,n',hn',rfl,hl,hxs,hat⟩:=DataW.trod_struct h hx;obtain rfl:n'=n:=by omega
 have hxs':xs.length=3:=hxs
 have g0:=hat 0 f0 rfl;have g1:=hat 1 f1 rfl;have g2:=hat 2 f2 rfl;have e0:xs[0]?=some (xs[0]'(by omega)):=List.getElem?_eq_getElem (by omega)
 have e1:xs[1]?=some (xs[1]'(by omega)):=List.getElem?_eq_getElem (by omega)
 have e2:xs[2]?=some (xs[2]'(by omega)):=List.getElem?_eq_getElem (by omega)
 rw [e0,h0,hA] at g0;rw [e1,h1,hB] at g1;rw [e2,h2,hC] at g2;obtain ⟨y,k1,k2⟩:=r.sound e w base spare held _ _ g0;obtain ⟨z,m1,m2⟩:=s.sound e w base spare held _ _ g1;obtain ⟨q,p1,p2⟩:=t.sound e w base spare held _ _ g2;refine ⟨(y,z,q),?_,fun hli=>?_⟩
 rotate_left
 ·unfold Light at hli k2 m2 p2;have e2:xs=[xs[0]'(by omega),xs[1]'(by omega),xs[2]'(by omega)]:=list3 hxs'
  rw [e2] at hli;simp only [List.map_cons,List.map_nil,DataW.weights,h,DataW.weightsEach,hA,hB,hC,List.all_append,Bool.and_eq_true] at hli;exact ⟨k2 hli.1,m2 hli.2.1,p2 hli.2.2.1⟩
 have hcs:cs=(cs.drop 0).take (P.cellsOf A)++((cs.drop (P.cellsOf A)).take (P.cellsOf B)++(cs.drop (P.cellsOf A+P.cellsOf B)).take (P.cellsOf C)):=by
  have:(cs.drop (P.cellsOf A+P.cellsOf B)).take (P.cellsOf C)=cs.drop (P.cellsOf A+P.cellsOf B):=List.take_of_length_le (by simp; omega)
  rw [this,←List.drop_drop,List.take_append_drop,List.drop_zero,List.take_append_drop]
 rw [hcs];exact k1.append (m1.append p1)
def Rdr.strR {P:Program} {T:TypeId} (h:P.underlying T=some .string) (hc:P.cellsOf T=1):Rdr P T ByteArray where
 enc n:=[.raw (.string n)]
 ok n:=n.size≤reachBytes
 len _:=by simp [hc]
 sound e w base spare held fuel cs x hx:=by
  cases fuel with
  | zero=>simp [DataW.trod] at hx
  | succ n =>
   unfold DataW.trod at hx;rw [h] at hx;split at hx <;> simp_all
   refine ⟨_,Rd.one (.raw rfl),fun hli=>?_⟩;obtain ⟨_,rfl⟩:=hx;have:=hli
   simp [Light,DataW.weights] at this;exact this
def rdStrR:Rdr Tryz.prog 9 ByteArray:=Rdr.strR Tryz.underlying9 (by kernel_rfl)
theorem by_fo:Tryz.prog.bytesOf 59=48:=by kernel_rfl
theorem by_co:Tryz.prog.bytesOf 32=96:=by kernel_rfl
theorem rch50:reachBytes=140737488351232:=rfl
theorem rdFo_n:∀ n,RdF Tryz.prog 59 Fo.cells Fo.Sm n
 | 0=>.zero
 | 1=>by
  constructor
  intro H e w base spare held cs x hx;obtain ⟨xs,n',hn',rfl,hl,hxs,hat⟩:=DataW.trod_struct Tryz.underlying59 hx;obtain rfl:n'=0:=by omega
  have g0:=hat 0 _ rfl;simp [DataW.trod] at g0;subst g0;simp at hxs
 | n+2=>by
  have ih:=rdFo_n n;have hk:=ih.slice 3 (by kernel_rfl) (fun c=>by rw [c.cells_eq]; rfl) (T:=57) Tryz.underlying57;have hs:=RdF.struct3 (rdInt.f (n+1)) (rdStrR.f (n+1)) hk Tryz.underlying59 rfl rfl rfl rfl (by kernel_rfl) (by kernel_rfl) (by kernel_rfl);constructor
  intro H e w base spare held cs x hx;obtain ⟨y,h1,h2⟩:=hs.sound e w base spare held cs x hx;refine ⟨.mk y.1 y.2.1 y.2.2,?_,fun hli=>?_⟩
  ·rw [Fo.cells_eq];exact h1
  ·obtain ⟨_,s1,k1,k2⟩:=h2 hli;have s2:y.2.1.size≤reachBytes:=s1
   rw [by_fo,rch50] at k2;rw [rch50] at s2;exact .mk (by simp only [Fo.name]; omega) (by simp only [Fo.kids]; omega) k1
theorem rdFo_len (c:Fo):c.cells.length=Tryz.prog.cellsOf 59:=by rw [c.cells_eq]; kernel_rfl
def rdFo:Rdr Tryz.prog 59 Fo:=Rdr.ofF Fo.cells Fo.Sm rdFo_len rdFo_n
def rdCos:Rdr Tryz.prog 60 (List Co):=rdCo.sliceN 5 Tryz.underlying60 (by kernel_rfl) (by kernel_rfl)
structure Qf where
 f:Fo
 l:List Co
abbrev Qf.av (q:Qf):AV:=.agg [I q.f.kind,Sb q.f.name,.d (fos q.f.kids),.d (cosD q.l)]
structure Qf.Big (q:Qf):Prop where
 f:q.f.Sm
 n:q.l.length≤bigN
 l:∀ c∈q.l,c.Big
def rdQf:Rdr Tryz.prog 62 (Fo × List Co):=Rdr.struct2 rdFo rdCos Tryz.underlying62 rfl rfl rfl (by kernel_rfl) (by kernel_rfl)
set_option maxRecDepth 100000 in
theorem arg_question {ps:Array TypeId} {args:Array Value} {W:World} {base base':Nat} {sp:Nat→Bool} {held:Bool} {H:Type} {enc:TypeId × Value→H} (hval:∀ (j:Nat) t v,ps[j]?=some t→args[j]?=some v→Value.okWide Tryz.prog W .any base t v)
  (j:Nat) (v:Value) (hp:ps[j]?=some 62) (ha:args[j]?=some v) {d:DataW H} {p:List MemPlace} (h:DataW.Trod enc Tryz.prog W base' sp held 62 v d p) (hli:Light Tryz.prog 62 d):∃ q:Qf,q.Big∧RV G0 W q.av v:=by
 refine Exists.elim (arg_agg hval j 62 v hp ha rdQf aggT_62 h hli) fun q hq=>⟨⟨q.1,q.2⟩,?_,?_⟩
 ·have h1:q.1.Sm∧(∀ x∈q.2,x.Big)∧q.2.length * Tryz.prog.bytesOf 32≤reachBytes:=hq.1
  have h2:=h1.2.2;rw [by_co,rch50] at h2;exact ⟨h1.1,by rw [bigN_eq]; show q.2.length≤_; omega,h1.2.1⟩
 ·have h2:RV G0 W (.agg ((q.1.cells++[cosD q.2]).map .d)) v:=hq.2
  rw [q.1.cells_eq] at h2;exact h2
def stVa5 (f:Fo) (L:List Co) (nb:Nat) (box:Bxs) (tok:Tks) (nt:Nat) (i:Nat):AState :=
 ⟨tl [(6,I i),(1,.d (cosD L)),(2,.ptr (nb+2) 0 0)],lb nb box [(2,[f.row])],tok,nt⟩
set_option maxRecDepth 100000 in
theorem valid50_c (f:Fo) (L:List Co) (hb:f.size≤1000000) (hs:f.Sm) (hL:Cos L) (tok:Tks) (nt:Nat):DCall Tryz.prog 30 [f.av,.d (cosD L)] tok nt (I (validF f L)) tok nt:=by
 intro box nb;have hLn:=hL.n;obtain ⟨R,hR⟩:∃ R,validF f L=R:=⟨_,rfl⟩
 rw [hR];unfold validF at hR;refine sI Tryz.func30 Tryz.ntmps30 fun hbox htok=>?_
 repeat (first|simp|refine sR ?_)
 refine Stop.of_d (shape50_c f hb hs _ _) ?_;simp;by_cases c1:shapeF f=0
 ·have b1:(shapeF f != 0)=false:=by simpa using c1
  rw [if_neg (by simpa using c1)] at hR;by_cases c2:(20:Int)<(L.length:Int)
  ·rw [if_pos (by omega)] at hR;subst hR;try (simp [b1,c2])
   repeat (first|(refine sR ?_; simp [b1,c2])|(refine sC ?_; simp [b1,c2])|(refine sX ?_; simp only [AU, ↓reduceIte]))
   refine sT (sH hbox htok ?_);simp [packA]
  ·rw [if_neg (by omega)] at hR;try (simp [b1,c2])
   repeat (first|(refine sR ?_; simp [b1,c2])|(refine sC ?_; simp [b1,c2])|(refine sX ?_; simp only [AU, ↓reduceIte]))
   refine sN ?_;refine AL.loopT (stVa5 f L nb box tok nt) (fun i=>i≤L.length∧coF L L.length 0=coF L (L.length - i) i) (fun i=>L.length - i) 0 ⟨Nat.zero_le _,rfl⟩ wkA ?_;rintro i S ⟨hi,hco⟩ hS;simp only [stVa5] at hS;subst hS;have hw:=sW (i:=i) (by omega);repeat (first|simp|refine sR ?_|refine sC ?_)
   refine ⟨fun hlt=>?_,fun hge=>?_⟩
   ·have hc:=shpS_c L[i] (hL.fit _ (List.getElem_mem hlt)) tok nt;rw [coF_at hlt] at hco;have hce:coE L i=if shpE L[i]≠0 then shpE L[i] else if plCo L L[i].name<(i:Int) then 5 else 0:=by simp [coE,hlt]
    have hpl:=place50_c L L[i].name hLn tok nt;repeat (first|simp [hlt]|refine sR ?_)
    generalize hx:L[i]=x at *;refine Stop.of_d (hc) ?_;simp;by_cases e1:shpE x=0
    ·have d1:(shpE x != 0)=false:=by simpa using e1
     rw [if_neg (by simpa using e1)] at hce;try (simp [d1,hlt,hx])
     repeat (first|(refine sR ?_; simp [d1,hlt,hx])|(refine sC ?_; simp [d1,hlt,hx])|(refine sX ?_; simp only [AU, ↓reduceIte]))
     refine Stop.of_d (hpl) ?_;simp;by_cases e2:plCo L x.name<(i:Int)
     ·rw [if_pos e2] at hce;rw [hce,if_pos (by decide)] at hco;rw [hco,if_pos (by decide)] at hR;subst hR;try (simp [e2])
      repeat (first|(refine sR ?_; simp [e2])|(refine sC ?_; simp [e2])|(refine sX ?_; simp only [AU, ↓reduceIte]))
      refine sT (sH hbox htok ?_);simp [packA]
     ·rw [if_neg e2] at hce;rw [hce,if_neg (by decide)] at hco;try (simp [e2,hw])
      repeat (first|(refine sR ?_; simp [e2,hw])|(refine sC ?_; simp [e2,hw])|(refine sX ?_; simp only [AU, ↓reduceIte]))
      refine sE ?_;exact ⟨i+1,⟨hlt,hco⟩,by omega,wkA⟩
    ·have d1:(shpE x != 0)=true:=by simpa using e1
     rw [if_pos e1] at hce;rw [hce,if_pos e1] at hco;rw [hco,if_pos e1] at hR;subst hR;try (simp [d1])
     repeat (first|(refine sR ?_; simp [d1])|(refine sC ?_; simp [d1])|(refine sX ?_; simp only [AU, ↓reduceIte]))
     refine sT (sH hbox htok ?_);simp [packA]
   ·refine sX ?_;simp only [AU, ↓reduceIte];have hz:coF L L.length 0=0:=by rw [hco,show L.length - i=0 by omega]; rfl
    rw [hz,if_neg (by decide)] at hR;have hf0:f.formE=0:=by
     unfold shapeF at c1;by_cases h:f.formE=0
     ·exact h
     ·rw [if_pos h] at c1; exact absurd c1 h
    rw [←f.kn_ats L hf0] at hR;have hkn:=known50_c L hLn _ f (Nat.lt_succ_self _) hb tok nt;repeat (first|simp|refine sR ?_)
    refine Stop.of_d (hkn) ?_;simp;cases e:f.kn L
    ·rw [e] at hR;simp only [Bool.false_eq_true, ↓reduceIte] at hR;subst hR;try (simp)
     repeat (first|(refine sR ?_; simp)|(refine sC ?_; simp)|(refine sX ?_; simp only [AU, ↓reduceIte]))
     refine sT (sH hbox htok ?_);simp [packA]
    ·rw [e] at hR;simp only [↓reduceIte] at hR;subst hR;try (simp)
     repeat (first|(refine sR ?_; simp)|(refine sC ?_; simp)|(refine sX ?_; simp only [AU, ↓reduceIte]))
     refine sT (sH hbox htok ?_);simp [packA]
 ·have b1:(shapeF f != 0)=true:=by simpa using c1
  rw [if_pos c1] at hR;subst hR;try (simp [b1])
  repeat (first|(refine sR ?_; simp [b1])|(refine sC ?_; simp [b1])|(refine sX ?_; simp only [AU, ↓reduceIte]))
  refine sT (sH hbox htok ?_);simp [packA]
def fewX (x:Xt):Bool:=if fewG x.g=true then fewM x.m 140 else false
def fewC (c:Co):Bool:=if 60<c.name.size then false else if 10<c.exts.length then false else if fewG c.g=true then allP fewX c.exts else false
theorem allP_mem {α:Type} {p:α→Bool} {l:List α} (h:allP p l=true):∀ x∈l,p x=true:=List.all_eq_true.1 h
theorem fewC_fit {c:Co} (h:fewC c=true):c.Fit∧c.exts.length≤10:=by
 unfold fewC at h;split at h
 ·cases h
 rename_i h1;split at h
 ·cases h
 rename_i h2;split at h
 ·rename_i h3;refine ⟨⟨by omega,fewG_fit h3,by omega,fun x hx=>?_⟩,by omega⟩;have:=allP_mem h x hx
  unfold fewX at this;split at this
  ·rename_i h4; exact ⟨fewM_fit2 this,fewG_fit h4⟩
  ·cases this
 ·cases h
def stFc (c:Co) (nb:Nat) (box:Bxs) (tok:Tks) (nt:Nat) (i:Nat):AState :=
 ⟨tl [(3,I i),(1,.ptr (nb+1) 0 0)],lb nb box [(1,[c.row])],tok,nt⟩
theorem few42_c (c:Co) (hc:c.Big) (tok:Tks) (nt:Nat):DCall Tryz.prog 14 [c.av] tok nt (B (fewC c)) tok nt:=by
 intro box nb;have hn:=hc.n;rw [bigN_eq] at hn;have hnm:=hc.name;have h1:=few05_c c.g;obtain ⟨N,hN⟩:∃ N,fewC c=N:=⟨_,rfl⟩
 rw [hN];unfold fewC at hN;by_cases e1:60<c.name.size
 ·have e1':(60:Int)<c.name.size:=by omega
  rw [if_pos e1] at hN;refine sI Tryz.func14 Tryz.ntmps14 fun hbox htok=>?_
  try (simp [e1,e1'])
  repeat (first|(refine sR ?_; simp [e1,e1'])|(refine sC ?_; simp [e1,e1'])|(refine sX ?_; simp only [AU, ↓reduceIte]))
  refine sT (sH hbox htok ?_);simp [packA,←hN]
 ·have e1':¬ (60:Int)<c.name.size:=by omega
  rw [if_neg e1] at hN;by_cases e2:10<c.exts.length
  ·have e2':(10:Int)<c.exts.length:=by omega
   rw [if_pos e2] at hN;refine sI Tryz.func14 Tryz.ntmps14 fun hbox htok=>?_
   try (simp [e1,e1',e2,e2'])
   repeat (first|(refine sR ?_; simp [e1,e1',e2,e2'])|(refine sC ?_; simp [e1,e1',e2,e2'])|(refine sX ?_; simp only [AU, ↓reduceIte]))
   refine sT (sH hbox htok ?_);simp [packA,←hN]
  ·have e2':¬ (10:Int)<c.exts.length:=by omega
   rw [if_neg e2] at hN;refine sI Tryz.func14 Tryz.ntmps14 fun hbox htok=>?_
   try (simp [e1,e1',e2,e2'])
   repeat (first|(refine sR ?_; simp [e1,e1',e2,e2'])|(refine sC ?_; simp [e1,e1',e2,e2'])|(refine sX ?_; simp only [AU, ↓reduceIte]))
   refine Stop.of_d (h1 _ _) ?_;simp;cases e3:fewG c.g
   ·rw [e3,if_neg (by simp)] at hN;try (simp)
    repeat (first|(refine sR ?_; simp)|(refine sC ?_; simp)|(refine sX ?_; simp only [AU, ↓reduceIte]))
    refine sT (sH hbox htok ?_);simp [packA,←hN]
   ·rw [e3,if_pos rfl] at hN;try (simp)
    repeat (first|(refine sR ?_; simp)|(refine sC ?_; simp)|(refine sX ?_; simp only [AU, ↓reduceIte]))
    refine sN ?_;refine AL.loopT (stFc c nb box tok nt) (fun i=>i≤c.exts.length∧allP fewX (c.exts.take i)=true) (fun i=>c.exts.length - i) 0 ⟨Nat.zero_le _,by simp [allP]⟩ wkA ?_;rintro i S' ⟨hi,hok⟩ hS;simp only [stFc] at hS;subst hS;have hw:=sW (i:=i) (by omega);repeat (first|simp|refine sR ?_|refine sC ?_)
    refine ⟨fun hlt=>?_,fun hge=>?_⟩
    ·have hno:=fun h=>all_no (p:=fewX) hlt h
     have hyes:=fun h=>all_more (p:=fewX) hlt hok h
     have hb:=hc.exts _ (List.getElem_mem hlt);have b1:=hb.mn;have b2:=hb.me;rw [bigN_eq] at b1 b2;have c1:=few05_c c.exts[i].g;have c2:=few06_c c.exts[i].m 140 (by omega) (by omega);have hd:fewX c.exts[i]=if fewG c.exts[i].g=true then fewM c.exts[i].m 140 else false:=rfl
     repeat (first|simp [hlt]|refine sR ?_)
     refine Stop.of_d (c1 _ _) ?_;simp;cases e4:fewG c.exts[i].g
     ·rw [e4,if_neg (by simp)] at hd;rw [hno hd] at hN;try (simp)
      repeat (first|(refine sR ?_; simp)|(refine sC ?_; simp)|(refine sX ?_; simp only [AU, ↓reduceIte]))
      refine sT (sH hbox htok ?_);simp [packA,←hN]
     ·rw [e4,if_pos rfl] at hd;try (simp [hlt])
      repeat (first|(refine sR ?_; simp [hlt])|(refine sC ?_; simp [hlt])|(refine sX ?_; simp only [AU, ↓reduceIte]))
      refine Stop.of_d (c2 _ _) ?_;simp;cases e5:fewM c.exts[i].m 140
      ·rw [e5] at hd;rw [hno hd] at hN;try (simp)
       repeat (first|(refine sR ?_; simp)|(refine sC ?_; simp)|(refine sX ?_; simp only [AU, ↓reduceIte]))
       refine sT (sH hbox htok ?_);simp [packA,←hN]
      ·rw [e5] at hd;try (simp [hw])
       repeat (first|(refine sR ?_; simp [hw])|(refine sC ?_; simp [hw])|(refine sX ?_; simp only [AU, ↓reduceIte]))
       refine sE ?_;exact ⟨i+1,⟨hlt,hyes hd⟩,by omega,wkA⟩
    ·refine sX ?_;simp only [AU, ↓reduceIte];have:i=c.exts.length:=by omega
     subst this;rw [List.take_length] at hok;rw [hok] at hN;repeat (first|simp|refine sR ?_)
     refine sT (sH hbox htok ?_);simp [packA,←hN]
def fewL1 (c:Co):Bool:=if fewC c=true then (if 6<c.g.nodes.length+c.g.edges.length then decide (shpE c=0) else false) else true
def fewQ (q:Qf):Bool:=if 25<q.l.length then false else if q.f.few=true then !anyB fewL1 q.l else false
set_option maxRecDepth 100000 in
theorem few1_c (c:Co) (hc:c.Big) (tok:Tks) (nt:Nat):DCall Tryz.prog 82 [c.av] tok nt (B (fewL1 c)) tok nt:=by
 intro box nb;have h1:=few42_c c hc;obtain ⟨R,hR⟩:∃ R,fewL1 c=R:=⟨_,rfl⟩
 rw [hR];unfold fewL1 at hR;refine sI Tryz.func82 Tryz.ntmps82 fun hbox htok=>?_
 try (simp)
 repeat (first|(refine sR ?_; simp)|(refine sC ?_; simp)|(refine sX ?_; simp only [AU, ↓reduceIte]))
 refine Stop.of_d (h1 _ _) ?_;simp;cases e1:fewC c
 ·rw [e1] at hR;simp only [Bool.false_eq_true, ↓reduceIte] at hR;subst hR;try (simp)
  repeat (first|(refine sR ?_; simp)|(refine sC ?_; simp)|(refine sX ?_; simp only [AU, ↓reduceIte]))
  refine sT (sH hbox htok ?_);simp [packA]
 ·rw [e1,if_pos rfl] at hR;obtain ⟨fc,_⟩:=fewC_fit e1;have hn:=fc.g.n;have he:=fc.g.e;have h2:=shpS_c c fc;have hw:IntKind.i64.wrap ((c.g.nodes.length:Int)+(c.g.edges.length:Int))=((c.g.nodes.length+c.g.edges.length:Nat):Int):=by rw [wrap_in (by omega) (by omega)]; omega
  generalize shpE c=E at *;by_cases c2:6<c.g.nodes.length+c.g.edges.length
  ·rw [if_pos c2] at hR;have c3:(6:Int)<(c.g.nodes.length:Int)+(c.g.edges.length:Int):=by omega
   try (simp [hw,c2,c3])
   repeat (first|(refine sR ?_; simp [hw,c2,c3])|(refine sC ?_; simp [hw,c2,c3])|(refine sX ?_; simp only [AU, ↓reduceIte]))
   refine Stop.of_d (h2 _ _) ?_;simp;subst hR;by_cases e:E=0
   ·have b:(E==0)=true:=by simp [e]
    try (simp [b,e])
    repeat (first|(refine sR ?_; simp [b,e])|(refine sC ?_; simp [b,e])|(refine sX ?_; simp only [AU, ↓reduceIte]))
    refine sT (sH hbox htok ?_);simp [packA,b,e]
   ·have b:(E==0)=false:=by simp [e]
    try (simp [b,e])
    repeat (first|(refine sR ?_; simp [b,e])|(refine sC ?_; simp [b,e])|(refine sX ?_; simp only [AU, ↓reduceIte]))
    refine sT (sH hbox htok ?_);simp [packA,b,e]
  ·rw [if_neg c2] at hR;have c3:¬ (6:Int)<(c.g.nodes.length:Int)+(c.g.edges.length:Int):=by omega
   subst hR;try (simp [hw,c2,c3])
   repeat (first|(refine sR ?_; simp [hw,c2,c3])|(refine sC ?_; simp [hw,c2,c3])|(refine sX ?_; simp only [AU, ↓reduceIte]))
   refine sT (sH hbox htok ?_);simp [packA]
set_option maxRecDepth 100000 in
theorem fewQ_c (q:Qf) (hq:q.Big) (tok:Tks) (nt:Nat):DCall Tryz.prog 27 [q.av] tok nt (B (fewQ q)) tok nt:=by
 intro box nb;have h1:=few50_c q.f hq.f;have hn:=hq.n;rw [bigN_eq] at hn;obtain ⟨R,hR⟩:∃ R,fewQ q=R:=⟨_,rfl⟩
 rw [hR];unfold fewQ at hR;refine sI Tryz.func27 Tryz.ntmps27 fun hbox htok=>?_
 by_cases c1:25<q.l.length
 ·rw [if_pos c1] at hR;have c2:(25:Int)<(q.l.length:Int):=by omega
  subst hR;try (simp [c2])
  repeat (first|(refine sR ?_; simp [c2])|(refine sC ?_; simp [c2])|(refine sX ?_; simp only [AU, ↓reduceIte]))
  refine sT (sH hbox htok ?_);simp [packA]
 ·rw [if_neg c1] at hR;have c2:¬ (25:Int)<(q.l.length:Int):=by omega
  try (simp [c2])
  repeat (first|(refine sR ?_; simp [c2])|(refine sC ?_; simp [c2])|(refine sX ?_; simp only [AU, ↓reduceIte]))
  refine Stop.of_d (h1 _ _) ?_;simp;cases e:q.f.few
  ·rw [e] at hR;simp only [Bool.false_eq_true, ↓reduceIte] at hR;subst hR;try (simp)
   repeat (first|(refine sR ?_; simp)|(refine sC ?_; simp)|(refine sX ?_; simp only [AU, ↓reduceIte]))
   refine sT (sH hbox htok ?_);simp [packA]
  ·rw [e,if_pos rfl] at hR;try (simp)
   repeat (first|(refine sR ?_; simp)|(refine sC ?_; simp)|(refine sX ?_; simp only [AU, ↓reduceIte]))
   refine Stop.of_a (containsFuncCo_c q.l 82 [] fewL1 (by omega) _ _ _ _ (by simp) (fun x hx box' nb' _=>few1_c x (hq.l x hx) tok nt box' nb')) ?_;rintro v m' ⟨rfl,rfl⟩;generalize anyB fewL1 q.l=y at *;subst hR;try (simp)
   repeat (first|(refine sR ?_; simp)|(refine sC ?_; simp)|(refine sX ?_; simp only [AU, ↓reduceIte]))
   refine sT (sH hbox htok ?_);simp [packA]
theorem fewQ_spec {q:Qf} (h:fewQ q=true):q.l.length≤25∧q.f.few=true∧∀ c∈q.l,fewC c=true:=by
 unfold fewQ at h;split at h
 ·cases h
 ·rename_i h1;split at h
  ·rename_i h2;refine ⟨by omega,h2,fun c hc=>?_⟩;have h3:anyB fewL1 q.l=false:=by simpa using h
   unfold anyB at h3;have h4:=List.any_eq_false.1 h3 c hc;unfold fewL1 at h4;cases e:fewC c with
   | true=>rfl
   | false=>rw [e] at h4; simp at h4
  ·cases h
set_option maxRecDepth 100000 in
theorem lawTValid_c (q:Qf) (hq:q.Big) (tok:Tks) (nt:Nat):DCall Tryz.prog 6 [q.av] tok nt (B true) tok nt:=by
 intro box nb;have hw:=awake50_c;have h1:=fewQ_c q hq;refine sI Tryz.func6 Tryz.ntmps6 fun hbox htok=>?_
 repeat (first|simp|refine sR ?_)
 refine Stop.of_d (hw _ _) ?_;repeat (first|simp|refine sR ?_)
 refine Stop.of_d (h1 _ _) ?_;simp;cases e1:fewQ q
 ·try (simp)
  repeat (first|(refine sR ?_; simp)|(refine sC ?_; simp)|(refine sX ?_; simp only [AU, ↓reduceIte]))
  refine Stop.of_d (hw _ _) ?_;simp;try (simp)
  repeat (first|(refine sR ?_; simp)|(refine sC ?_; simp)|(refine sX ?_; simp only [AU, ↓reduceIte]))
  refine sT (sH hbox htok ?_);simp [packA]
 ·obtain ⟨s1,s2,s3⟩:=fewQ_spec e1;have s4:=few_size s2;have hco:Cos q.l:=⟨by omega,fun c hc=>(fewC_fit (s3 c hc)).1⟩
  have h2:=cloneCo_c q.l (by omega);have h3:=validT_c q.f q.l (by omega) hq.f hco;have h4:=valid50_c q.f q.l (by omega) hq.f hco;generalize validF q.f q.l=V at *;try (simp)
  repeat (first|(refine sR ?_; simp)|(refine sC ?_; simp)|(refine sX ?_; simp only [AU, ↓reduceIte]))
  refine Stop.of_d (h2 _ _) ?_;simp;refine Stop.data ?_;refine Stop.of_d (h3 _ _) ?_;simp;refine Stop.of_d (h4 _ _) ?_;simp;try (simp)
  repeat (first|(refine sR ?_; simp)|(refine sC ?_; simp)|(refine sX ?_; simp only [AU, ↓reduceIte]))
  refine sT ?_;try simp only [AU]
  refine ⟨by simp,sF hbox htok (fun t ht=>by have:=htok t ht; rw [upd_other _ _ (by omega)]; exact ht) (by omega) ?_⟩;simp [packA]
end Go.AM
namespace Go.Proofs.YtainalmfffjnjaaGreatDoor
open Go Go.AM Go.ChangeShapes
theorem str_of {P:Program} {T:TypeId} (hT:P.underlying T=some .string) {w:World} {base fuel:Nat} {sp:Nat→Bool} {held:Bool} {H:Type} {enc:TypeId × Value→H} {v:Value} {bs:List UInt8} {q:List MemPlace} (h:DataW.trod enc P w base sp held fuel T [v]=some (.lit (.string bs),q)):v=.string ⟨bs.toArray⟩:=by
 cases fuel with
 | zero=>simp [DataW.trod] at h
 | succ n =>
  unfold DataW.trod at h;rw [hT] at h;cases v <;> simp at h
  rw [←h.2.1]
theorem words_ds:(Rows.laid_scarfjoint_temporal_words:DataW Unit)=.slice (wordsL.map fun s=>.lit (.string s.data.toList)) []:=by
 unfold Rows.laid_scarfjoint_temporal_words wordsL;rfl
theorem words_glob {W:World} (h:laidMetH Tryz.prog [("scarfjoint/temporal.words",Rows.laid_scarfjoint_temporal_words)] W):GlobOk G0 W:=by
 obtain ⟨ps,⟨g,t,cs,fuel,p,q,hg,ht,hv,htr,hq,hps⟩,hnd,hcell⟩:=(show laidMet Tryz.prog [("scarfjoint/temporal.words",Rows.laid_scarfjoint_temporal_words)] W from h);obtain rfl:1=g:=Option.some.inj ((show Tryz.prog.globalNamed "scarfjoint/temporal.words" = some 1 by kernel_rfl).symm.trans hg);obtain rfl:130=t:=Option.some.inj ((show (Tryz.prog.globals[1]?).map (·.type)=some 130 by kernel_rfl).symm.trans ht);rw [words_ds] at htr;obtain ⟨a,cap,hcs,hcap,hel⟩:=open_row Tryz.underlying130 (by kernel_rfl) htr;have hmax:cap≤maxLen:=by
  rcases DataW.trod_slice Tryz.underlying130 htr with ⟨_,hx⟩|⟨a',len,cap',elems,rest,n,_,hcs',hx,_,_,hm,_,_,_,_⟩
  ·simp at hx
  ·rw [hcs] at hcs';simp only [List.cons.injEq,Value.slice.injEq,and_true] at hcs';omega
 have hc0:W.cell? ⟨1,0,none⟩=some (.slice (some a) 10 cap):=by
  rw [var?_cell hg hv 0,←Array.getElem?_toList,hcs];rfl
 have hc1:∀ i (hi:i<wordsL.length),W.cell? (a.add i)=some (.string wordsL[i]):=fun i hi=>by
  obtain ⟨v,n,q,h1,h2⟩:=hel i _ (by rw [List.getElem?_map,List.getElem?_eq_getElem hi]; rfl);rw [h1,str_of Tryz.underlying9 h2]
 intro g cs' hgd;unfold globD at hgd;split at hgd
 ·rename_i e;subst e;cases hgd;refine ⟨fun _=>.slice (some a) 10 cap,fun j hj=>⟨G0_ps _,?_⟩,fun j hj=>?_⟩
  ·have:j=0:=by simp at hj; omega
   subst this;exact hc0
  ·have:j=0:=by simp at hj; omega
   subst this;refine RVd.sl (es:=wordsL.map fun s=>[.raw (.string s)]) (fun i _=>.string (wordsL.getD i ⟨#[]⟩)) hcap hmax ?_ (fun _=>⟨a,rfl⟩) ?_ ?_
   ·intro e he;obtain ⟨s,_,rfl⟩:=List.mem_map.1 he;rfl
   ·intro b hb i j hi hj;cases hb;have:j=0:=by omega
    subst this;have hi2:i<wordsL.length:=by simpa using hi
    refine ⟨G0_ps _,?_⟩;rw [Nat.mul_one,Nat.add_zero,hc1 i hi2];simp [hi2]
   ·intro i j hi hj;have hi2:i<wordsL.length:=by simpa using hi
    have:j=0:=by simp at hj; omega
    subst this;simp only [List.getElem_map,List.getElem_cons_zero];rw [show wordsL.getD i ⟨#[]⟩=wordsL[i] by simp [hi2]];exact .raw rfl
 ·cases hgd
end Go.Proofs.YtainalmfffjnjaaGreatDoor
