/-
 Parts of the proof, as merged from many texts: a machine over data, what the functions compute, plain laws.
-/
import Derived.Test.YtchfmhhbiealcaaGreatDoorPIA10
set_option linter.unusedSimpArgs false
set_option linter.unusedVariables false
namespace Go.AM
open Go Go.Proofs Go.ChangeShapes
open Go.Proofs.Tryz
def tN(s:ByteArray):Bool:=decide (s.size<=40)
def qY(a:At):Bool:=if 40<a.name.size then false else if 25<a.names.length then false else cI tN a.names
def dO(t:Ty):Nat->Nat
 | 0=>0
 | i+1=>dO t i+(t.nd i).own.length
def mC(t:Ty)(i:Nat):Int:=if 30<dO t (i+1) then 1 else if 40<(t.nd i).name.size then 1 else if cI qY (t.nd i).own=true then 0 else 1
def vA(e:ET):Bool:=decide (e.name.size<=40)
def aDy(t:Ty):Bool:=if 20<t.nodes.length then false else if 30<t.edges.length then false else if aA (mC t) t.nodes.length≠0 then false else cI vA t.edges
structure At.Big (a:At):Prop where
 n:a.name.size<=maxLen
 l:a.names.length<=dN
 s:∀x∈a.names,x.size<=maxLen
structure NT.Big (x:NT):Prop where
 n:x.name.size<=maxLen
 l:x.own.length<=dN
 a:∀y∈x.own,y.Big
structure Ty.Big (t:Ty):Prop where
 n:t.nodes.length<=dN
 e:t.edges.length<=dN
 nn:∀x∈t.nodes,x.Big
 en:∀x∈t.edges,x.name.size<=maxLen
theorem xR{α:Type}{p:α->Bool}{l:List α}:cI p l=true↔∀x∈l,p x=true:=by simp[cI]
theorem aFU{a:At}(h:qY a=true):a.Fit:=by
 unfold qY at h;split at h
 .cases h
 .split at h
  .cases h
  .rw[xR] at h;exact⟨by omega,⟨by omega,fun x hx=>by have:=h x hx;simp only[tN,decide_eq_true_eq] at this;omega⟩⟩
theorem vS{t:Ty}{i:Nat}(h:mC t i=0):dO t (i+1)<=30/\(t.nd i).name.size<=40/\∀x∈(t.nd i).own,x.Fit:=by
 unfold mC at h;split at h
 .cases h
 .split at h
  .cases h
  .split at h
   .rename_i h1 h2 h3;rw[xR] at h3;exact⟨by omega,by omega,fun x hx=>aFU (h3 x hx)⟩
   .cases h
theorem aG7{t:Ty}(h:aDy t=true):t.Fit:=by
 unfold aDy at h;split at h
 .cases h
 .split at h
  .cases h
  .split at h
   .cases h
   .rename_i h1 h2 h3;have hz:=dU _ (Decidable.not_not.1 h3);rw[xR] at h;have key:∀x∈t.nodes,∃i,i<t.nodes.length/\t.nd i=x:=fun x hx=>by
     obtain⟨i,hi,he⟩:=List.mem_iff_getElem.1 hx;exact⟨i,hi,by rw[iE hi,he]⟩
    refine⟨by omega,by omega,fun x hx=>?_,fun x hx=>?_,fun x hx=>?_⟩
    .obtain⟨i,hi,he⟩:=key x hx;have:=(vS (hz i hi)).2.1
     rw[he] at this;omega
    .have:=h x hx
     simp only[vA,decide_eq_true_eq] at this;omega
    .obtain⟨i,hi,he⟩:=key x hx;have h4:=vS (hz i hi);rw[he] at h4;refine⟨?_,h4.2.2⟩;have:=h4.1
     simp only[dO,he] at this;omega
theorem aIe{t:Ty}{i:Nat}(h:i<t.nodes.length):mC t i=if 30<dO t i+t.nodes[i].own.length then 1 else if 40<t.nodes[i].name.size then 1 else if cI qY t.nodes[i].own=true then 0 else 1:=by rw[mC,dO,iE h]
abbrev fwB(t:Ty):Nat × List (List AV):=(1,[[.d (nts t.nodes),.d (ets t.edges)]])
def aLU(t:Ty)(nb:Nat)(box:Bxs)(tok:Tks)(nt:Nat)(i:Nat):AS:=⟨tl [(4,I i),(3,I (dO t i)),(1,.ptr (nb+1) 0 0)],lb nb box [fwB t],tok,nt⟩
def aLO(t:Ty)(i n:Nat)(nb:Nat)(box:Bxs)(tok:Tks)(nt:Nat)(k:Nat):AS:=⟨tl [(5,I k),(4,I i),(3,I n),(1,.ptr (nb+1) 0 0)],lb nb box [fwB t],tok,nt⟩
def aLh(t:Ty)(i n k:Nat)(a:At)(nb:Nat)(box:Bxs)(tok:Tks)(nt:Nat)(j:Nat):AS:=⟨tl [(7,I j),(6,.ptr (nb+6) 0 0),(5,I k),(4,I i),(3,I n),(1,.ptr (nb+1) 0 0)],lb nb box [(6,[a.row]),fwB t],tok,nt⟩
def aMd(t:Ty)(nb:Nat)(box:Bxs)(tok:Tks)(nt:Nat)(i:Nat):AS:=⟨tl [(8,I i),(1,.ptr (nb+1) 0 0)],lb nb box [fwB t],tok,nt⟩
theorem aKY(t:Ty)(hb:t.Big):DC 61 [t.av] (B (aDy t)):=by
 intro tok nt box nb;have hbn:=hb.n;have hbe:=hb.e;rw[bM] at hbn hbe;obtain⟨N,hN⟩:∃N,aDy t=N:=⟨_,rfl⟩
 rw[hN];unfold aDy at hN;by_cases e1:20<t.nodes.length
 .have e1':(20:Int)<t.nodes.length:=by omega
  rw[if_pos e1] at hN;refine sI func61 ntmps61 fun Hb Ht=>?_
  repeat first|simp[e1,e1']|refine sR ?_|refine sC ?_
  refine sT (sH Hb Ht ?_);simp[<-hN]
 .have e1':¬(20:Int)<t.nodes.length:=by omega
  rw[if_neg e1] at hN;by_cases e2:30<t.edges.length
  .have e2':(30:Int)<t.edges.length:=by omega
   rw[if_pos e2] at hN;refine sI func61 ntmps61 fun Hb Ht=>?_
   repeat first|simp[e1,e1',e2,e2']|refine sR ?_|refine sC ?_
   refine sT (sH Hb Ht ?_);simp[<-hN]
  .have e2':¬(30:Int)<t.edges.length:=by omega
   rw[if_neg e2] at hN;refine sI func61 ntmps61 fun Hb Ht=>?_
   repeat first|simp[e1,e1',e2,e2']|refine sR ?_|refine sC ?_
   refine sN ?_;refine sL (aLU t nb box tok nt) (fun i=>i<=t.nodes.length/\dO t i<=30/\aA (mC t) i=0) (fun i=>t.nodes.length-i) 0 ⟨Nat.zero_le _,Nat.zero_le _,rfl⟩ (wM (nr0 _) rfl (by simp[ToL,lk,aQ,dO]) (by simp[aC,lk])) ?_;rintro i S' ⟨hi,hsum,hok⟩ hS;simp only[aLU] at hS;subst hS;have hw:=sW (i:=i) (by omega);repeat first|simp|refine sR ?_|refine sC ?_
   refine⟨fun hlt=>?_,fun hge=>?_⟩
   .have hR:mC t i≠0->aA (mC t) t.nodes.length=mC t i:=fun h0=>aL hok h0 _ hlt
    have hnx:mC t i=0->aA (mC t) (i+1)=0:=fun h0=>by simp only[aA,hok,h0,↓reduceIte]
    have hd:=aIe hlt;have hsn:dO t (i+1)=dO t i+t.nodes[i].own.length:=by rw[dO,iE hlt]
    have hnb:=hb.nn _ (List.getElem_mem hlt);have hol:=hnb.l;rw[bM] at hol;have hws:IntKind.i64.wrap ((dO t i:Nat)+(t.nodes[i].own.length:Nat):Int)=((dO t i+t.nodes[i].own.length:Nat):Int):=by rw[aM (by omega) (by omega)];rfl
    by_cases c1:30<dO t i+t.nodes[i].own.length
    .have c1':(30:Int)<(dO t i:Int)+(t.nodes[i].own.length:Int):=by omega
     rw[if_pos c1] at hd;rw[if_pos (by rw[hR (by rw[hd];decide),hd];decide)] at hN;repeat first|simp[hlt,hws,c1,c1']|refine sR ?_
     refine sC ?_;simp[c1,c1'];repeat first|simp|refine sR ?_
     refine sT (sH Hb Ht ?_);simp[<-hN]
    .have c1':¬(30:Int)<((dO t i+t.nodes[i].own.length:Nat):Int):=by omega
     rw[if_neg c1] at hd;by_cases c2:40<t.nodes[i].name.size
     .have c2':(40:Int)<t.nodes[i].name.size:=by omega
      rw[if_pos c2] at hd;rw[if_pos (by rw[hR (by rw[hd];decide),hd];decide)] at hN;have c1':¬(30:Int)<(dO t i:Int)+(t.nodes[i].own.length:Int):=by omega
      repeat first|simp[hlt,hws,c1,c1',c2,c2']|refine sR ?_
      refine sC ?_;simp[c1,c1',c2,c2'];repeat first|simp|refine sR ?_
      refine sT (sH Hb Ht ?_);simp[<-hN]
     .have c2':¬(40:Int)<t.nodes[i].name.size:=by omega
      rw[if_neg c2] at hd;obtain⟨n,hn⟩:∃n:Nat,dO t i+t.nodes[i].own.length=n:=⟨_,rfl⟩
      rw[hn] at hws c1' c1 hsn;repeat first|simp[hlt,hws,c1,c1',c2,c2']|refine sR ?_
      refine sC ?_;simp[c1,c1',c2,c2'];repeat first|simp|refine sR ?_
      refine sN ?_;refine sL (aLO t i n nb box tok nt) (fun k=>k<=t.nodes[i].own.length/\cI qY (t.nodes[i].own.take k)=true) (fun k=>t.nodes[i].own.length-k) 0 ⟨Nat.zero_le _,rfl⟩ wkA ?_;rintro k S' ⟨hk,hall⟩ hS;simp only[aLO] at hS;subst hS;have hwk:=sW (i:=k) (by omega);repeat first|simp[hlt]|refine sR ?_|refine sC ?_
      refine⟨fun hlk=>?_,fun hgek=>?_⟩
      .have hno:=fun h=>fP (p:=qY) hlk h
       have hyes:=fun h=>cY (p:=qY) hlk hall h
       have hba:=hnb.a _ (List.getElem_mem hlk);have hbl:=hba.l;rw[bM] at hbl;have hda:qY t.nodes[i].own[k]=if 40<t.nodes[i].own[k].name.size then false else if 25<t.nodes[i].own[k].names.length then false else cI tN t.nodes[i].own[k].names:=rfl
       have hbad:qY t.nodes[i].own[k]=false->N=false:=fun h=>by
        rw[hno h,if_neg (by simp)] at hd;rw[if_pos (by rw[hR (by rw[hd];decide),hd];decide)] at hN;exact hN.symm
       by_cases c3:40<t.nodes[i].own[k].name.size
       .have c3':(40:Int)<t.nodes[i].own[k].name.size:=by omega
        rw[if_pos c3] at hda;repeat first|simp[hlt,hlk,c3,c3']|refine sR ?_
        refine sC ?_;simp[c3,c3'];repeat first|simp|refine sR ?_
        refine sT (sH Hb Ht ?_);simp[hbad hda]
       .have c3':¬(40:Int)<t.nodes[i].own[k].name.size:=by omega
        rw[if_neg c3] at hda;by_cases c4:25<t.nodes[i].own[k].names.length
        .have c4':(25:Int)<t.nodes[i].own[k].names.length:=by omega
         rw[if_pos c4] at hda;repeat first|simp[hlt,hlk,c3,c3',c4,c4']|refine sR ?_
         refine sC ?_;simp[c3,c3',c4,c4'];repeat first|simp|refine sR ?_
         refine sT (sH Hb Ht ?_);simp[hbad hda]
        .have c4':¬(25:Int)<t.nodes[i].own[k].names.length:=by omega
         rw[if_neg c4] at hda;repeat first|simp[hlt,hlk,c3,c3',c4,c4']|refine sR ?_
         refine sC ?_;simp[c3,c3',c4,c4'];repeat first|simp|refine sR ?_
         refine sN ?_;refine sL (aLh t i n k t.nodes[i].own[k] nb box tok nt) (fun j=>j<=t.nodes[i].own[k].names.length/\cI tN (t.nodes[i].own[k].names.take j)=true) (fun j=>t.nodes[i].own[k].names.length-j) 0 ⟨Nat.zero_le _,rfl⟩ wkA ?_;rintro j S' ⟨hj,hnall⟩ hS;simp only[aLh] at hS;subst hS;have hwj:=sW (i:=j) (by omega);repeat first|simp|refine sR ?_|refine sC ?_
         refine⟨fun hlj=>?_,fun hgej=>?_⟩
         .have hnon:=fun h=>fP (p:=tN) hlj h
          have hyesn:=fun h=>cY (p:=tN) hlj hnall h
          by_cases c5:40<t.nodes[i].own[k].names[j].size
          .have c5':(40:Int)<t.nodes[i].own[k].names[j].size:=by omega
           rw[hnon (by simp only[tN,decide_eq_false_iff_not];omega)] at hda;repeat first|simp[hlj,c5,c5']|refine sR ?_
           refine sC ?_;simp[c5,c5'];repeat first|simp|refine sR ?_
           refine sT (sH Hb Ht ?_);simp[hbad hda]
          .have c5':¬(40:Int)<t.nodes[i].own[k].names[j].size:=by omega
           repeat first|simp[hlj,c5,c5']|refine sR ?_
           refine sC ?_;simp[c5,c5'];repeat first|simp[hwj]|refine sR ?_
           refine sE ?_;exact⟨j+1,⟨hlj,hyesn (by simp only[tN,decide_eq_true_eq];omega)⟩,by omega,wkA⟩
         .refine sX ?_;simp only[AU,↓reduceIte];have:j=t.nodes[i].own[k].names.length:=by omega
          subst this;rw[List.take_length] at hnall;rw[hnall] at hda;repeat first|simp[hwk]|refine sR ?_
          refine sE ?_;exact⟨k+1,⟨hlk,hyes hda⟩,by omega,wkA⟩
      .refine sX ?_;simp only[AU,↓reduceIte];have:k=t.nodes[i].own.length:=by omega
       subst this;rw[List.take_length] at hall;rw[if_pos hall] at hd;repeat first|simp[hw]|refine sR ?_
       refine sE ?_;exact⟨i+1,⟨hlt,by omega,hnx hd⟩,by omega,wM (nr0 _) rfl (by simp[ToL,lk,aQ,hsn]) (by simp[aC,lk])⟩
   .refine sX ?_;simp only[AU,↓reduceIte];have:i=t.nodes.length:=by omega
    subst this;rw[if_neg (by simp[hok])] at hN;repeat first|simp|refine sR ?_
    refine sN ?_;refine sL (aMd t nb box tok nt) (fun i=>i<=t.edges.length/\cI vA (t.edges.take i)=true) (fun i=>t.edges.length-i) 0 ⟨Nat.zero_le _,rfl⟩ wkA ?_;rintro i S' ⟨hi,hall⟩ hS;simp only[aMd] at hS;subst hS;have hw:=sW (i:=i) (by omega);repeat first|simp|refine sR ?_|refine sC ?_
    refine⟨fun hlt=>?_,fun hge=>?_⟩
    .have hno:=fun h=>fP (p:=vA) hlt h
     have hyes:=fun h=>cY (p:=vA) hlt hall h
     by_cases c5:40<t.edges[i].name.size
     .have c5':(40:Int)<t.edges[i].name.size:=by omega
      rw[hno (by simp only[vA,decide_eq_false_iff_not];omega)] at hN;repeat first|simp[hlt,c5,c5']|refine sR ?_
      refine sC ?_;simp[c5,c5'];repeat first|simp|refine sR ?_
      refine sT (sH Hb Ht ?_);simp[<-hN]
     .have c5':¬(40:Int)<t.edges[i].name.size:=by omega
      repeat first|simp[hlt,c5,c5']|refine sR ?_
      refine sC ?_;simp[c5,c5'];repeat first|simp[hw]|refine sR ?_
      refine sE ?_;exact⟨i+1,⟨hlt,hyes (by simp only[vA,decide_eq_true_eq];omega)⟩,by omega,wkA⟩
    .refine sX ?_;simp only[AU,↓reduceIte];have:i=t.edges.length:=by omega
     subst this;rw[List.take_length] at hall;rw[hall] at hN;repeat first|simp|refine sR ?_
     refine sT (sH Hb Ht ?_);simp[<-hN]
def wV:Rdr prog 155 (List ByteArray):=eK.sliceN 1 underlying155 (by kernel_rfl) (by kernel_rfl)
abbrev AtT:=ByteArray × Int × Int × List ByteArray
theorem aMo(n:Nat):RdF prog 157 (fun x:AtT=>eK.enc x.1++(bJ.enc x.2.1++(bJ.enc x.2.2.1++wV.enc x.2.2.2))) (fun x=>eK.ok x.1/\bJ.ok x.2.1/\bJ.ok x.2.2.1/\wV.ok x.2.2.2) n:=by
 cases n with
 | zero=>exact .zero
 | succ n=>exact RdF.struct4 (eK.f n) (bJ.f n) (bJ.f n) (wV.f n) underlying157 rfl rfl rfl rfl rfl (by kernel_rfl) (by kernel_rfl) (by kernel_rfl) (by kernel_rfl)
def aOW:Rdr prog 157 AtT:=Rdr.ofF _ _ (fun x=>by simp[eK.len,bJ.len,wV.len];kernel_rfl) aMo
theorem aFT:prog.bytesOf 9=16:=by kernel_rfl
theorem aKK:prog.bytesOf 157=56:=by kernel_rfl
theorem aJZ:prog.bytesOf 160=56:=by kernel_rfl
theorem aIV:prog.bytesOf 162=64:=by kernel_rfl
theorem aAi{l:List ByteArray}(h:wV.ok l):l.length<=dN/\∀x∈l,x.size<=maxLen:=by
 have h2:l.length*prog.bytesOf 9<=reachBytes:=h.2
 rw[aFT] at h2;have:reachBytes=140737488351232:=rfl
 exact⟨by rw[bM];omega,fun x hx=>h.1 x hx⟩
def aQM:Rdr prog 157 At:=aOW.map (fun x=>⟨x.1,x.2.1,x.2.2.1,x.2.2.2⟩) At.cells At.Big (fun _=>rfl) (fun x h=>⟨h.1,(aAi h.2.2.2).1,(aAi h.2.2.2).2⟩) (fun _=>by kernel_rfl)
def aCU:Rdr prog 158 (List At):=aQM.sliceN 4 underlying158 (by kernel_rfl) (by kernel_rfl)
abbrev NtT:=ByteArray × Int × Bool × List At
theorem aMt(n:Nat):RdF prog 160 (fun x:NtT=>eK.enc x.1++(bJ.enc x.2.1++(mM.enc x.2.2.1++aCU.enc x.2.2.2))) (fun x=>eK.ok x.1/\bJ.ok x.2.1/\mM.ok x.2.2.1/\aCU.ok x.2.2.2) n:=by
 cases n with
 | zero=>exact .zero
 | succ n=>exact RdF.struct4 (eK.f n) (bJ.f n) (mM.f n) (aCU.f n) underlying160 rfl rfl rfl rfl rfl (by kernel_rfl) (by kernel_rfl) (by kernel_rfl) (by kernel_rfl)
def aOj:Rdr prog 160 NtT:=Rdr.ofF _ _ (fun x=>by simp[eK.len,bJ.len,mM.len,aCU.len];kernel_rfl) aMt
theorem aDi{l:List At}(h:aCU.ok l):l.length<=dN/\∀x∈l,x.Big:=by
 have h2:l.length*prog.bytesOf 157<=reachBytes:=h.2
 rw[aKK] at h2;have:reachBytes=140737488351232:=rfl
 exact⟨by rw[bM];omega,fun x hx=>h.1 x hx⟩
def aRF:Rdr prog 160 NT:=aOj.map (fun x=>⟨x.1,x.2.1,x.2.2.1,x.2.2.2⟩) NT.cells NT.Big (fun _=>rfl) (fun x h=>⟨h.1,(aDi h.2.2.2).1,(aDi h.2.2.2).2⟩) (fun _=>by kernel_rfl)
def aL1:Rdr prog 22 (List NT):=aRF.sliceN 4 underlying22 (by kernel_rfl) (by kernel_rfl)
abbrev EtT:=ByteArray × Int × Int × Int × Int × Int × Int
theorem aMJ(n:Nat):RdF prog 162 (fun x:EtT=>eK.enc x.1++(bJ.enc x.2.1++(bJ.enc x.2.2.1++(bJ.enc x.2.2.2.1++(bJ.enc x.2.2.2.2.1++(bJ.enc x.2.2.2.2.2.1++bJ.enc x.2.2.2.2.2.2)))))) (fun x=>eK.ok x.1/\bJ.ok x.2.1/\bJ.ok x.2.2.1/\bJ.ok x.2.2.2.1/\bJ.ok x.2.2.2.2.1/\bJ.ok x.2.2.2.2.2.1/\bJ.ok x.2.2.2.2.2.2) n:=by
 cases n with
 | zero=>exact .zero
 | succ n=>exact RdF.struct7 (eK.f n) (bJ.f n) (bJ.f n) (bJ.f n) (bJ.f n) (bJ.f n) (bJ.f n) underlying162 rfl rfl rfl rfl rfl rfl rfl rfl (by kernel_rfl) (by kernel_rfl) (by kernel_rfl) (by kernel_rfl) (by kernel_rfl) (by kernel_rfl) (by kernel_rfl)
def aP4:Rdr prog 162 EtT:=Rdr.ofF _ _ (fun x=>by simp[eK.len,bJ.len];kernel_rfl) aMJ
def aQ5:Rdr prog 162 ET:=aP4.map (fun x=>⟨x.1,x.2.1,x.2.2.1,x.2.2.2.1,x.2.2.2.2.1,x.2.2.2.2.2.1,x.2.2.2.2.2.2⟩) ET.cells (fun e=>e.name.size<=maxLen) (fun _=>rfl) (fun x h=>h.1) (fun _=>by kernel_rfl)
def aMc:Rdr prog 23 (List ET):=aQ5.sliceN 7 underlying23 (by kernel_rfl) (by kernel_rfl)
def aN7:Rdr prog 25 (List NT × List ET):=Rdr.struct2 aL1 aMc underlying25 rfl rfl rfl (by kernel_rfl) (by kernel_rfl)
theorem aLc{l:List NT}{m:List ET}(h:aL1.ok l)(k:aMc.ok m):(Ty.mk l m).Big:=by
 have h2:l.length*prog.bytesOf 160<=reachBytes:=h.2
 have k2:m.length*prog.bytesOf 162<=reachBytes:=k.2
 rw[aJZ] at h2;rw[aIV] at k2;have:reachBytes=140737488351232:=rfl
 exact⟨by rw[bM];simp only;omega,by rw[bM];simp only;omega,fun x hx=>h.1 x hx,fun x hx=>k.1 x hx⟩
def aRW:Rdr prog 25 Ty:=aN7.map (fun x=>⟨x.1,x.2⟩) (fun x=>[nts x.nodes,ets x.edges]) Ty.Big (fun _=>rfl) (fun x h=>aLc h.1 h.2) (fun _=>by kernel_rfl)
structure Xt where
 m:Mo
 g:Gr
structure Co where
 name:ByteArray
 kind:Int
 g:Gr
 exts:List Xt
abbrev Xt.cells(x:Xt):List D:=[ints x.m.nodes,ints x.m.edges,ints x.g.nodes,AM.edges x.g.edges]
abbrev xts(l:List Xt):D:=.sl 4 (l.map Xt.cells)
abbrev Xt.av(x:Xt):AV:=.agg [.d (ints x.m.nodes),.d (ints x.m.edges),.d (ints x.g.nodes),.d (AM.edges x.g.edges)]
abbrev Co.row(c:Co):List AV:=[Sb c.name,I c.kind,.d (ints c.g.nodes),.d (AM.edges c.g.edges),.d (xts c.exts)]
abbrev Co.av(c:Co):AV:=.agg c.row
structure Xt.Fit (x:Xt):Prop where
 m:x.m.Fit
 g:x.g.Fit
structure Co.Fit (c:Co):Prop where
 name:c.name.size<=200000000000000
 g:c.g.Fit
 n:c.exts.length<=1000000
 exts:∀x∈c.exts,x.Fit
def oM(g:Gr):Bool:=if 6<g.nodes.length then true else decide (8<g.edges.length)
def xtE(p:Gr)(x:Xt):Int:=if aG p x.g x.m≠0 then aG p x.g x.m else if oM x.g=true then 3 else if fV p x.g x.m=true then 0 else 1
def dW(c:Co)(i:Nat):Int:=match c.exts[i]? with|some x=>xtE c.g x|none=>0
theorem pY{c:Co}{i:Nat}(h:i<c.exts.length):dW c i=xtE c.g c.exts[i]:=by simp[dW,h]
def kdE(c:Co):Int :=
 if c.kind=1 then if c.exts=[] then 0 else 1 else if c.kind=2 then if c.exts=[] then 7 else if 6<c.exts.length then 3 else 0 else 1
def lA(c:Co):Int :=
 if cM c.name=false then 2 else if kdE c≠0 then kdE c else if vG c.g≠0 then vG c.g else if oM c.g=true then 3 else aA (dW c) c.exts.length
def lvX(t:Ty)(c:Co):Bool:=if dB t c.g=true then cI (fun x:Xt=>dB t x.g) c.exts else false
def cnE(t:Ty)(c:Co):Int:=if tyE t≠0 then tyE t else if lA c≠0 then lA c else if lvX t c=true then 0 else 13
theorem rR{c:Co}(h:lA c=0):cM c.name=true/\kdE c=0/\vG c.g=0/\oM c.g=false/\∀x∈c.exts,aG c.g x.g x.m=0/\oM x.g=false/\fV c.g x.g x.m=true:=by
 unfold lA at h;split at h
 .cases h
 rename_i h1;split at h
 .rename_i h2;exact absurd h h2
 rename_i h2;split at h
 .rename_i h3;exact absurd h h3
 rename_i h3;split at h
 .cases h
 rename_i h4;refine⟨by simpa using h1,by simpa using h2,by simpa using h3,by simpa using h4,fun x hx=>?_⟩;obtain⟨i,hi,rfl⟩:=List.getElem_of_mem hx;have h5:=dU _ h i hi;rw[pY hi] at h5;unfold xtE at h5;split at h5
 .rename_i h6;exact absurd h5 h6
 rename_i h6;split at h5
 .cases h5
 rename_i h7;split at h5
 .rename_i h8;exact⟨by simpa using h6,by simpa using h7,h8⟩
 .cases h5
structure Xt.Big (x:Xt):Prop where
 mn:x.m.nodes.length<=dN
 me:x.m.edges.length<=dN
 g:x.g.Big
structure Co.Big (c:Co):Prop where
 name:c.name.size<=maxLen
 g:c.g.Big
 n:c.exts.length<=dN
 exts:∀x∈c.exts,x.Big
theorem aP8:prog.bytesOf 182=96:=by kernel_rfl
def aOf:Rdr prog 182 ((List Int × List Int) × Gr):=Rdr.struct2 jZ fO underlying182 rfl rfl rfl (by kernel_rfl) (by kernel_rfl)
def aRb:Rdr prog 182 Xt:=aOf.map (fun x=>⟨⟨x.1.1,x.1.2⟩,x.2⟩) Xt.cells Xt.Big (fun _=>rfl) (fun x h=>⟨eD h.1.1,eD h.1.2,h.2⟩) (fun _=>by kernel_rfl)
def aB7:Rdr prog 54 (List Xt):=aRb.sliceN 4 underlying54 (by kernel_rfl) (by kernel_rfl)
theorem aDe{l:List Xt}(h:aB7.ok l):l.length<=dN/\∀x∈l,x.Big:=by
 have h2:l.length*prog.bytesOf 182<=reachBytes:=h.2
 rw[aP8] at h2;have:reachBytes=140737488351232:=rfl
 exact⟨by rw[bM];omega,h.1⟩
abbrev CoT:=ByteArray × Int × Gr × List Xt
theorem aMv(n:Nat):RdF prog 56 (fun x:CoT=>eK.enc x.1++(bJ.enc x.2.1++(fO.enc x.2.2.1++aB7.enc x.2.2.2))) (fun x=>eK.ok x.1/\bJ.ok x.2.1/\fO.ok x.2.2.1/\aB7.ok x.2.2.2) n:=by
 cases n with
 | zero=>exact .zero
 | succ n=>exact RdF.struct4 (eK.f n) (bJ.f n) (fO.f n) (aB7.f n) underlying56 rfl rfl rfl rfl rfl (by kernel_rfl) (by kernel_rfl) (by kernel_rfl) (by kernel_rfl)
def aOK:Rdr prog 56 CoT:=Rdr.ofF _ _ (fun x=>by simp[eK.len,bJ.len,fO.len,aB7.len];kernel_rfl) aMv
def Co.rowD(c:Co):List D:=[.raw (.string c.name),.raw (.int .i64 c.kind),ints c.g.nodes,AM.edges c.g.edges,xts c.exts]
def aRY:Rdr prog 56 Co:=aOK.map (fun x=>⟨x.1,x.2.1,x.2.2.1,x.2.2.2⟩) Co.rowD Co.Big (fun _=>rfl) (fun x h=>⟨h.1,h.2.2.1,(aDe h.2.2.2).1,(aDe h.2.2.2).2⟩) (fun _=>by kernel_rfl)
variable {P:Program}
section
variable (R:AV->AV->Prop)
def CvR(r r':List AV):Prop:=r.length=r'.length/\∀i (h1:i<r.length) (h2:i<r'.length),R r[i] r'[i]
def aEj(r r':List (List AV)):Prop:=r.length=r'.length/\∀i (h1:i<r.length) (h2:i<r'.length),CvR R r[i] r'[i]
def CvL:List (Nat × AV)->List (Nat × AV)->Prop
 | [],[]=>True
 | (i,x)::a,(j,y)::b=>i=j/\R x y/\CvL a b
 | _,_=>False
def CvB:List (Nat × List (List AV))->List (Nat × List (List AV))->Prop
 | [],[]=>True
 | (i,x)::a,(j,y)::b=>i=j/\aEj R x y/\CvB a b
 | _,_=>False
end
section
variable {R:AV->AV->Prop}
theorem CvL.at(h0:R .bot .bot):∀{l l':List (Nat × AV)},CvL R l l'->∀i,R (tl l i) (tl l' i)
 | [],[],_,i=>h0
 | (i,x)::a,(j,y)::b,h,q=>by
  obtain⟨rfl,h1,h2⟩:=h;rw[jK,jK];split
  .exact h1
  .exact CvL.at h0 h2 q
 | [],_::_,h,_=>h.elim
 | _::_,[],h,_=>h.elim
theorem CvB.at:∀{l l':List (Nat × List (List AV))},CvB R l l'->∀i,(lk l i=none/\lk l' i=none)∨∃r r',lk l i=some r/\lk l' i=some r'/\aEj R r r'
 | [],[],_,i=>.inl ⟨rfl,rfl⟩
 | (i,x)::a,(j,y)::b,h,q=>by
  obtain⟨rfl,h1,h2⟩:=h;rw[cB,cB];split
  .exact .inr ⟨x,y,rfl,rfl,h1⟩
  .exact CvB.at h2 q
 | [],_::_,h,_=>h.elim
 | _::_,[],h,_=>h.elim
theorem aEj.flat:∀{r r':List (List AV)},aEj R r r'->CvR R r.flatten r'.flatten
 | [],[],_=>⟨rfl,fun i h=>by simp at h⟩
 | x::a,y::b,h=>by
  have h0:=h.2 0 (by simp) (by simp);have ih:CvR R a.flatten b.flatten:=aEj.flat ⟨by simpa using h.1,fun i h1 h2=>h.2 (i+1) (by simpa using h1) (by simpa using h2)⟩
  simp only[List.getElem_cons_zero] at h0;refine⟨by simp[h0.1,ih.1],fun i h1 h2=>?_⟩;have hl:=h0.1;have hi2:=ih.1;simp only[List.flatten_cons] at h1 h2 ⊢;rw[List.length_append] at h1 h2;by_cases hi:i<x.length
  .have e1:(x++a.flatten)[i]'(by rw[List.length_append];omega)=x[i]:=List.getElem_append_left hi
   have e2:(y++b.flatten)[i]'(by rw[List.length_append];omega)=y[i]'(by omega):=List.getElem_append_left (by omega)
   rw[e1,e2];exact h0.2 i hi _
  .have e1:(x++a.flatten)[i]'(by rw[List.length_append];omega)=a.flatten[i-x.length]'(by omega):=List.getElem_append_right (by omega)
   have e2:(y++b.flatten)[i]'(by rw[List.length_append];omega)=b.flatten[i-y.length]'(by omega):=List.getElem_append_right (by omega)
   rw[e1,e2];have:=ih.2 (i-x.length) (by omega) (by omega)
   simp only[hl] at this ⊢;exact this
 | [],_::_,h=>by have:=h.1;simp at this
 | _::_,[],h=>by have:=h.1;simp at this
theorem CvR.vs{G:Gh}{w:World}(hto:∀x y v,R x y->RV G w x v->RV G w y v){xs ys:List AV}{vs:List Value}(h:CvR R xs ys)(hr:RVs G w xs vs):RVs G w ys vs :=
 ⟨h.1.symm.trans hr.1,fun i h1 h2=>hto _ _ _ (h.2 i (by rw[h.1];exact h1) h1) (hr.2 i _ h2)⟩
theorem aV.rows{G:Gh}{w:World}{base nb nt:Nat}{out:Bxs}{loc loc':List (Nat × List (List AV))}{tok:Nat->Bool}(hto:∀x y v,R x y->RV G w x v->RV G w y v)(hb:CvB R loc loc')(hm:aV G ⟨lb base out loc,nb,tok,nt⟩ w):aV G ⟨lb base out loc',nb,tok,nt⟩ w:=by
 constructor
 case box =>
  intro k rows b z hk hbx;simp only at hk;by_cases hkb:k<base
  .rw[lO hkb] at hk;exact hm.box k rows b z (by simp only;rw[lO hkb];exact hk) hbx
  .have hkk:k=base+(k-base):=by omega
   rw[hkk,aQ] at hk;rcases hb.at (k-base) with ⟨_,h2⟩|⟨r0,r',h1,h2,h3⟩
   .rw[h2] at hk;cases hk
   .rw[h2] at hk;cases hk;obtain⟨g1,cs,e,g2,g3,g4,g5⟩:=hm.box k r0 b z (by simp only;rw[hkk,aQ];exact h1) hbx;refine⟨g1,cs,e,g2,fun q hq=>?_,h3.flat.vs hto g4,g5⟩;obtain⟨i,hi,rfl⟩:=List.getElem_of_mem hq;have hi0:i<r0.length:=by rw[h3.1];exact hi
    rw[<-(h3.2 i hi0 hi).1];exact g3 _ (List.getElem_mem _)
 case nobox =>
  intro k hk;refine hm.nobox k ?_;simp only at hk ⊢;by_cases hkb:k<base
  .rw[lO hkb] at hk ⊢;exact hk
  .have hkk:k=base+(k-base):=by omega
   rw[hkk,aQ] at hk ⊢;rcases hb.at (k-base) with ⟨h1,_⟩|⟨r0,r',_,h2,_⟩
   .exact h1
   .rw[h2] at hk;cases hk
 case inj=>exact hm.inj
 case nb =>
  intro k hk;have h0:=hm.nb k hk;simp only at h0 ⊢;by_cases hkb:k<base
  .rw[lO hkb] at h0 ⊢;exact h0
  .have hkk:k=base+(k-base):=by omega
   rw[hkk,aQ] at h0 ⊢;rcases hb.at (k-base) with ⟨_,h2⟩|⟨r0,r',h1,_,_⟩
   .exact h2
   .rw[h1] at h0;cases h0
 case nt=>exact hm.nt
 case toks=>exact hm.toks
 case tokb=>exact hm.tokb
 case tinj=>exact hm.tinj
 case tnt=>exact hm.tnt
 case glob=>exact hm.glob
 case fresh=>exact hm.fresh
end
inductive uF (t sz:Nat):AV->AV->Prop
 | bot {x}:uF t sz x .bot
 | same {x}:uF t sz x x
 | nil {n}:uF t sz (.osl n [] .full) (.stk t sz [])
theorem uF.rv{G:Gh}{w:World}{t sz:Nat}(ht:t<G.nt)(hk:G.tk t=some none){x y:AV}{v:Value}(h:uF t sz x y)(hr:RV G w x v):RV G w y v:=by
 cases h with
 | bot=>exact .bot
 | same=>exact hr
 | nil =>
  cases hr with
  | osl _ ho =>
   obtain⟨A,rfl,_⟩:=ho;refine .stk ⟨ht,A,0,rfl,nr0 _,Nat.zero_le _,fun x hx=>?_⟩;rw[hk] at hx;cases hx;rfl
theorem iR.opn{cx:Cx}{nt0 nt:Nat}{l l':List (Nat × AV)}{out:Bxs}{loc loc':List (Nat × List (List AV))}{tok:Nat->Bool}(sz:Nat)(hl:CvL (uF nt sz) l l')(hb:CvB (uF nt sz) loc loc'):
  iR cx nt0 ⟨tl l,lb cx.base out loc,tok,nt⟩ ⟨tl l',lb cx.base out loc',upd tok nt true,nt+1⟩:=by
 intro G0 w0 G a w he hn0 hS hL;have hm:=hS.mem;have hgnt:G.nt=nt:=hm.nt
 have hle:=Le.newtok (G:=G) (w:=w) none;have hm':=hm.newtok none (fun g h=>by cases h)
 have h1:nt<(G.newtok none).nt:=by simp only[Gh.newtok];omega
 have h2:(G.newtok none).tk nt=some none:=by simp only[Gh.newtok];rw[<-hgnt,uS]
 refine⟨G.newtok none,⟨hS.defers,hS.size,fun i=>(hl.at .bot i).rv h1 h2 ((hS.tmps i).mono hle),hm'.rows (fun x y v h hr=>h.rv h1 h2 hr) hb⟩,?_⟩;refine hL.step ⟨hle,fun k hkb hg=>⟨hg,?_⟩⟩;simp only;rw[lO hkb,lO hkb]
section
variable {t sz:Nat}
@[simp] theorem aOH(x:AV):uF t sz x .bot:=.bot
@[simp] theorem aNl(x:AV):uF t sz x x:=.same
@[simp] theorem aND(n:Nat):uF t sz (.osl n [] .full) (.stk t sz []):=.nil
end
@[simp] theorem aRo{p:Nat->Prop}{fz:Option (Nat × Nat × List (List D))}(t sz:Nat)(es:List (List D)):To p (fun _=>True) fz (.stk t sz es) (.stk t sz es):=.same (.stk trivial)
@[simp] theorem aRM{p:Nat->Prop}{fz:Option (Nat × Nat × List (List D))}(t sz:Nat)(es:List (List D)):To p (fun _=>True) fz (.que t sz es) (.que t sz es):=.same (.que trivial)
@[simp] theorem aOY{p q:Nat->Prop}{t sz:Nat}{es:List (List D)}:bF p q (.que t sz es)↔q t:=⟨fun h=>by cases h;assumption,.que⟩
@[simp] theorem aOk{p q:Nat->Prop}{t sz:Nat}{es:List (List D)}:bF p q (.stk t sz es)↔q t:=⟨fun h=>by cases h;assumption,.stk⟩
theorem aBm{R:AV->AV->Prop}:CvR R [] []:=⟨rfl,fun i h=>by simp at h⟩
theorem aZ{R:AV->AV->Prop}{x y:AV}{a b:List AV}(h:R x y)(r:CvR R a b):CvR R (x::a) (y::b):=⟨by simp[r.1],fun i h1 h2=>by
 cases i with
 | zero=>exact h
 | succ i=>exact r.2 i (by simpa using h1) (by simpa using h2)⟩
theorem vF{R:AV->AV->Prop}{r r':List AV}(h:CvR R r r'):aEj R [r] [r']:=⟨rfl,fun i h1 h2=>by
 have:i=0:=by simp at h1;omega
 subst this;exact h⟩
variable {P:Program}
inductive zJ (tok:Tks):AV->D->Prop
 | d {x}:zJ tok (.d x) x
 | osl {sz es o}:zJ tok (.osl sz es o) (.sl sz es)
 | stk {t sz es} (h:tok t=true):zJ tok (.stk t sz es) (.sl sz es)
def mU(tok:Tks):List AV->List D->Prop
 | [],[]=>True
 | x::a,y::b=>zJ tok x y/\mU tok a b
 | _,_=>False
theorem mU.at{tok:Nat->Bool}:∀{a:List AV} {b:List D},mU tok a b->a.length=b.length/\∀i (h1:i<a.length) (h2:i<b.length),zJ tok a[i] b[i]
 | [],[],_=>⟨rfl,fun i h=>by simp at h⟩
 | x::a,y::b,h=>by
  obtain⟨h1,h2⟩:=mU.at h.2;refine⟨by simp[h1],fun i g1 g2=>?_⟩;cases i with
  | zero=>exact h.1
  | succ i=>exact h2 i (by simpa using g1) (by simpa using g2)
 | [],_::_,h=>h.elim
 | _::_,[],h=>h.elim
inductive rC (box:Bxs) (tok:Tks):AV->AV->Prop
 | same {x} (h:bF (fun _=>False) (fun _=>True) x):rC box tok x x
 | stk {t sz es} (h:tok t=true):rC box tok (.stk t sz es) (.d (.sl sz es))
 | ptr {k row ds} (hk:box k=some [row]) (h:mU tok row ds):rC box tok (.ptr k 0 0) (.cptr ds 0)
 | fn {f} {caps caps':List AV} (hl:caps.length=caps'.length) (h:∀i (h1:i<caps.length) (h2:i<caps'.length),rC box tok caps[i] caps'[i]):rC box tok (.fn f caps) (.fn f caps')
def qO(box:Bxs)(tok:Tks):List AV->List AV->Prop
 | [],[]=>True
 | x::a,y::b=>rC box tok x y/\qO box tok a b
 | _,_=>False
theorem rC.ext{box box':Bxs}{tok:Nat->Bool}(he:Ext box box'){x y:AV}(h:rC box tok x y):rC box' tok x y:=by
 induction h with
 | same h=>exact .same h
 | stk h=>exact .stk h
 | ptr hk h=>exact .ptr (he _ _ hk) h
 | fn hl _ ih=>exact .fn hl ih
theorem rC.fn1{box:Bxs}{tok:Nat->Bool}{f:Fn}{x y:AV}(h:rC box tok x y):rC box tok (.fn f [x]) (.fn f [y]):=.fn rfl fun i h1 h2=>by
 have:i=0:=by simp at h1;omega
 subst this;exact h
theorem qO.ext{box box':Bxs}{tok:Nat->Bool}(he:Ext box box'):∀{a b:List AV},qO box tok a b->qO box' tok a b
 | [],[],_=>trivial
 | x::a,y::b,h=>⟨h.1.ext he,qO.ext he h.2⟩
 | [],_::_,h=>h.elim
 | _::_,[],h=>h.elim
def Gh.lb(G:Gh)(b:Nat):Prop:=(∃k sz,G.bx k=some (b,sz))∨∃t,G.tk t=some (some b)/\G.kind b=.ex
def Gh.lt(G:Gh)(t:Nat):Prop:=∃g,G.tk t=some (some g)/\G.kind g=.ex
open Classical in
noncomputable def Gh.lent(G:Gh):Gh:={ bx:=fun _=>none,kind:=fun b=>if G.lb b then .whole else G.kind b,tk:=fun t=>if G.lt t then none else G.tk t,nt:=G.nt }
open Classical in
noncomputable def Gh.back(G G1:Gh):Gh:={ bx:=G.bx,kind:=fun b=>if G.lb b then G.kind b else G1.kind b,tk:=fun t=>if G.lt t then G.tk t else G1.tk t,nt:=G1.nt }
theorem aAP{G:Gh}{a:Addr}(h:G.ps a):G.lent.ps a:=by
 unfold Gh.ps at h ⊢;simp only[Gh.lent];by_cases e:G.lb a.block
 .simp[e]
 .simp only[e,↓reduceIte];exact h
theorem fX{G:Gh}{t:Nat}{x:Option Nat}(h:G.lent.tk t=some x):G.tk t=some x/\¬G.lt t:=by
 simp only[Gh.lent] at h;split at h
 .cases h
 .rename_i hn;exact⟨h,hn⟩
theorem zP{G:Gh}{m:bH}{w:World}(hm:aV G m w){x:AV}{y:D}{v:Value}(hc:zJ m.tok x y)(h:RV G w x v):RVd w.cell? G.lent.ps y v:=by
 have hcm:∀(a:Addr) (u:Value),G.ps a->w.cell? a=some u->G.lent.ps a/\w.cell? a=some u:=fun a u h1 h2=>⟨aAP h1,h2⟩
 cases hc with
 | d=>cases h with|d h1=>exact h1.mono hcm
 | osl=>cases h with|osl h1 _=>exact h1.mono hcm
 | @stk t sz es ht =>
  cases h with
  | stk hs =>
   obtain⟨_,A,cap,rfl,hcap,hmax,hst⟩:=hs;obtain⟨_,y,hy⟩:=hm.toks t ht;have hst:=hst y hy;cases y with
   | none =>
    have hes:es=[]:=List.eq_nil_of_length_eq_zero (by have:cap=0:=hst;omega)
    subst hes;exact .sl (es:=[]) (fun _ _=>default) (Nat.zero_le _) hmax (by simp) (by simp) (fun a _ i j hi _=>by simp at hi) (fun i j hi _=>by simp at hi)
   | some g =>
    obtain⟨hA,vs,sp,e,h1,h2,h3,h4,h5⟩:=hst;refine RVd.of_flat hcap hmax ⟨h4.len,fun a ha q u hq=>?_,h4.one,fun _=>⟨_,hA⟩,h4.each,fun i j hi hj=>?_⟩
    .rw[hA] at ha;cases ha;rw[bK];refine⟨?_,?_⟩
     .have hl:G.lb g:=.inr ⟨t,hy,h1⟩
      simp[Gh.ps,Gh.lent,hl]
     .rw[cell_of_row w g _ _ e (0,0) h2,Nat.zero_add];simp only[List.getElem?_toArray];rw[List.getElem?_append_left (List.getElem?_eq_some_iff.1 hq).1];exact hq
    .obtain⟨u,hu,hr⟩:=h4.read i j hi hj;exact⟨u,hu,hr.mono hcm⟩
theorem aFq{G:Gh}{m:bH}{w:World}(hm:aV G m w){b:Nat}(h:G.lb b):b<w.heap.size/\(G.kind b=.box∨G.kind b=.ex):=by
 rcases h with ⟨k,sz,h⟩|⟨t,h1,h2⟩
 .have:=hm.blt h
  exact⟨this.1,.inl this.2⟩
 .obtain⟨f,cur,e,_,h3⟩:=hm.tokb t b h1;exact⟨bW h3,.inr h2⟩
theorem RV.lent{G:Gh}{m:bH}{w:World}(hm:aV G m w){x:AV}{v:Value}(h:RV G w x v)(ho:bF (fun _=>False) (fun _=>True) x):RV G.lent w x v:=by
 have hc:∀(a:Addr) (u:Value),G.ps a->w.cell? a=some u->G.lent.ps a/\w.cell? a=some u:=fun a u h1 h2=>⟨aAP h1,h2⟩
 have hk:∀g f c,G.kind g=.part f c->G.lent.kind g=G.kind g:=fun g f c hg=>by
  simp only[Gh.lent];rw[if_neg fun e=>by rcases (aFq hm e).2 with h|h<;>rw[hg] at h<;>cases h]
 have hown:∀{sz n:Nat} {o:Own} {v:Value},sZ G sz n o v->sZ G.lent sz n o v:=by
  intro sz n o v h2;cases o with
  | full=>exact h2
  | tok t =>
   refine⟨h2.1,fun y hy=>?_⟩;have:=h2.2 y (fX hy).1
   cases y with
   | none=>exact this
   | some g =>
    obtain⟨cap,hv,hg⟩:=this;exact⟨cap,hv,(hk g _ _ hg).trans hg⟩
 induction h with
 | bot=>exact .bot
 | d h1=>exact .d (h1.mono hc)
 | osl h1 h2=>exact .osl (h1.mono hc) (hown h2)
 | ptr h1=>cases ho with|ptr h=>exact h.elim
 | here h1 h2=>cases ho with|here h=>exact h.elim
 | buf h1 h2 h3 h4=>exact .buf (h1.mono hc) (hown h2) (fun e=>h3 (fX e).1) (fun g hg=>h4 g (fX hg).1)
 | cptr a u h1 h2=>exact .cptr a u (fun j hj=>hc _ _ (h1 j hj).1 (h1 j hj).2) fun j hj=>(h2 j hj).mono hc
 | msl h1=>cases ho with|msl h=>exact h.elim
 | fn hl _ ih=>cases ho with|fn h=>exact .fn hl fun i h1 h2=>ih i h1 h2 (h _ (List.getElem_mem h1))
 | agg hl _ hone ih=>cases ho with|agg h=>exact .agg hl (fun i h1 h2=>ih i h1 h2 (h _ (List.getElem_mem h1))) hone
 | tup hl _ ih=>cases ho with|tup h=>exact .tup hl fun i h1 h2=>ih i h1 h2 (h _ (List.getElem_mem h1))
 | ex h1 =>
  obtain⟨r1,r0,r2⟩:=h1;refine .ex ⟨r1,r0,fun y hy=>?_⟩;obtain⟨hy1,hn⟩:=fX hy;obtain⟨g,cap,cs,e,rfl,h2,h3,h4,h5,_⟩:=r2 y hy1;exact absurd ⟨g,hy1,h5⟩ hn
 | stk h1 =>
  obtain⟨r1,A,cap,hv,hc1,hmx,r2⟩:=h1;refine .stk ⟨r1,A,cap,hv,hc1,hmx,fun y hy=>?_⟩;obtain⟨hy1,hn⟩:=fX hy;have h0:=r2 y hy1;cases y with
  | none=>exact h0
  | some g =>
   obtain⟨hA,vs,sp,e,h5,_⟩:=h0;exact absurd ⟨g,hy1,h5⟩ hn
 | que h1 h2=>exact .que (h1.mono hc) (h2.imp h2.1 fun x hx=>⟨(fX hx).1,fun g _ f c he=>(hk g f c he).trans he⟩)
 | mp h1 =>
  obtain⟨r1,r0,r,hv,r2⟩:=h1;refine .mp ⟨r1,r0,r,hv,fun y hy=>?_⟩;obtain⟨hy1,hn⟩:=fX hy;obtain⟨rfl,h5,_⟩:=r2 y hy1;exact absurd ⟨r,hy1,h5⟩ hn
 | mpd h1=>exact .mpd (h1.imp hc fun r _ hk1=>⟨by simp only[Gh.lent];split;rfl;exact hk1,rfl⟩)
theorem rC.rv{G:Gh}{m:bH}{w:World}(hm:aV G m w){x y:AV}{v:Value}(hb:rC m.box m.tok x y)(h:RV G w x v):RV G.lent w y v:=by
 induction hb generalizing v with
 | fn hl _ ih =>
  cases h with
  | fn hl' hh=>exact .fn (hl.symm.trans hl') fun i h1 h2=>ih i (by omega) h1 (hh i (by omega) h2)
 | same ho=>exact h.lent hm ho
 | stk ht=>exact .d (zP hm (.stk ht) h)
 | @ptr k row ds hk hd =>
  generalize hx:AV.ptr k 0 0=x at h;cases h with
  | @ptr k' i off b sz hbx =>
   cases hx;obtain⟨hkind,cs,e,hheap,hrows,hR,hone⟩:=hm.box k [row] b sz hk hbx;have hR:RVs G w row cs.toList:=by simpa using hR
   obtain⟨hl,hat⟩:=hd.at;have hlb:G.lb b:=.inl ⟨k,sz,hbx⟩
   have:=RV.cptr (G:=G.lent) (w:=w) (cs:=ds) (off:=0) ⟨b,0,none⟩ (fun j=>cs.getD j default) (fun j hj=>?_) (fun j hj=>?_)
   .rw[bK] at this;simpa using this
   .rw[bK];refine⟨by simp[Gh.ps,Gh.lent,hlb],?_⟩;rw[cell_of_row w b _ _ e (0,0) hheap,Nat.zero_add];have hjl:j<cs.size:=by have:=hR.1;simp at this;omega
    simp[hjl]
   .have hjl:j<cs.size:=by have:=hR.1;simp at this;omega
    have h1:=zP hm (hat j (by omega) hj) (hR.2 j (by omega) (by simpa using hjl));simpa[hjl] using h1
  | _=>cases hx
theorem qO.rvs{G:Gh}{m:bH}{w:World}(hm:aV G m w):∀{xs ys:List AV} {vs:List Value},qO m.box m.tok xs ys->RVs G w xs vs->RVs G.lent w ys vs
 | [],[],vs,_,h=>⟨by have:=h.1;simpa using this,fun i h=>by simp at h⟩
 | x::a,y::b,vs,hb,h=>by
  obtain⟨v,us,rfl,h1,h2⟩:=h.uncons;exact RVs.cons (hb.1.rv hm h1) (qO.rvs hm hb.2 h2)
 | [],_::_,_,h,_=>h.elim
 | _::_,[],_,h,_=>h.elim
theorem cW.lends{f:FuncId}{args args':List AV}{box:Bxs}{tok:Nat->Bool}{nt:Nat}{u:Value}(hu:u.oneCell'=true)(h:∀tok,dI P f args' tok nt (.d (.raw u)) tok nt)(hb:qO box tok args args'):cW P f args box tok nt (.d (.raw u)) tok nt:=by
 classical
 intro box' nb hext;have hb':=hb.ext hext
 refine⟨(h tok (fun _=>none) nb).1,fun G w vals hm hr=>?_⟩;obtain⟨_,hc⟩:=h (fun t=>tok t&&decide (¬G.lt t)) (fun _=>none) nb;have hlbk:=fun {b} (hb:G.lb b)=>aFq hm hb
 have hnl:∀t g,G.tk t=some (some g)->¬G.lt t->¬G.lb g:=fun t g ht hn hl=>by
  rcases hl with ⟨k,sz,hk⟩|⟨t2,h1,h2⟩
  .obtain⟨f',cur,e,h1,_⟩:=hm.tokb t g ht;rw[(hm.blt hk).2] at h1;rcases h1 with ⟨h1,_⟩|h1<;>cases h1
  .exact hn ⟨g,ht,h2⟩
 have hm1:aV G.lent ⟨fun _=>none,nb,fun t=>tok t&&decide (¬G.lt t),nt⟩ w:=by
  constructor
  case box=>intro k rows b sz h1;cases h1
  case nobox=>intro k _;rfl
  case inj=>intro k k' b sz sz' h1;cases h1
  case nb=>intro k _;rfl
  case nt=>exact hm.nt
  case toks =>
   intro t ht;simp only[Bool.and_eq_true,decide_eq_true_eq] at ht;obtain⟨h1,x,h2⟩:=hm.toks t ht.1;exact⟨h1,x,by simp only[Gh.lent];rw[if_neg ht.2];exact h2⟩
  case tokb =>
   intro t g ht;obtain⟨h1,h2⟩:=fX ht;obtain⟨f',cur,e,h3,h4⟩:=hm.tokb t g h1;refine⟨f',cur,e,?_,h4⟩;simp only[Gh.lent];rw[if_neg (hnl t g h1 h2)];exact h3
  case tinj=>exact fun t t' g h1 h2=>hm.tinj t t' g (fX h1).1 (fX h2).1
  case tnt=>exact fun t x h1=>hm.tnt t x (fX h1).1
  case glob=>exact hm.glob.mono fun a u h1 h2=>⟨aAP h1,h2⟩
  case fresh =>
   intro b hb1;simp only[Gh.lent];split
   .rfl
   .exact hm.fresh b hb1
 refine Calls.mono (hc G.lent w vals hm1 (hb'.rvs hm hr)) ?_;rintro e w' ⟨v,av,m',G1,rfl,⟨rfl,rfl⟩,h3,h4,h5,h6,h7⟩;have hv:v=u:=by cases h5 with|d h=>cases h;rfl
 subst hv;have hkeep:∀b,G.lb b->G1.kind b=.whole/\w'.heap[b]?=w.heap[b]?:=fun b hb1=>h6.whole b (hlbk hb1).1 (by simp[Gh.lent,hb1])
 have hltb:∀t,G.lt t->∃g,G.tk t=some (some g)/\G.kind g=.ex/\G.lb g:=fun t ⟨g,h1,h2⟩=>⟨g,h1,h2,.inr ⟨t,h1,h2⟩⟩
 have hle:Le G w (G.back G1) w':=by
  refine⟨h6.os,h6.tape,h6.output,h6.size,fun b hb1 hk=>?_,fun b f' c hk=>?_,fun _ _ h=>h,h6.nt,fun t ht=>?_,?_⟩
  .have hn:¬G.lb b:=fun e=>by rcases (hlbk e).2 with h|h<;>rw[hk] at h<;>cases h
   obtain⟨a1,a2⟩:=h6.whole b hb1 (by simp only[Gh.lent];rw[if_neg hn];exact hk);exact⟨by simp only[Gh.back];rw[if_neg hn];exact a1,a2⟩
  .have hn:¬G.lb b:=fun e=>by rcases (hlbk e).2 with h|h<;>rw[hk] at h<;>cases h
   obtain⟨⟨f2,a1,a2⟩,a3⟩:=h6.part b f' c (by simp only[Gh.lent];rw[if_neg hn];exact hk);exact⟨⟨f2,a1,by simp only[Gh.back];rw[if_neg hn];exact a2⟩,a3⟩
  .by_cases hl:G.lt t
   .refine .inr ⟨by simp only[Gh.back];rw[if_pos hl],fun g hg=>?_⟩;obtain⟨g',h1,h2,h3⟩:=hltb t hl;rw[hg] at h1;cases h1;exact⟨by simp only[Gh.back];rw[if_pos h3],fun _=>(hkeep g h3).2⟩
   .have e1:(G.back G1).tk t=G1.tk t:=by simp only[Gh.back];rw[if_neg hl]
    have e2:G.lent.tk t=G.tk t:=by simp only[Gh.lent];rw[if_neg hl]
    rcases h6.tk t ht with a1|⟨a1,a2⟩
    .exact .inl (e1.trans a1)
    .refine .inr ⟨(e1.trans a1).trans e2,fun g hg=>?_⟩;have hn:=hnl t g hg hl;obtain⟨b1,b2⟩:=a2 g (e2.trans hg);simp only[Gh.lent] at b1 b2;rw[if_neg hn] at b1 b2;exact⟨by simp only[Gh.back];rw[if_neg hn];exact b1,b2⟩
  .exact h6.ty
 refine⟨v,_,_,G.back G1,rfl,⟨rfl,rfl⟩,rfl,?_,.d (.raw hu),hle,fun k hk=>⟨hk,rfl⟩⟩;have hG1:∀t g,¬G.lt t->(G.back G1).tk t=some (some g)->G1.tk t=some (some g)/\¬G.lb g:=fun t g hl ht=>by
  have e1:G1.tk t=some (some g):=by simp only[Gh.back] at ht;rw[if_neg hl] at ht;exact ht
  refine⟨e1,fun hpg=>?_⟩;obtain⟨f',cur,e,g1,_⟩:=h4.tokb t g e1;rw[(hkeep g hpg).1] at g1;rcases g1 with ⟨g1,_⟩|g1<;>cases g1
 have hG0:∀t,G.lt t->(G.back G1).tk t=G.tk t:=fun t hl=>by simp only[Gh.back];rw[if_pos hl]
 constructor
 case box =>
  intro k rows b sz hk hb1;obtain⟨g1,cs,e,g2,g3,g4,g5⟩:=hm.box k rows b sz hk hb1;have hpk:G.lb b:=.inl ⟨k,sz,hb1⟩
  exact⟨by simp only[Gh.back];rw[if_pos hpk];exact g1,cs,e,(hkeep b hpk).2.trans g2,g3,g4.mono hle,g5⟩
 case nobox=>exact hm.nobox
 case inj=>exact hm.inj
 case nb=>exact hm.nb
 case nt=>exact h4.nt
 case toks =>
  intro t ht;obtain⟨h1,x,h2⟩:=hm.toks t ht;refine⟨h1,?_⟩;by_cases hl:G.lt t
  .exact⟨x,(hG0 t hl).trans h2⟩
  .obtain⟨_,y,h3⟩:=h4.toks t (by simp only[Bool.and_eq_true,decide_eq_true_eq];exact⟨ht,hl⟩);exact⟨y,by simp only[Gh.back];rw[if_neg hl];exact h3⟩
 case tokb =>
  intro t g ht;by_cases hl:G.lt t
  .rw[hG0 t hl] at ht;obtain⟨g',h1,h2,h3⟩:=hltb t hl;rw[ht] at h1;cases h1;obtain⟨f',cur,e,g1,g2⟩:=hm.tokb t g ht;exact⟨f',cur,e,by simp only[Gh.back];rw[if_pos h3];exact g1,(hkeep g h3).2.trans g2⟩
  .obtain⟨h1,hn⟩:=hG1 t g hl ht;obtain⟨f',cur,e,g1,g2⟩:=h4.tokb t g h1;exact⟨f',cur,e,by simp only[Gh.back];rw[if_neg hn];exact g1,g2⟩
 case tinj =>
  intro t t' g ht ht';by_cases hl:G.lt t<;>by_cases hl':G.lt t'
  .rw[hG0 t hl] at ht;rw[hG0 t' hl'] at ht';exact hm.tinj t t' g ht ht'
  .rw[hG0 t hl] at ht;obtain⟨g',h1,_,h3⟩:=hltb t hl;rw[ht] at h1;cases h1;exact absurd h3 (hG1 t' g hl' ht').2
  .rw[hG0 t' hl'] at ht';obtain⟨g',h1,_,h3⟩:=hltb t' hl';rw[ht'] at h1;cases h1;exact absurd h3 (hG1 t g hl ht).2
  .exact h4.tinj t t' g (hG1 t g hl ht).1 (hG1 t' g hl' ht').1
 case tnt =>
  intro t x ht;by_cases hl:G.lt t
  .rw[hG0 t hl] at ht;have:=hm.tnt t x ht
   have e1:=hm.nt;have e2:=h4.nt;simp only[Gh.back];simp only at e1 e2;omega
  .simp only[Gh.back] at ht;rw[if_neg hl] at ht;exact h4.tnt t x ht
 case glob=>exact hm.glob.mono hle.cells
 case fresh =>
  intro b hb1;have:=h6.size
  have hn:¬G.lb b:=fun hpb1=>by have:=(hlbk hpb1).1;omega
  simp only[Gh.back];rw[if_neg hn];exact h4.fresh b hb1
variable {P:Program}
theorem Le.reKind{G:Gh}{w:World}{g:Nat}(k:BK)(hk:G.kind g=.ex)(ht:∀t,G.tk t≠some (some g)):Le G w (G.setKind g k) w where
 os:=rfl
 tape:=rfl
 output:=rfl
 size:=nr0 _
 whole b _ h:=⟨by simp only[Gh.setKind];rw[uO _ _ (fun e=>by subst e;rw[hk] at h;cases h)];exact h,rfl⟩
 part b f c h:=⟨⟨f,nr0 _,by simp only[Gh.setKind];rw[uO _ _ (fun e=>by subst e;rw[hk] at h;cases h)];exact h⟩,fun _ _ _=>rfl⟩
 bx _ _ h:=h
 nt:=nr0 _
 tk t _:=.inr ⟨rfl,fun j hj=>⟨by simp only[Gh.setKind];exact uO _ _ (fun e=>by subst e;exact ht t hj),fun _=>rfl⟩⟩
 ty _ cs T f h:=⟨cs,f,h⟩
theorem aV.reKind{G:Gh}{m:bH}{w:World}(h:aV G m w){g:Nat}(k:BK)(hk:G.kind g=.ex)(ht:∀t,G.tk t≠some (some g))(hg:g<w.heap.size):aV (G.setKind g k) m w:=by
 have hle:=Le.reKind (w:=w) k hk ht;constructor
 case box =>
  intro q rows b sz hq hb;obtain⟨h1,cs,e,h2,h3,h4,h5⟩:=h.box q rows b sz hq hb;refine⟨?_,cs,e,h2,h3,h4.mono hle,h5⟩;simp only[Gh.setKind];rw[uO _ _ (fun e=>by subst e;rw[hk] at h1;cases h1)];exact h1
 case nobox=>exact h.nobox
 case inj=>exact h.inj
 case nb=>exact h.nb
 case nt=>exact h.nt
 case toks=>exact h.toks
 case tokb =>
  intro t j hj;obtain⟨f0,cur0,e0,h1,h2⟩:=h.tokb t j hj;refine⟨f0,cur0,e0,?_,h2⟩;simp only[Gh.setKind];rw[uO _ _ (fun e=>by subst e;exact ht t hj)];exact h1
 case tinj=>exact h.tinj
 case tnt=>exact h.tnt
 case glob=>exact h.glob.mono hle.cells
 case fresh =>
  intro b hb;simp only[Gh.setKind];rw[uO _ _ (by omega)];exact h.fresh b hb
theorem vN{G:Gh}{m:bH}{w:World}(hm:aV G m w){t g:Nat}(hx:G.tk t=some (some g)):∀q,(G.kill (.tok t)).tk q≠some (some g):=by
 intro q hq;simp only[Gh.kill] at hq;by_cases e:q=t
 .subst e;simp[uS] at hq
 .rw[uO _ _ e] at hq;exact e (hm.tinj q t g hq hx)
inductive aDW (t:Nat):AV->AV->Prop
 | bot {x}:aDW t x .bot
 | same {x}:aDW t x x
 | stk {sz es}:aDW t (.stk t sz es) (.d (.sl sz es))
theorem iR.stkD{cx:Cx}{nt0 nt:Nat}{l l':List (Nat × AV)}{out:Bxs}{loc loc':List (Nat × List (List AV))}{tok:Nat->Bool}(t:Nat)(ht:tok t=true)(hl:CvL (aDW t) l l')(hb:CvB (aDW t) loc loc'):
  iR cx nt0 ⟨tl l,lb cx.base out loc,tok,nt⟩ ⟨tl l',lb cx.base out loc',upd tok t false,nt⟩:=by
 intro G0 w0 G a w he hn0 hS hL;have hm:=hS.mem;obtain⟨hlt,x,hx⟩:=hm.toks t ht;have hmk:=hm.kill (.tok t);have hlk:=Le.kill (G:=G) (w:=w) (.tok t);have hstk:∀{sz:Nat} {es:List (List D)} {v:Value},RV G w (.stk t sz es) v->yQ G w t sz es v:=fun h=>by cases h with|stk h=>exact h
 have fin:∀G',Le G w G' w->G'.bx=G.bx->aV G' ⟨lb cx.base out loc,cx.nb,upd tok t false,nt⟩ w->(∀sz es v,yQ G w t sz es v->RVd w.cell? G'.ps (.sl sz es) v) ->
   ∃G',cP cx.n cx.nb G' ⟨tl l',lb cx.base out loc',upd tok t false,nt⟩ a w/\LeC cx G0 w0 G' w ⟨tl l',lb cx.base out loc',upd tok t false,nt⟩:=by
  intro G' hle hbx hm' hd;have hto:∀x y v,aDW t x y->RV G w x v->RV G' w y v:=fun x y v h hr=>by
   cases h with
   | bot=>exact .bot
   | same=>exact hr.mono hle
   | stk=>exact .d (hd _ _ v (hstk hr))
  refine⟨G',⟨hS.defers,hS.size,fun i=>hto _ _ _ (hl.at .bot i) (hS.tmps i),?_⟩,?_⟩
  .constructor
   case box =>
    intro k rows b z hk hbk;simp only at hk;by_cases hkb:k<cx.base
    .rw[lO hkb] at hk;exact hm'.box k rows b z (by simp only;rw[lO hkb];exact hk) hbk
    .have hkk:k=cx.base+(k-cx.base):=by omega
     rw[hkk,aQ] at hk;rcases hb.at (k-cx.base) with ⟨_,h2⟩|⟨r0,r',h1,h2,h3⟩
     .rw[h2] at hk;cases hk
     .rw[h2] at hk;cases hk;obtain⟨_,cs,e,g2,g3,g4,g5⟩:=hm.box k r0 b z (by simp only;rw[hkk,aQ];exact h1) (by rw[<-hbx];exact hbk);obtain⟨g1,_⟩:=hm'.box k r0 b z (by simp only;rw[hkk,aQ];exact h1) hbk;refine⟨g1,cs,e,g2,fun q hq=>?_,⟨h3.flat.1.symm.trans g4.1,fun i h1 h2=>hto _ _ _ (h3.flat.2 i (by rw[h3.flat.1];exact h1) h1) (g4.2 i _ h2)⟩,g5⟩;obtain⟨i,hi,rfl⟩:=List.getElem_of_mem hq;have hi0:i<r0.length:=by rw[h3.1];exact hi
      rw[<-(h3.2 i hi0 hi).1];exact g3 _ (List.getElem_mem _)
   case nobox =>
    intro k hk;refine hm'.nobox k ?_;simp only at hk ⊢;by_cases hkb:k<cx.base
    .rw[lO hkb] at hk ⊢;exact hk
    .have hkk:k=cx.base+(k-cx.base):=by omega
     rw[hkk,aQ] at hk ⊢;rcases hb.at (k-cx.base) with ⟨h1,_⟩|⟨r0,r',_,h2,_⟩
     .exact h1
     .rw[h2] at hk;cases hk
   case inj=>exact hm'.inj
   case nb =>
    intro k hk;have h0:=hm'.nb k hk;simp only at h0 ⊢;by_cases hkb:k<cx.base
    .rw[lO hkb] at h0 ⊢;exact h0
    .have hkk:k=cx.base+(k-cx.base):=by omega
     rw[hkk,aQ] at h0 ⊢;rcases hb.at (k-cx.base) with ⟨_,h2⟩|⟨r0,r',h1,_,_⟩
     .exact h2
     .rw[h1] at h0;cases h0
   case nt=>exact hm'.nt
   case toks=>exact hm'.toks
   case tokb=>exact hm'.tokb
   case tinj=>exact hm'.tinj
   case tnt=>exact hm'.tnt
   case glob=>exact hm'.glob
   case fresh=>exact hm'.fresh
  .refine hL.step ⟨hle,fun k hkb hg=>⟨by rw[hbx];exact hg,?_⟩⟩;simp only;rw[lO hkb,lO hkb]
 cases x with
 | none =>
  refine fin (G.kill (.tok t)) hlk rfl hmk fun sz es v hv=>?_
  obtain⟨_,A,cap,rfl,hcap,hmax,hst⟩:=hv;have hc0:cap=0:=hst _ hx
  have hes:es=[]:=List.eq_nil_of_length_eq_zero (by omega)
  subst hes;exact .sl (es:=[]) (fun _ _=>default) (Nat.zero_le _) hmax (by simp) (by simp) (fun a _ i j hi _=>by simp at hi) (fun i j hi _=>by simp at hi)
 | some g =>
  obtain⟨f,cur,e,hkg,hg⟩:=hm.tokb t g hx;by_cases hex:G.kind g=.ex
  .have hnot:=vN hm hx;have hlr:=Le.reKind (G:=G.kill (.tok t)) (w:=w) .whole hex hnot;refine fin ((G.kill (.tok t)).setKind g .whole) (hlk.trans hlr) rfl (hmk.reKind .whole hex hnot (bW hg)) fun sz es v hv=>?_
   obtain⟨_,A,cap,rfl,hcap,hmax,hst⟩:=hv;obtain⟨hA,vs,sp,e,h1,h2,h3,h4,h5⟩:=hst _ hx;refine RVd.of_flat hcap hmax ⟨h4.len,fun a ha q u hq=>?_,h4.one,fun _=>⟨_,hA⟩,h4.each,fun i j hi hj=>?_⟩
   .rw[hA] at ha;cases ha;rw[bK];refine⟨by simp[Gh.ps,Gh.setKind,uS],?_⟩;rw[cell_of_row w g _ _ e (0,0) h2,Nat.zero_add];simp only[List.getElem?_toArray];rw[List.getElem?_append_left (List.getElem?_eq_some_iff.1 hq).1];exact hq
   .obtain⟨u,hu,hr⟩:=h4.read i j hi hj;exact⟨u,hu,hr.mono (hlk.trans hlr).cells⟩
  .refine fin (G.kill (.tok t)) hlk rfl hmk fun sz es v hv=>?_
   obtain⟨_,A,cap,rfl,hcap,hmax,hst⟩:=hv;obtain⟨_,vs,sp,e,h1,_⟩:=hst _ hx;exact absurd h1 hex
def AV.sdT(t:Nat):AV->AV
 | .stk t' sz es=>if t'=t then .d (.sl sz es) else .stk t' sz es
 | x=>x
theorem aIG(t:Nat)(x:AV):aDW t x (x.sdT t):=by
 cases x with
 | stk t' sz es =>
  simp only[AV.sdT];split
  .rename_i h;subst h;exact .stk
  .exact .same
 | _=>exact .same
theorem aBq{R:AV->AV->Prop}{f:AV->AV}(h:∀x,R x (f x)):∀l:List (Nat × AV),CvL R l (l.map fun q=>(q.1,f q.2))
 | []=>trivial
 | (i,x)::l=>⟨rfl,h x,aBq h l⟩
theorem aBC{R:AV->AV->Prop}{f:AV->AV}(h:∀x,R x (f x)):∀l:List (Nat × List (List AV)),CvB R l (l.map fun q=>(q.1,q.2.map fun r=>r.map f))
 | []=>trivial
 | (i,x)::l=>⟨rfl,⟨by simp,fun i h1 h2=>⟨by simp,fun j g1 g2=>by simp only[List.getElem_map];exact h _⟩⟩,aBC h l⟩
theorem AL.stkD{cx:Cx}{nt0 nt:Nat}{K:Exit->AS->Prop}{q:List CI}{x:Code}{l:List (Nat × AV)}{out:Bxs}{loc:List (Nat × List (List AV))}{tok:Nat->Bool}(t:Nat)(ht:tok t=true)(h:AL P cx nt0 K (.c x::q) ⟨tl (l.map fun q=>(q.1,q.2.sdT t)),lb cx.base out (loc.map fun q=>(q.1,q.2.map fun r=>r.map (AV.sdT t))),upd tok t false,nt⟩):AL P cx nt0 K (.c x::q) ⟨tl l,lb cx.base out loc,tok,nt⟩ :=
 AL.trans (iR.stkD t ht (aBq (aIG t) l) (aBC (aIG t) loc)) h
variable {P:Program}
theorem cJ.rvs{G:Gh}{w:World}{sz:Nat}:∀{es:List (List D)} {vs:List Value},cJ w.cell? G.ps sz es vs->RVs G w (es.flatten.map AV.d) vs
 | [],vs,h=>by
  have hv:vs=[]:=List.eq_nil_of_length_eq_zero (by simpa using h.len)
  subst hv;exact⟨rfl,fun i h=>by simp at h⟩
 | e::es,vs,h=>by
  have he:e.length=sz:=h.each e (by simp)
  have hl:=h.len;rw[List.length_cons,Nat.add_mul] at hl;have h1:cJ w.cell? G.ps sz es (vs.drop sz):=by
   refine⟨by rw[List.length_drop];omega,fun u hu=>h.one u (List.mem_of_mem_drop hu),fun q hq=>h.each q (by simp[hq]),fun i j hi hj=>?_⟩;obtain⟨u,hu,hr⟩:=h.read (i+1) j (by simpa using hi) (by simpa using hj);refine⟨u,?_,by simpa using hr⟩;rw[List.getElem?_drop,<-hu];congr 1
   rw[Nat.add_mul];omega
  have ih:=cJ.rvs h1;have h2:RVs G w (e.map AV.d) (vs.take sz):=by
   refine⟨by rw[List.length_map,List.length_take];omega,fun j g1 g2=>?_⟩;have hj:j<e.length:=by simpa using g1
   obtain⟨u,hu,hr⟩:=h.read 0 j (by simp) (by simpa using hj);simp only[List.getElem_map,List.getElem_take];obtain⟨hlt,rfl⟩:=List.getElem?_eq_some_iff.1 hu;simp only[Nat.zero_mul,Nat.zero_add] at hr ⊢;exact .d (by simpa using hr)
  have:=h2.append ih
  rw[List.take_append_drop] at this;simpa using this
inductive tW (t k sz:Nat) (es:List (List D)):AV->AV->Prop
 | bot {x}:tW t k sz es x .bot
 | same {x}:tW t k sz es x x
 | stk:tW t k sz es (.stk t sz es) (.msl k 0 es.length sz)
theorem AT.thawS{cx:Cx}{nt0 nt:Nat}{c:Code}{K:Exit->AS->Prop}{l l':List (Nat × AV)}{out:Bxs}{loc loc':List (Nat × List (List AV))}{tok:Nat->Bool}(t s sz:Nat)(es:List (List D))(r:Nat)(hn:cx.nb=cx.base+cx.n)(hs:s<cx.n)(hk:lk loc s=none)(ht:tok t=true)(hne:es≠[])(hr:tl l r=.stk t sz es)(hl:CvL (tW t (cx.base+s) sz es) l l')(hb:CvB (tW t (cx.base+s) sz es) loc loc')(h:∀m,AT P cx nt0 c ⟨tl l',lb cx.base out ((s,cG es++List.replicate m (List.replicate sz .bot))::loc'),upd tok t false,nt⟩ K):AT P cx nt0 c ⟨tl l,lb cx.base out loc,tok,nt⟩ K:=by
 intro G0 w0 hen hnt G a w hS hL;have hm:=hS.mem;obtain⟨hlt,x,hx⟩:=hm.toks t ht;have hstk:∀{v:Value},RV G w (.stk t sz es) v->yQ G w t sz es v:=fun h=>by cases h with|stk h=>exact h
 have hwit:=hS.tmps r;simp only at hwit;rw[hr] at hwit;obtain⟨_,A,cap,hv,hcap,hmax,hst⟩:=hstk hwit;have hst:=hst x hx;cases x with
 | none =>
  have hc0:cap=0:=hst
  exact absurd (List.eq_nil_of_length_eq_zero (by omega)) hne
 | some g =>
  obtain⟨hA,vs,sp,e,hkg,hheap,hlen,hf,hsp⟩:=hst;have hboxk:lb cx.base out loc (cx.base+s)=none:=by rw[aQ];exact hk
  have hbxk:G.bx (cx.base+s)=none:=hm.nobox _ hboxk
  have hnb:∀{k b z},G.bx k=some (b,z)->b≠g:=fun h e=>by
   have:=(hm.blt h).2
   rw[e,hkg] at this;cases this
  have hmk:=hm.kill (.tok t);have hnot:=vN hm hx;have hm1:=hmk.reKind .box hkg hnot (bW hheap)
  let G1:Gh:=(G.kill (.tok t)).setKind g .box
  let G':Gh:={ G1 with bx:=upd G.bx (cx.base+s) (some (g,sz)) }
  have hle1:Le G w G1 w:=(Le.kill (.tok t)).trans (Le.reKind .box hkg hnot)
  have hle2:Le G1 w G' w:=⟨rfl,rfl,rfl,nr0 _,fun _ _ h=>⟨h,rfl⟩,fun _ f _ h=>⟨⟨f,nr0 _,h⟩,fun _ _ _=>rfl⟩,fun k x hk=>by
   simp only[G'];rw[uO _ _ (fun e=>by
    have hk:G.bx k=some x:=hk
    rw[e,hbxk] at hk;cases hk)]
   exact hk,nr0 _,fun t _=>.inr ⟨rfl,fun _ _=>⟨rfl,fun _=>rfl⟩⟩,fun _ cs T f h=>⟨cs,f,h⟩⟩
  have hle:=hle1.trans hle2;have hto:∀x y v,tW t (cx.base+s) sz es x y->RV G w x v->RV G' w y v:=fun x y v h hr=>by
   cases h with
   | bot=>exact .bot
   | same=>exact hr.mono hle
   | stk =>
    obtain⟨_,A',cap',rfl,hc1,hc2,h2⟩:=hstk hr;obtain⟨hA',_⟩:=h2 _ hx;subst hA';have:=RV.msl (G:=G') (w:=w) (k:=cx.base+s) (off:=0) (n:=es.length) (b:=g) (sz:=sz) (cap:=cap') (by simp[G',uS]) hc1 hc2
    simpa using this
  have hf':=hf.mono hle.cells
  have hvl:=hf.len;obtain⟨m,hmm⟩:∃m,cap=es.length+m:=⟨cap-es.length,by omega⟩
  have hspl:sp.length=m*sz:=by
   rw[List.length_append,hvl,hmm,Nat.add_mul] at hlen;omega
  refine h m G0 w0 hen hnt G' a w ⟨hS.defers,hS.size,fun i=>hto _ _ _ (hl.at .bot i) (hS.tmps i),?_⟩ ?_
  .constructor
   case box =>
    intro k rows b z hk' hb';by_cases e1:k=cx.base+s
    .subst e1;simp only[aQ,cB,↓reduceIte,Option.some.injEq] at hk';simp only[G',uS,Option.some.injEq,Prod.mk.injEq] at hb';obtain⟨rfl,rfl⟩:=hb';subst hk';refine⟨by simp[G',G1,Gh.setKind,uS],_,e,hheap,fun q hq=>?_,?_,fun v hv=>?_⟩
     .rcases List.mem_append.1 hq with hq|hq
      .obtain⟨p,hp,rfl⟩:=List.mem_map.1 hq;simpa using hf.each p hp
      .rw[List.eq_of_mem_replicate hq];simp
     .rw[List.flatten_append,wD];have h2:RVs G' w (List.replicate m (List.replicate sz AV.bot)).flatten sp:=by
       refine⟨by rw[hspl];simp[List.length_flatten],fun i g1 g2=>?_⟩;have hmem:(List.replicate m (List.replicate sz AV.bot)).flatten[i]∈(List.replicate m (List.replicate sz AV.bot)).flatten:=List.getElem_mem _
       obtain⟨q,hq,hiq⟩:=List.mem_flatten.1 hmem;rw[List.eq_of_mem_replicate hq] at hiq;rw[List.eq_of_mem_replicate hiq];exact .bot
      simpa using hf'.rvs.append h2
     .have hv:v∈vs++sp:=by simpa using hv
      rcases List.mem_append.1 hv with hv|hv
      .exact hf.one v hv
      .exact hsp v hv
    .simp only[G'] at hb';rw[uO _ _ e1] at hb';have hold:∃rows0,lb cx.base out loc k=some rows0/\(rows0=rows∨aEj (tW t (cx.base+s) sz es) rows0 rows):=by
      by_cases hkb:k<cx.base
      .refine⟨rows,?_,.inl rfl⟩;simp only at hk';rw[lO hkb] at hk' ⊢;exact hk'
      .have hkk:k=cx.base+(k-cx.base):=by omega
       simp only at hk';rw[hkk,aQ] at hk' ⊢;rw[cB,if_neg (by omega)] at hk';rcases hb.at (k-cx.base) with ⟨_,h2⟩|⟨r0,r',h1,h2,h3⟩
       .rw[h2] at hk';cases hk'
       .rw[h2] at hk';cases hk'
        exact⟨r0,h1,.inr h3⟩
     obtain⟨rows0,h1,h2⟩:=hold;obtain⟨g1,cs',e',g2,g3,g4,g5⟩:=hm.box k rows0 b z h1 hb';refine⟨by simp only[G',G1,Gh.setKind];rw[uO _ _ (hnb hb')];exact g1,cs',e',g2,?_,?_,g5⟩
     .rcases h2 with rfl|h2
      .exact g3
      .intro q hq;obtain⟨i,hi,rfl⟩:=List.getElem_of_mem hq;have hi0:i<rows0.length:=by rw[h2.1];exact hi
       rw[<-(h2.2 i hi0 hi).1];exact g3 _ (List.getElem_mem _)
     .rcases h2 with rfl|h2
      .exact g4.mono hle
      .exact⟨h2.flat.1.symm.trans g4.1,fun i k1 k2=>hto _ _ _ (h2.flat.2 i (by rw[h2.flat.1];exact k1) k1) (g4.2 i _ k2)⟩
   case nobox =>
    intro k hk';have hne:k≠cx.base+s:=fun e=>by subst e;simp[aQ,cB] at hk'
    simp only[G'];rw[uO _ _ hne];refine hm.nobox k ?_;simp only at hk' ⊢;by_cases hkb:k<cx.base
    .rw[lO hkb] at hk' ⊢;exact hk'
    .have hkk:k=cx.base+(k-cx.base):=by omega
     rw[hkk,aQ] at hk' ⊢;rw[cB,if_neg (by omega)] at hk';rcases hb.at (k-cx.base) with ⟨h1,_⟩|⟨r0,r',_,h2,_⟩
     .exact h1
     .rw[h2] at hk';cases hk'
   case inj =>
    intro j j' b z z' hj hj';simp only[G'] at hj hj';by_cases e1:j=cx.base+s<;>by_cases e2:j'=cx.base+s
    .exact e1.trans e2.symm
    .subst e1;rw[uS] at hj;rw[uO _ _ e2] at hj';cases hj;exact absurd rfl (hnb hj')
    .subst e2;rw[uS] at hj';rw[uO _ _ e1] at hj;cases hj'
     exact absurd rfl (hnb hj)
    .rw[uO _ _ e1] at hj;rw[uO _ _ e2] at hj';exact hm.inj j j' b z z' hj hj'
   case nb =>
    intro k hk';have h0:=hm.nb k hk';simp only at h0 ⊢;have hkb:¬k<cx.base:=by simp only at hk';omega
    have hkk:k=cx.base+(k-cx.base):=by omega
    rw[hkk,aQ] at h0 ⊢;rw[cB,if_neg (by simp only at hk';omega)];rcases hb.at (k-cx.base) with ⟨_,h2⟩|⟨r0,r',h1,_,_⟩
    .exact h2
    .rw[h1] at h0;cases h0
   case nt=>exact hm1.nt
   case toks=>exact hm1.toks
   case tokb=>exact hm1.tokb
   case tinj=>exact hm1.tinj
   case tnt=>exact hm1.tnt
   case glob=>exact hm.glob.mono hle.cells
   case fresh=>exact hm1.fresh
  .refine hL.step ⟨hle,fun k hkb hg=>⟨?_,?_⟩⟩
   .simp only[G'];rw[uO _ _ (by omega)];exact hg
   .simp only;rw[lO hkb,lO hkb]
theorem AL.thawS{cx:Cx}{nt0 nt:Nat}{K:Exit->AS->Prop}{q:List CI}{x:Code}{l l':List (Nat × AV)}{out:Bxs}{loc loc':List (Nat × List (List AV))}{tok:Nat->Bool}(t s sz:Nat)(es:List (List D))(r:Nat)(hn:cx.nb=cx.base+cx.n)(hs:s<cx.n)(hk:lk loc s=none)(ht:tok t=true)(hne:es≠[])(hr:tl l r=.stk t sz es)(hl:CvL (tW t (cx.base+s) sz es) l l')(hb:CvB (tW t (cx.base+s) sz es) loc loc')(h:∀m,AL P cx nt0 K (.c x::q) ⟨tl l',lb cx.base out ((s,cG es++List.replicate m (List.replicate sz .bot))::loc'),upd tok t false,nt⟩):AL P cx nt0 K (.c x::q) ⟨tl l,lb cx.base out loc,tok,nt⟩:=by
 simp only[AL] at h ⊢;exact AT.thawS t s sz es r hn hs hk ht hne hr hl hb h
section
variable {t k sz:Nat} {es:List (List D)}
@[simp] theorem aPQ(x:AV):tW t k sz es x .bot:=.bot
@[simp] theorem aNk(x:AV):tW t k sz es x x:=.same
@[simp] theorem aN3{n:Nat}:tW t k sz es (.stk t sz es) (.msl k 0 n sz)↔n=es.length:=⟨fun h=>by cases h;rfl,fun h=>by subst h;exact .stk⟩
end
variable {P:Program}
theorem cJ.of_rvs{G:Gh}{w:World}{sz:Nat}:∀{es:List (List D)} {vs:List Value},(∀e∈es,e.length=sz)->RVs G w (es.flatten.map AV.d) vs->(∀v∈vs,v.oneCell'=true)->cJ w.cell? G.ps sz es vs
 | [],vs,_,h,_=>by
  have hv:vs=[]:=List.eq_nil_of_length_eq_zero (by have:=h.1;simpa using this.symm)
  subst hv;exact cJ.none_ _ _ _
 | e::es,vs,hs,h,h1=>by
  have he:=hs e (by simp);rw[List.flatten_cons,List.map_append] at h;have hl:=h.1;rw[List.length_append,List.length_map,List.length_map] at hl;have ha:=h.take e.length;have hb:=h.drop e.length;rw[List.take_append_of_le_length (by simp),List.take_of_length_le (by simp)] at ha;rw[List.drop_append,List.drop_of_length_le (by simp),List.nil_append,List.length_map,Nat.sub_self,List.drop_zero] at hb;have f1:cJ w.cell? G.ps sz [e] (vs.take e.length):=by
   refine⟨by rw[List.length_take];simp;omega,fun u hu=>h1 u (List.mem_of_mem_take hu),fun q hq=>by simp at hq;rw[hq];exact he,fun i j hi hj=>?_⟩;have hi0:i=0:=by simp at hi;omega
   subst hi0;simp only[List.getElem_cons_zero] at hj ⊢;have hj2:j<(vs.take e.length).length:=by rw[List.length_take];omega
   have h3:=ha.2 j (by simpa using hj) hj2;simp only[List.getElem_map] at h3;refine⟨(vs.take e.length)[j],by rw[Nat.zero_mul,Nat.zero_add];exact List.getElem?_eq_getElem hj2,?_⟩;cases h3 with
   | d h4=>exact h4
  have f2:=cJ.of_rvs (fun q hq=>hs q (by simp[hq])) hb (fun v hv=>h1 v (List.mem_of_mem_drop hv));have:=f1.append f2
  rw[List.take_append_drop] at this;exact this
inductive uB (k sz:Nat) (es:List (List D)):AV->AV->Prop
 | bot {x}:uB k sz es x .bot
 | same {x} (h:bF (· ≠ k) (fun _=>True) x):uB k sz es x x
 | msl:uB k sz es (.msl k 0 es.length sz) (.d (.sl sz es))
theorem iR.sealD{cx:Cx}{nt0 nt:Nat}{l l':List (Nat × AV)}{out:Bxs}{loc loc':List (Nat × List (List AV))}{tok:Nat->Bool}(s sz:Nat)(es:List (List D))(rest:List (List AV))(r:Nat)(ho:out=cx.B0)(hsz:∀e∈es,e.length=sz)(hr:tl l r=.msl (cx.base+s) 0 es.length sz)(hk':lk loc' s=none)(hl:CvL (uB (cx.base+s) sz es) l l')(hb:CvB (uB (cx.base+s) sz es) loc loc'):
  iR cx nt0 ⟨tl l,lb cx.base out ((s,cG es++rest)::loc),tok,nt⟩ ⟨tl l',lb cx.base out loc',tok,nt⟩:=by
 intro G0 w0 G a w he hn0 hS hL;have hm:=hS.mem;have hgnt:G.nt=nt:=hm.nt
 have hwit:=hS.tmps r;simp only at hwit;rw[hr] at hwit;obtain⟨b,hbk⟩:∃b,G.bx (cx.base+s)=some (b,sz):=by
  generalize hq:(AV.msl (cx.base+s) 0 es.length sz)=q at hwit;generalize a.tmps.getD r undef=v0 at hwit;cases hwit with
  | msl h1 h2 h3=>cases hq;exact⟨_,h1⟩
  | _=>cases hq
 have hboxk:lb cx.base out ((s,cG es++rest)::loc) (cx.base+s)=some (cG es++rest):=by rw[aQ,cB,if_pos rfl]
 obtain⟨hkind,cs,e,hheap,hrows,hR,hone⟩:=hm.box _ _ b sz hboxk hbk
 let G1:Gh:={ bx:=G.bx,kind:=upd G.kind b .whole,tk:=G.tk,nt:=G.nt }
 let G':Gh:={ bx:=upd G.bx (cx.base+s) none,kind:=upd G.kind b .whole,tk:=G.tk,nt:=G.nt }
 have hne:∀{q j},G.tk q=some (some j)->j≠b:=fun h e=>by
  obtain⟨f,cur,e',h1,_⟩:=hm.tokb _ _ h;rw[e,hkind] at h1;rcases h1 with ⟨h1,_⟩|h1<;>cases h1
 have hle:Le G w G1 w:=by
  refine⟨rfl,rfl,rfl,nr0 _,fun b' _ hb'=>⟨?_,rfl⟩,fun b' f c hb'=>⟨⟨f,nr0 _,?_⟩,fun _ _ _=>rfl⟩,fun k x hk=>hk,nr0 _,fun q hq=>?_,fun _ _ _ _ h=>⟨_,_,h⟩⟩
  .simp only[G1];rw[uO _ _ (fun e=>by rw[e,hkind] at hb';cases hb')];exact hb'
  .simp only[G1];rw[uO _ _ (fun e=>by rw[e,hkind] at hb';cases hb')];exact hb'
  .refine .inr ⟨rfl,fun j hj=>⟨?_,fun _=>rfl⟩⟩;simp only[G1];exact uO _ _ (hne hj)
 have hcells:∀(q:Addr) (u:Value),G.ps q->w.cell? q=some u->G'.ps q/\w.cell? q=some u:=fun q u h1 h2=>hle.cells q u h1 h2
 -- what does not speak of the box
 have hok:∀{x:AV} {v:Value},bF (· ≠ cx.base+s) (fun _=>True) x->RV G w x v->RV G' w x v:=by
  intro x v hx h;have h1:=h.mono hle;clear h;induction h1 with
  | bot=>exact .bot
  | d h2=>exact .d h2
  | osl h2 h3=>exact .osl h2 h3
  | ptr h2=>cases hx with|ptr hp=>exact .ptr (by simp only[G'];rw[uO _ _ hp];exact h2)
  | buf h2 h3 h4 h5=>exact .buf h2 h3 h4 h5
  | here h2 h3=>cases hx with|here hp=>exact .here (by simp only[G'];rw[uO _ _ hp];exact h2) h3
  | cptr q u hc hr=>exact .cptr q u hc hr
  | msl h2 h3 h4=>cases hx with|msl hp=>exact .msl (by simp only[G'];rw[uO _ _ hp];exact h2) h3 h4
  | fn hl _ ih=>cases hx with|fn hp=>exact .fn hl fun i h1 h2=>ih i h1 h2 (hp _ (List.getElem_mem h1))
  | agg hl _ hone ih=>cases hx with|agg hp=>exact .agg hl (fun i h1 h2=>ih i h1 h2 (hp _ (List.getElem_mem h1))) hone
  | tup hl _ ih=>cases hx with|tup hp=>exact .tup hl fun i h1 h2=>ih i h1 h2 (hp _ (List.getElem_mem h1))
  | ex h2=>exact .ex h2
  | stk h2=>exact .stk h2
  | que h2 h3=>exact .que h2 h3
  | mp h2=>exact .mp h2
  | mpd h2=>exact .mpd h2
 have hto:∀x y v,uB (cx.base+s) sz es x y->RV G w x v->RV G' w y v:=by
  intro x y v hxy h;cases hxy with
  | bot=>exact .bot
  | same h1=>exact hok h1 h
  | msl =>
   generalize hq:(AV.msl (cx.base+s) 0 es.length sz)=q at h;cases h with
   | msl h1 h2 h3 =>
    cases hq;rw[hbk] at h1;cases h1;rw[List.flatten_append,wD] at hR;have hR1:=hR.take (es.flatten.map AV.d).length;rw[List.take_append_of_le_length (nr0 _),List.take_length] at hR1;have hfv:=cJ.of_rvs hsz hR1 (fun v hv=>hone v (List.mem_of_mem_take hv));refine .d (RVd.of_flat h2 h3 ⟨hfv.len,fun a ha q u hq=>?_,hfv.one,fun _=>⟨_,rfl⟩,hfv.each,fun i j hi hj=>?_⟩)
    .cases ha;rw[bK];refine⟨by simp[Gh.ps,G',uS],?_⟩;rw[cell_of_row w b _ _ e (0,0) hheap];obtain⟨hlt,rfl⟩:=List.getElem?_eq_some_iff.1 hq;rw[List.getElem_take];have hl2:q<cs.size:=by rw[List.length_take] at hlt;simp at hlt;omega
     have e0:0*sz+q=q:=by omega
     rw[e0];simp[hl2]
    .obtain⟨u,hu,hr⟩:=hfv.read i j hi hj;exact⟨u,hu,hr.mono hcells⟩
   | _=>cases hq
 have hRVs:∀{xs ys:List AV} {vs:List Value},CvR (uB (cx.base+s) sz es) xs ys->RVs G w xs vs->RVs G' w ys vs:=fun h hr=>⟨h.1.symm.trans hr.1,fun i h1 h2=>hto _ _ _ (h.2 i (by rw[h.1];exact h1) h1) (hr.2 i _ h2)⟩
 refine⟨G',⟨hS.defers,hS.size,fun i=>hto _ _ _ (hl.at .bot i) (hS.tmps i),?_⟩,?_,?_⟩
 .constructor
  case box =>
   intro k rows b' z hk hb';have e1:k≠cx.base+s:=fun e=>by
    subst e;simp only at hk;rw[aQ,hk'] at hk;cases hk
   simp only[G'] at hb';rw[uO _ _ e1] at hb';have hbne:b'≠b:=fun e=>by subst e;exact e1 (hm.inj _ _ _ _ _ hb' hbk)
   by_cases hkb:k<cx.base
   .simp only at hk;rw[lO hkb] at hk;obtain⟨g1,cs',e',g2,g3,g4,g5⟩:=hm.box k rows b' z (by simp only;rw[lO hkb];exact hk) hb';refine⟨by simp only[G'];rw[uO _ _ hbne];exact g1,cs',e',g2,g3,⟨g4.1,fun i h1 h2=>?_⟩,g5⟩;have hmem:rows.flatten[i]∈rows.flatten:=List.getElem_mem _
    obtain⟨q,hq,hxq⟩:=List.mem_flatten.1 hmem;have hG0:G0.bx k≠none:=by rw[<-hL.1.bx k hkb,hb'];simp
    have:=he k rows hkb (by rw[<-ho];exact hk) hG0 q hq _ hxq
    exact hok (this.imp (fun j hj=>by omega) fun _ _=>trivial) (g4.2 i h1 h2)
   .have hkk:k=cx.base+(k-cx.base):=by omega
    simp only at hk;rw[hkk,aQ] at hk;rcases hb.at (k-cx.base) with ⟨_,h2⟩|⟨r0,r',h1,h2,h3⟩
    .rw[h2] at hk;cases hk
    .rw[h2] at hk;cases hk;obtain⟨g1,cs',e',g2,g3,g4,g5⟩:=hm.box k r0 b' z (by simp only;rw[hkk,aQ,cB,if_neg (by omega)];exact h1) hb';refine⟨by simp only[G'];rw[uO _ _ hbne];exact g1,cs',e',g2,fun q hq=>?_,hRVs h3.flat g4,g5⟩;obtain⟨i,hi,rfl⟩:=List.getElem_of_mem hq;have hi0:i<r0.length:=by rw[h3.1];exact hi
     rw[<-(h3.2 i hi0 hi).1];exact g3 _ (List.getElem_mem _)
  case nobox =>
   intro k hk;simp only[G'];by_cases e1:k=cx.base+s
   .subst e1;simp[uS]
   .rw[uO _ _ e1];refine hm.nobox k ?_;simp only at hk ⊢;by_cases hkb:k<cx.base
    .rw[lO hkb] at hk ⊢;exact hk
    .have hkk:k=cx.base+(k-cx.base):=by omega
     rw[hkk,aQ] at hk ⊢;rw[cB,if_neg (by omega)];rcases hb.at (k-cx.base) with ⟨h1,_⟩|⟨r0,r',_,h2,_⟩
     .exact h1
     .rw[h2] at hk;cases hk
  case inj =>
   intro j j' b' z z' hj hj';simp only[G'] at hj hj';by_cases e1:j=cx.base+s
   .subst e1;simp[uS] at hj
   .by_cases e2:j'=cx.base+s
    .subst e2;simp[uS] at hj'
    .rw[uO _ _ e1] at hj;rw[uO _ _ e2] at hj';exact hm.inj j j' b' z z' hj hj'
  case nb =>
   intro k hk;have h0:=hm.nb k hk;simp only at h0 ⊢;by_cases hkb:k<cx.base
   .rw[lO hkb] at h0 ⊢;exact h0
   .have hkk:k=cx.base+(k-cx.base):=by omega
    rw[hkk,aQ] at h0 ⊢;by_cases e1:k-cx.base=s
    .rw[e1];exact hk'
    .rw[cB,if_neg e1] at h0;rcases hb.at (k-cx.base) with ⟨_,h2⟩|⟨r0,r',h1,_,_⟩
     .exact h2
     .rw[h1] at h0;cases h0
  case nt=>exact hm.nt
  case toks=>exact hm.toks
  case tokb =>
   intro q j hq;obtain⟨f,cur,e',g1,g2⟩:=hm.tokb q j hq;refine⟨f,cur,e',?_,g2⟩;simp only[G'];rw[uO _ _ (hne hq)];exact g1
  case tinj=>exact hm.tinj
  case tnt=>exact hm.tnt
  case glob=>exact hm.glob.mono hcells
  case fresh =>
   intro b' hb';have:=bW hheap
   simp only[G'];rw[uO _ _ (by omega)];exact hm.fresh b' hb'
 .refine hL.1.trans ⟨rfl,rfl,rfl,nr0 _,hle.whole,hle.part,fun k hk=>?_,hle.nt,hle.tk,hle.ty⟩;simp only[G'];exact uO _ _ (by omega)
 .intro k hkb hg;have:=hL.2 k hkb hg
  simp only at this ⊢;rw[lO hkb] at this ⊢;exact this
section
variable {k sz:Nat} {es:List (List D)}
@[simp] theorem aPD(x:AV):uB k sz es x .bot:=.bot
@[simp] theorem aRD(x:D):uB k sz es (.d x) (.d x):=.same .d
@[simp] theorem aN4(n:Nat)(xs:List (List D))(o:Own):uB k sz es (.osl n xs o) (.osl n xs o):=.same (.osl fun _ _=>trivial)
@[simp] theorem aPW:uB k sz es (.msl k 0 es.length sz) (.d (.sl sz es)):=.msl
end
def kK(ok:List Int->Nat->Bool)(m:Nat):Nat->List Int->List (List Int)
 | 0,L=>[L]
 | r+1,L=>(List.range m).flatMap fun k=>if ok L k=true then kK ok m r (L++[(k:Int)]) else []
theorem aJs{α:Type}(n:Nat)(a b:List α):((a.take n)++b).take n=(a++b).take n:=by
 by_cases h:a.length<=n
 .rw[List.take_of_length_le h]
 .rw[List.take_append_of_le_length (by simp;omega),List.take_append_of_le_length (by omega),List.take_take,Nat.min_self]
theorem sO{α β:Type}(most:Nat)(g:List β->α->List β)(f:α->List β):∀(l:List α) (out:List β),(∀x∈l,∀out,out.length<=most->g out x=(out++f x).take most)->out.length<=most ->
  l.foldl g out=(out++l.flatMap f).take most
 | [],out,_,h=>by simp[List.take_of_length_le h]
 | x::l,out,hg,h=>by
  rw[List.foldl_cons,hg x (by simp) out h,sO most g f l _ (fun y hy=>hg y (by simp[hy])) (by simp;omega),aJs,List.flatMap_cons,List.append_assoc]
theorem rO{β:Type}{most:Nat}{out:List β}(h:out.length=most)(l:List β):(out++l).take most=out:=by
 rw[List.take_append_of_le_length (by omega),List.take_of_length_le (by omega)]
def gW(most:Nat)(ok:List Int->Nat->Bool)(m:Nat)(N:List Int):Nat->List Int->List Mo->List Mo
 | 0,E,out=>if out.length=most then out else out++[⟨N,E⟩]
 | r+1,E,out=>if out.length=most then out else (List.range m).foldl (fun out k=>if ok E k=true then gW most ok m N r (E++[(k:Int)]) out else out) out
theorem aBF(most:Nat)(ok:List Int->Nat->Bool)(m:Nat)(N:List Int):∀(r:Nat) (E:List Int) (out:List Mo),out.length<=most->gW most ok m N r E out=(out++(kK ok m r E).map (Mo.mk N)).take most
 | 0,E,out,h=>by
  unfold gW;split
  .rename_i e;rw[rO e]
  .rw[kK,List.map_cons,List.map_nil,List.take_of_length_le (by simp;omega)]
 | r+1,E,out,h=>by
  unfold gW;split
  .rename_i e;rw[rO e]
  .rw[sO most _ (fun k=>if ok E k=true then (kK ok m r (E++[(k:Int)])).map (Mo.mk N) else []) _ _ (fun k _ out ho=>by
    split
    .exact aBF most ok m N r _ out ho
    .rw[List.append_nil,List.take_of_length_le ho]) h,kK,List.map_flatMap]
   refine congrArg (fun f=>(out++List.flatMap f (List.range m)).take most) (funext fun k=>?_);split<;>simp
def yG(most:Nat)(okN pos:List Int->Nat->Bool)(mn:Nat)(okE:List Int->List Int->Nat->Bool)(me re:Nat):Nat->List Int->List Mo->List Mo
 | 0,N,out=>gW most (okE N) me N re [] out
 | r+1,N,out=>if out.length=most then out else (List.range mn).foldl (fun out k=>if okN N k=true then (if pos N k=true then yG most okN pos mn okE me re r (N++[(k:Int)]) out else out) else out) out
def rZ(okN:List Int->Nat->Bool)(mn:Nat)(okE:List Int->List Int->Nat->Bool)(me re:Nat)(r:Nat)(N:List Int):List Mo:=(kK okN mn r N).flatMap fun N=>(kK (okE N) me re []).map (Mo.mk N)
theorem aFV(okN:List Int->Nat->Bool)(mn:Nat)(okE:List Int->List Int->Nat->Bool)(me re:Nat)(N:List Int):rZ okN mn okE me re 0 N=(kK (okE N) me re []).map (Mo.mk N):=by simp[rZ,kK]
theorem aGN(okN:List Int->Nat->Bool)(mn:Nat)(okE:List Int->List Int->Nat->Bool)(me re:Nat)(r:Nat)(N:List Int):
  rZ okN mn okE me re (r+1) N=(List.range mn).flatMap fun k=>if okN N k=true then rZ okN mn okE me re r (N++[(k:Int)]) else []:=by
 unfold rZ;rw[kK,List.flatMap_assoc];congr 1
 funext k
 split<;>simp
theorem aA2(most:Nat)(okN pos:List Int->Nat->Bool)(mn:Nat)(okE:List Int->List Int->Nat->Bool)(me re:Nat)(P:List Int->Prop)(hP:∀N k,P N->k<mn->okN N k=true->P (N++[(k:Int)]))(hpos:∀r N k,P N->okN N k=true->pos N k=false->rZ okN mn okE me re r (N++[(k:Int)])=[]):∀(r:Nat) (N:List Int) (out:List Mo),P N->out.length<=most ->
  yG most okN pos mn okE me re r N out=(out++rZ okN mn okE me re r N).take most
 | 0,N,out,hN,h=>by rw[yG,aBF _ _ _ _ _ _ _ h,aFV]
 | r+1,N,out,hN,h=>by
  rw[yG,aGN];split
  .rename_i e;rw[rO e]
  .refine sO most _ _ _ _ (fun k hk out ho=>?_) h;have hk:=List.mem_range.1 hk;cases e:okN N k
   .simp[List.take_of_length_le ho]
   .simp only[if_true];cases e2:pos N k
    .simp only[Bool.false_eq_true,if_false];rw[hpos r N k hN e e2,List.append_nil,List.take_of_length_le ho]
    .simp only[if_true];exact aA2 most okN pos mn okE me re P hP hpos r _ out (hP N k hN hk e) ho
theorem mY{most:Nat}{ok:List Int->Nat->Bool}{m:Nat}{N:List Int}{r:Nat}{E:List Int}{out:List Mo}(h:out.length<=most):(gW most ok m N r E out).length<=most:=by
 rw[aBF _ _ _ _ _ _ _ h];simp;omega
theorem gZ{ok:List Int->Nat->Bool}{m:Nat}:∀{r:Nat} {L x:List Int},x∈kK ok m r L↔∃T:List Nat,T.length=r/\(∀k∈T,k<m)/\x=L++T.map (fun (k:Nat)=>(k:Int))/\∀i (h:i<T.length),ok (L++(T.take i).map (fun (k:Nat)=>(k:Int))) T[i]=true
 | 0,L,x=>by
  rw[kK,List.mem_singleton];constructor
  .rintro rfl;exact⟨[],rfl,by simp,by simp,fun i h=>by simp at h⟩
  .rintro⟨T,h1,_,h2,_⟩;have:T=[]:=List.eq_nil_of_length_eq_zero h1
   subst this;simpa using h2
 | r+1,L,x=>by
  rw[kK,List.mem_flatMap];constructor
  .rintro⟨k,hk,hx⟩;split at hx
   .rename_i hok;obtain⟨T,h1,h2,rfl,h4⟩:=gZ.1 hx;refine⟨k::T,by simp[h1],fun q hq=>?_,by simp,fun i hi=>?_⟩
    .rcases List.mem_cons.1 hq with rfl|hq
     .exact List.mem_range.1 hk
     .exact h2 q hq
    .cases i with
     | zero=>simpa using hok
     | succ i =>
      have:=h4 i (by simpa using hi)
      simpa using this
   .simp at hx
  .rintro⟨T,h1,h2,rfl,h4⟩;cases T with
   | nil=>simp at h1
   | cons k T =>
    refine⟨k,List.mem_range.2 (h2 k (by simp)),?_⟩;have h0:=h4 0 (by simp);simp only[List.take_zero,List.map_nil,List.append_nil,List.getElem_cons_zero] at h0;rw[if_pos h0];refine gZ.2 ⟨T,by simpa using h1,fun q hq=>h2 q (by simp[hq]),by simp,fun i hi=>?_⟩;have:=h4 (i+1) (by simpa using hi)
    simpa using this
structure Sr where
 t:Ty
 p:Gr
 g:Gr
 pt:Mo
 inj:Bool
 most:Nat
abbrev Sr.row(s:Sr)(out:List Mo)(own:Own):List AV:=[.d (nts s.t.nodes),.d (ets s.t.edges),.d (ints s.p.nodes),.d (AM.edges s.p.edges),.d (ints s.g.nodes),.d (AM.edges s.g.edges),.d (ints s.pt.nodes),.d (ints s.pt.edges),B s.inj,I s.most,.osl 2 (out.map fun m=>[ints m.nodes,ints m.edges]) own]
structure Sr.Ok (s:Sr):Prop where
 t:s.t.Fit
 tp:∀j,j<s.t.nodes.length->(s.t.nd j).par<j
 p:s.p.Fit
 g:s.g.Fit
 m:s.most<=1000000
 vp:∀e∈s.p.edges,0<=e.fr/\e.fr<s.p.nodes.length/\0<=e.to/\e.to<s.p.nodes.length
 pn:s.pt.nodes.length=s.p.nodes.length
 pe:s.pt.edges.length=s.p.edges.length
 np:∀n∈s.p.nodes,0<=n/\n<s.t.nodes.length
 ng:∀n∈s.g.nodes,0<=n/\n<s.t.nodes.length
def gvB(l:List Int)(i k:Nat):Bool:=if 0<=l.getD i 0 then decide (l.getD i 0=(k:Int)) else true
def usB(inj:Bool)(L:List Int)(k:Nat):Bool:=if inj=true then decide ((k:Int)∈L) else false
def Sr.okE(s:Sr)(N E:List Int)(k:Nat):Bool :=
 if gvB s.pt.edges E.length k=true then (if usB s.inj E k=true then false else decide (s.g.edges.getD k default=kT s.p N E.length)) else false
def Sr.okN(s:Sr)(N:List Int)(k:Nat):Bool :=
 if gvB s.pt.nodes N.length k=true then (if usB s.inj N k=true then false else isB s.t (s.g.nodes.getD k 0) (s.p.nodes.getD N.length 0)) else false
def QSr(s:Sr)(box:Bxs)(nb k:Nat)(tok:Tks)(nt:Nat)(own:Own)(out:List Mo)(v:AV)(m:bH):Prop :=
 v=.tup []/\∃own' tok' nt',m=⟨upd box k (some [s.row out own']),nb,tok',nt'⟩/\Adv tok nt own tok' nt' own'
structure aOr where
 i:Nat
 out:List Mo
 own:Own
 tok:Nat->Bool
 nt:Nat
def aNZ(s:Sr)(row:List AV)(l:List Int)(n:Int)(nb k:Nat)(box:Bxs)(tok:Tks)(nt:Nat)(i:Nat):AS :=
 ⟨tl [(0,.ptr k 0 0),(1,.d (ints l)),(2,I n),(7,I i)],lb nb box [],tok,nt⟩
def aO2(s:Sr)(l:List Int)(n:Nat)(i:Nat):Prop:=i<=l.length/\(s.inj=true->(n:Int)∉l.take i)
theorem aIM(s:Sr)(out:List Mo)(own:Own)(l:List Int)(n:Nat)(hl:l.length<=1000000)(box:Bxs)(nb k:Nat)(tok:Tks)(nt:Nat)(hk:box k=some [s.row out own]):
  aD prog 169 [.ptr k 0 0,.d (ints l),I n] ⟨box,nb,tok,nt⟩ fun v m=>v=B (usB s.inj l n)/\m=⟨box,nb,tok,nt⟩:=by
 obtain⟨N,hN⟩:∃N,usB s.inj l n=N:=⟨_,rfl⟩
 rw[hN];unfold usB at hN;refine sI func169 ntmps169 fun Hb Ht=>?_
 have hkn:=bC Hb hk;repeat first|simp[lO hkn,hk]|refine sR ?_
 refine sN ?_;refine sL (aNZ s (s.row out own) l n nb k box tok nt) (aO2 s l n) (fun i=>l.length-i) 0 ⟨Nat.zero_le _,by simp⟩ (wM (nr0 _) rfl (by simp[ToL,lk];exact aI (by rw[lO hkn,hk];simp)) (by simp[aC,lk])) ?_;rintro i S' ⟨hi,hok⟩ hS;simp only[aNZ] at hS;subst hS;have hw:=sW (i:=i) (by omega);cases e0:s.inj
 .rw[e0,if_neg (by simp)] at hN;by_cases hlt:i<l.length
  .try (simp[lO hkn,hk,hlt,e0])
   repeat ((first|refine sR ?_|refine sC ?_|refine sX ?_);simp[lO hkn,hk,hlt,e0])
   refine sT (sH Hb Ht ?_);simp[<-hN]
  .try (simp[lO hkn,hk,hlt,e0])
   repeat ((first|refine sR ?_|refine sC ?_|refine sX ?_);simp[lO hkn,hk,hlt,e0])
   refine sT (sH Hb Ht ?_);simp[<-hN]
 .rw[e0,if_pos rfl] at hN;have hok:=hok e0;by_cases hlt:i<l.length
  .by_cases e:l[i]=(n:Int)
   .have b:(l[i]==(n:Int))=true:=by simp[e]
    have hm:decide ((n:Int)∈l)=true:=by
     rw[<-e];simp
    rw[hm] at hN;try (simp[lO hkn,hk,hlt,e0,b])
    repeat ((first|refine sR ?_|refine sC ?_|refine sX ?_);simp[lO hkn,hk,hlt,e0,b])
    refine sT (sH Hb Ht ?_);simp[<-hN]
   .have b:(l[i]==(n:Int))=false:=by simp[e]
    have hno:(n:Int)∉l.take (i+1):=by
     rw[List.take_succ_eq_append_getElem hlt];simp only[List.mem_append,List.mem_singleton,not_or];exact⟨hok,fun h=>e h.symm⟩
    try (simp[lO hkn,hk,hlt,e0,b,hw])
    repeat ((first|refine sR ?_|refine sC ?_|refine sX ?_);simp[lO hkn,hk,hlt,e0,b,hw])
    refine sE ?_;exact⟨i+1,⟨hlt,fun _=>hno⟩,by omega,wM (nr0 _) rfl (by simp[ToL,lk];exact aI (by rw[lO hkn,hk];simp)) (by simp[aC,lk])⟩
  .have:i=l.length:=by omega
   subst this;rw[List.take_length] at hok;rw[decide_eq_false hok] at hN;try (simp[lO hkn,hk,e0])
   repeat ((first|refine sR ?_|refine sC ?_|refine sX ?_);simp[lO hkn,hk,e0])
   refine sT (sH Hb Ht ?_);simp[<-hN]
theorem E.ext3{e:E}{a b c:Int}(h1:e.ty=a)(h2:e.fr=b)(h3:e.to=c):e=⟨a,b,c⟩:=by
 cases e;simp at h1 h2 h3;simp[h1,h2,h3]
theorem dV{s:Sr}{out:List Mo}{own:Own}{box:Bxs}{k base:Nat}{p q:Nat->Prop}(hq:q=fun _=>True):∀k' rows,k'<base->(upd box k (some [s.row out own])) k'=some rows->box k'=some rows∨∀r∈rows,∀x∈r,bF p q x:=by
 subst hq;intro k' rows hk' hr;by_cases e:k'=k
 .subst e;rw[uS] at hr;cases hr;exact .inr (by simp)
 .rw[uO _ _ e] at hr;exact .inl hr
theorem Adv.tok1{tok:Nat->Bool}{nt:Nat}{own:Own}(h:own.liveP tok)(hl:∀t,tok t=true->t<nt):Adv tok nt own (upd tok nt true) (nt+1) own:=by
 refine⟨fun t ht _=>by rw[uO _ _ (by have:=hl t ht;omega)];exact ht,by omega,?_,.inl rfl,fun t ht=>?_⟩
 .cases own with
  | full=>trivial
  | tok t=>simp only[aCY] at h ⊢;rw[uO _ _ (by have:=hl t h;omega)];exact h
 .by_cases e:t=nt
  .omega
  .rw[uO _ _ e] at ht;have:=hl t ht;omega
theorem Adv.app3{tok:Nat->Bool}{nt:Nat}{own:Own}(h:own.liveP tok)(hl:∀t,tok t=true->t<nt):Adv tok nt own (upd (own.kill (upd (upd tok nt true) (nt+1) true)) (nt+1+1) true) (nt+1+1+1) (.tok (nt+1+1)):=by
 have a:=Adv.tok1 h hl;have b:=Adv.tok1 a.live a.lt;exact a.trans hl (b.trans a.lt (Adv.app b.live b.lt))
theorem aCq(s:Sr)(out:List Mo)(own:Own)(l:List Int)(n:Nat)(hl:l.length<=1000000)(box:Bxs)(k:Nat)(tok:Tks)(nt:Nat)(hk:box k=some [s.row out own]):
  cW prog 169 [.ptr k 0 0,.d (ints l),I n] box tok nt (B (usB s.inj l n)) tok nt :=
 fun box' nb he=>aIM s out own l n hl box' nb k tok nt (he k _ hk)
def Sr.stE(s:Sr)(N es:List Int)(n:Nat)(out:List Mo)(k:Nat):List Mo:=if s.okE N es k=true then gW (s.most+1) (s.okE N) s.g.edges.length N n (es++[(k:Int)]) out else out
def aOA(s:Sr)(N es:List Int)(nb k:Nat)(box:Bxs)(x:aOr):AS :=
 ⟨tl [(0,.ptr k 0 0),(1,.d (ints N)),(2,.d (ints es)),(6,I es.length),(7,.ptr (nb+7) 0 0),(8,I x.i)],
  lb nb (upd box k (some [s.row x.out x.own])) [(7,[[I (s.p.edges.getD es.length default).ty,I (s.p.edges.getD es.length default).fr,I (s.p.edges.getD es.length default).to]])],x.tok,x.nt⟩
set_option maxRecDepth 100000 in
theorem aGG(s:Sr)(h:s.Ok)(N:List Int)(hN:N.length=s.p.nodes.length):∀(n:Nat) (es:List Int) (out:List Mo) (own:Own) (box:Bxs) (nb k:Nat) (tok:Tks) (nt:Nat),es.length+n=s.p.edges.length->out.length<=s.most+1 ->
  box k=some [s.row out own]->own.liveP tok->aD prog 168 [.ptr k 0 0,.d (ints N),.d (ints es)] ⟨box,nb,tok,nt⟩ (QSr s box nb k tok nt own (gW (s.most+1) (s.okE N) s.g.edges.length N n es out)):=by
 intro n;induction n with
 | zero =>
  intro es out own box nb k tok nt hes ho hk hlive;have hself:box=upd box k (some [s.row out own]):=(cL box k _ hk).symm
  have hm:=h.m;have hpn:=h.p.n;have hpe:=h.p.e;refine sI func168 ntmps168 fun Hb Ht=>?_
  have hkn:=bC Hb hk;refine sR ?_;simp[lO hkn,hk];refine sC ?_;simp;refine⟨fun hbig=>?_,fun hsm=>?_⟩
  .refine sN ?_;refine AL.ret ?_;try simp only[AU]
   refine⟨by simp,(Fin.own (vs:=[]) (av:=.tup []) (by simp[aP,bI]) Hb rfl (nr0 _) (by simp)).mono fun v m hq=>⟨hq.1,own,tok,nt,?_,Adv.refl hlive Ht⟩⟩;have hbig':out.length=s.most+1:=by omega
   rw[hq.2,gW,if_pos hbig',<-hself]
  .have hsm':¬out.length=s.most+1:=by omega
   have hes':es.length=s.p.edges.length:=by omega
   refine sR ?_;simp[lO hkn,hk];refine sR ?_;simp[lO hkn,hk];refine sC ?_;simp;refine⟨fun _=>?_,fun hne=>absurd (by omega) hne⟩;refine sR ?_;simp[lO hkn,hk];have had:=Adv.app3 hlive Ht;refine⟨by omega,by omega,⟨by omega,(Adv.tok1 (Adv.tok1 hlive Ht).live (Adv.tok1 hlive Ht).lt).live⟩,?_⟩;simp only[uL hkn];refine sN ?_;refine AL.ret ?_;try simp only[AU]
   refine⟨by simp,(Fin.gen (vs:=[]) (av:=.tup []) (tok':=upd (own.kill (upd (upd tok nt true) (nt+1) true)) (nt+1+1) true) (nt':=nt+1+1+1) (by simp[aP,bI]) ?_ (by omega) (nr0 _) (fun t h=>⟨h,.inl rfl⟩) ?_ (by simp)).mono fun v m hq=>⟨hq.1,.tok (nt+1+1),_,nt+1+1+1,?_,had⟩⟩
   .rw[<-uL hkn,Hb]
   .intro k' rows hk' hr;by_cases e:k'=k
    .subst e;rw[uS] at hr;cases hr;exact .inr (by simp)
    .rw[uO _ _ e] at hr;exact .inl hr
   .rw[hq.2,gW,if_neg hsm'];simp[Sr.row,ints,rI]
 | succ n ih =>
  intro es out own box nb k tok nt hes ho hk hlive;have hself:box=upd box k (some [s.row out own]):=(cL box k _ hk).symm
  have hm:=h.m;have hpn:=h.p.n;have hpe:=h.p.e;have hgn:=h.g.n;have hge:=h.g.e;have hlt:es.length<s.p.edges.length:=by omega
  refine sI func168 ntmps168 fun Hb Ht=>?_
  have hkn:=bC Hb hk;refine sR ?_;simp[lO hkn,hk];refine sC ?_;simp;refine⟨fun hbig=>?_,fun hsm=>?_⟩
  .refine sN ?_;refine AL.ret ?_;try simp only[AU]
   refine⟨by simp,(Fin.own (vs:=[]) (av:=.tup []) (by simp[aP,bI]) Hb rfl (nr0 _) (by simp)).mono fun v m hq=>⟨hq.1,own,tok,nt,?_,Adv.refl hlive Ht⟩⟩;have hbig':out.length=s.most+1:=by omega
   rw[hq.2,gW,if_pos hbig',<-hself]
  .have hsm':¬out.length=s.most+1:=by omega
   refine sR ?_;simp[lO hkn,hk];refine sR ?_;simp[lO hkn,hk];refine sC ?_;simp;refine⟨fun heq=>absurd heq (by omega),fun _=>?_⟩;refine sR ?_;simp[lO hkn,hk,hlt];refine sR ?_;simp[lO hkn,hk];refine sN ?_;have hlb:∀loc,lb nb box loc=lb nb (upd box k (some [s.row out own])) loc:=fun loc=>by rw[<-hself]
   rw[hlb];refine sL (aOA s N es nb k box) (fun x=>x.i<=s.g.edges.length/\x.out=(List.range x.i).foldl (s.stE N es n) out/\x.out.length<=s.most+1/\Adv tok nt own x.tok x.nt x.own) (fun x=>s.g.edges.length-x.i)
    ⟨0,out,own,tok,nt⟩ ⟨Nat.zero_le _,rfl,ho,Adv.refl hlive Ht⟩ (aS.mk' (nr0 _) (by simp[ToL,lk,hlt];exact aI (by rw[lO hkn,uS];simp)) (by simp[aC,lk,hlt]) (dV rfl)) ?_
   rintro⟨i,out2,own2,tok2,nt2⟩ S ⟨hi,hout,ho2,hadv2⟩ hS;simp only[aOA] at hS hi hout ho2 hadv2;subst hS;have hw:IntKind.i64.wrap (↑i+1)=((i+1:Nat):Int):=by rw[aM (by omega) (by omega)];omega
   have hfold:(List.range (i+1)).foldl (s.stE N es n) out=s.stE N es n out2 i:=by
    rw[hout,List.range_succ,List.foldl_append];rfl
   refine sR ?_;simp[lO hkn,uS];refine sC ?_;simp;refine⟨fun hli=>?_,fun hge=>?_⟩
   .have hlp:es.length<s.pt.edges.length:=by rw[h.pe];exact hlt
    obtain⟨x1,x2,x3,x4⟩:=h.vp _ (List.getElem_mem hlt);have x2:s.p.edges[es.length].fr<N.length:=by omega
    have x4:s.p.edges[es.length].to<N.length:=by omega
    have y1:s.p.edges[es.length].fr.toNat<N.length:=by omega
    have y2:s.p.edges[es.length].to.toNat<N.length:=by omega
    refine sR ?_;simp[lO hkn,uS,hli];have hgi:s.g.edges.getD i default=s.g.edges[i]:=by simp[hli]
    have hpi:s.pt.edges.getD es.length 0=s.pt.edges[es.length]:=by simp[hlp]
    have hwx:kT s.p N es.length=⟨s.p.edges[es.length].ty,N[s.p.edges[es.length].fr.toNat],N[s.p.edges[es.length].to.toNat]⟩:=by simp[kT,hlt,y1,y2]
    have hused:=aCq s out2 own2 es i (by omega) (lb nb (upd box k (some [s.row out2 own2])) [(9,[[I s.g.edges[i].ty,I s.g.edges[i].fr,I s.g.edges[i].to]]),(9,[[I 0,I 0,I 0]]),(7,[[I s.p.edges[es.length].ty,I s.p.edges[es.length].fr,I s.p.edges[es.length].to]])]) k tok2 nt2 (by simp only[lO hkn,uS]);by_cases p01:0<=s.pt.edges[es.length]/\s.pt.edges[es.length]≠(i:Int)
    .obtain⟨p0,p1⟩:=p01;have b1:(s.pt.edges[es.length] != (i:Int))=true:=by simp[p1]
     have hok:s.okE N es i=false:=by simp[Sr.okE,gvB,hlp,p0,p1]
     refine sR ?_;simp[lO hkn,uS,hli,hlp,hlt,p0,b1];refine sC ?_;simp;refine sX ?_;simp only[AU,↓reduceIte];refine sR ?_;simp[hw];refine sE ?_;exact⟨⟨i+1,out2,own2,tok2,nt2⟩,⟨hli,by rw[hfold,Sr.stE,hok];simp,ho2,hadv2⟩,by simp only;omega,aS.mk' hadv2.le (by simp[ToL,lk,hlt];exact aI (by rw[lO hkn,uS];simp)) (by simp[aC,lk,hlt]) (dV rfl)⟩
    .have hgv:gvB s.pt.edges es.length i=true:=by
      unfold gvB;rw[hpi];by_cases p0:0<=s.pt.edges[es.length]
      .rw[if_pos p0];simp;by_cases p1:s.pt.edges[es.length]=(i:Int)
       .exact p1
       .exact absurd ⟨p0,p1⟩ p01
      .rw[if_neg p0]
     have hst:∀Q,(0<=s.pt.edges[es.length]->(s.pt.edges[es.length] != (i:Int))=false->Q)->(¬0<=s.pt.edges[es.length]->Q)->Q:=by
      intro Q h1 h2;by_cases p0:0<=s.pt.edges[es.length]
      .refine h1 p0 ?_;by_cases p1:s.pt.edges[es.length]=(i:Int)
       .simp[p1]
       .exact absurd ⟨p0,p1⟩ p01
      .exact h2 p0
     refine hst _ (fun p0 b1=>?_) (fun p0=>?_)
     .refine sR ?_;simp[lO hkn,uS,hli,hlp,hlt,p0,b1];refine aN.of_r hused ?_;cases hU:usB s.inj es i
      .by_cases c1:s.p.edges[es.length].ty=s.g.edges[i].ty
       .have d1:(s.p.edges[es.length].ty != s.g.edges[i].ty)=false:=by simp[c1]
        by_cases c2:s.g.edges[i].fr=N[s.p.edges[es.length].fr.toNat]
        .have d2:(s.g.edges[i].fr != N[s.p.edges[es.length].fr.toNat])=false:=by simp[c2]
         by_cases c3:s.g.edges[i].to=N[s.p.edges[es.length].to.toNat]
         .have d3:(s.g.edges[i].to != N[s.p.edges[es.length].to.toNat])=false:=by simp[c3]
          have hok:s.okE N es i=true:=by
           unfold Sr.okE;rw[hgv,hU,hgi,hwx];simp only[if_true,Bool.false_eq_true,if_false,decide_eq_true_eq];exact E.ext3 c1.symm c2 c3
          simp[lO hkn,uS,hli,hlp,hlt,x1,x2,x3,x4,y1,y2,p0,b1,d1,d2,d3];refine sC ?_;simp;refine sR ?_;simp[lO hkn,uS];refine⟨by omega,by omega,?_⟩;refine aN.data ?_;simp only[List.map,AV.asD];rw[eP];have had:=Adv.fresh hadv2.live hadv2.lt;refine aN.of_a (ih (es++[(i:Int)]) out2 own2 _ _ k _ _ (by simp;omega) ho2 (by simp only[lO hkn,uS]) had.live) ?_;rintro v m' ⟨rfl,own3,tok3,nt3,rfl,hadv⟩;simp[uL hkn,bD];have had3:Adv tok nt own tok3 nt3 own3:=hadv2.trans Ht (had.trans hadv2.lt hadv)
          clear hadv had;refine sR ?_;simp[hw];refine sE ?_;refine⟨⟨i+1,gW (s.most+1) (s.okE N) s.g.edges.length N n (es++[(i:Int)]) out2,own3,tok3,nt3⟩,⟨hli,by rw[hfold,Sr.stE,hok];simp,mY ho2,had3⟩,by simp only;omega,aS.mk' had3.le (by simp[ToL,lk,hlt];exact aI (by rw[lO hkn,uS];simp)) (by simp[aC,lk,hlt]) (dV rfl)⟩
         .have d3:(s.g.edges[i].to != N[s.p.edges[es.length].to.toNat])=true:=by simp[c3]
          have hok:s.okE N es i=false:=by
           unfold Sr.okE;rw[hgv,hU,hgi,hwx];exact decide_eq_false fun h=>c3 (congrArg E.to h)
          simp[lO hkn,uS,hli,hlp,hlt,x1,x2,x3,x4,y1,y2,p0,b1,d1,d2,d3];refine sC ?_;simp;refine sX ?_;simp only[AU,↓reduceIte];refine sR ?_;simp[hw];refine sE ?_;exact⟨⟨i+1,out2,own2,tok2,nt2⟩,⟨hli,by rw[hfold,Sr.stE,hok];simp,ho2,hadv2⟩,by simp only;omega,aS.mk' hadv2.le (by simp[ToL,lk,hlt];exact aI (by rw[lO hkn,uS];simp)) (by simp[aC,lk,hlt]) (dV rfl)⟩
        .have d2:(s.g.edges[i].fr != N[s.p.edges[es.length].fr.toNat])=true:=by simp[c2]
         have hok:s.okE N es i=false:=by
          unfold Sr.okE;rw[hgv,hU,hgi,hwx];exact decide_eq_false fun h=>c2 (congrArg E.fr h)
         simp[lO hkn,uS,hli,hlp,hlt,x1,x2,x3,x4,y1,y2,p0,b1,d1,d2];refine sC ?_;simp;refine sX ?_;simp only[AU,↓reduceIte];refine sR ?_;simp[hw];refine sE ?_;exact⟨⟨i+1,out2,own2,tok2,nt2⟩,⟨hli,by rw[hfold,Sr.stE,hok];simp,ho2,hadv2⟩,by simp only;omega,aS.mk' hadv2.le (by simp[ToL,lk,hlt];exact aI (by rw[lO hkn,uS];simp)) (by simp[aC,lk,hlt]) (dV rfl)⟩
       .have d1:(s.p.edges[es.length].ty != s.g.edges[i].ty)=true:=by simp[c1]
        have hok:s.okE N es i=false:=by
         unfold Sr.okE;rw[hgv,hU,hgi,hwx];exact decide_eq_false fun h=>c1 (congrArg E.ty h).symm
        simp[lO hkn,uS,hli,hlp,hlt,x1,x2,x3,x4,y1,y2,p0,b1,d1];refine sC ?_;simp;refine sX ?_;simp only[AU,↓reduceIte];refine sR ?_;simp[hw];refine sE ?_;exact⟨⟨i+1,out2,own2,tok2,nt2⟩,⟨hli,by rw[hfold,Sr.stE,hok];simp,ho2,hadv2⟩,by simp only;omega,aS.mk' hadv2.le (by simp[ToL,lk,hlt];exact aI (by rw[lO hkn,uS];simp)) (by simp[aC,lk,hlt]) (dV rfl)⟩
      .have hok:s.okE N es i=false:=by simp[Sr.okE,hgv,hU]
       simp[lO hkn,uS,hli,hlp,hlt,x1,x2,x3,x4,y1,y2,p0,b1];refine sC ?_;simp;refine sX ?_;simp only[AU,↓reduceIte];refine sR ?_;simp[hw];refine sE ?_;exact⟨⟨i+1,out2,own2,tok2,nt2⟩,⟨hli,by rw[hfold,Sr.stE,hok];simp,ho2,hadv2⟩,by simp only;omega,aS.mk' hadv2.le (by simp[ToL,lk,hlt];exact aI (by rw[lO hkn,uS];simp)) (by simp[aC,lk,hlt]) (dV rfl)⟩
     .refine sR ?_;simp[lO hkn,uS,hli,hlp,hlt,p0];refine aN.of_r hused ?_;cases hU:usB s.inj es i
      .by_cases c1:s.p.edges[es.length].ty=s.g.edges[i].ty
       .have d1:(s.p.edges[es.length].ty != s.g.edges[i].ty)=false:=by simp[c1]
        by_cases c2:s.g.edges[i].fr=N[s.p.edges[es.length].fr.toNat]
        .have d2:(s.g.edges[i].fr != N[s.p.edges[es.length].fr.toNat])=false:=by simp[c2]
         by_cases c3:s.g.edges[i].to=N[s.p.edges[es.length].to.toNat]
         .have d3:(s.g.edges[i].to != N[s.p.edges[es.length].to.toNat])=false:=by simp[c3]
          have hok:s.okE N es i=true:=by
           unfold Sr.okE;rw[hgv,hU,hgi,hwx];simp only[if_true,Bool.false_eq_true,if_false,decide_eq_true_eq];exact E.ext3 c1.symm c2 c3
          simp[lO hkn,uS,hli,hlp,hlt,x1,x2,x3,x4,y1,y2,p0,d1,d2,d3];refine sC ?_;simp;refine sR ?_;simp[lO hkn,uS];refine⟨by omega,by omega,?_⟩;refine aN.data ?_;simp only[List.map,AV.asD];rw[eP];have had:=Adv.fresh hadv2.live hadv2.lt;refine aN.of_a (ih (es++[(i:Int)]) out2 own2 _ _ k _ _ (by simp;omega) ho2 (by simp only[lO hkn,uS]) had.live) ?_;rintro v m' ⟨rfl,own3,tok3,nt3,rfl,hadv⟩;simp[uL hkn,bD];have had3:Adv tok nt own tok3 nt3 own3:=hadv2.trans Ht (had.trans hadv2.lt hadv)
          clear hadv had;refine sR ?_;simp[hw];refine sE ?_;refine⟨⟨i+1,gW (s.most+1) (s.okE N) s.g.edges.length N n (es++[(i:Int)]) out2,own3,tok3,nt3⟩,⟨hli,by rw[hfold,Sr.stE,hok];simp,mY ho2,had3⟩,by simp only;omega,aS.mk' had3.le (by simp[ToL,lk,hlt];exact aI (by rw[lO hkn,uS];simp)) (by simp[aC,lk,hlt]) (dV rfl)⟩
         .have d3:(s.g.edges[i].to != N[s.p.edges[es.length].to.toNat])=true:=by simp[c3]
          have hok:s.okE N es i=false:=by
           unfold Sr.okE;rw[hgv,hU,hgi,hwx];exact decide_eq_false fun h=>c3 (congrArg E.to h)
          simp[lO hkn,uS,hli,hlp,hlt,x1,x2,x3,x4,y1,y2,p0,d1,d2,d3];refine sC ?_;simp;refine sX ?_;simp only[AU,↓reduceIte];refine sR ?_;simp[hw];refine sE ?_;exact⟨⟨i+1,out2,own2,tok2,nt2⟩,⟨hli,by rw[hfold,Sr.stE,hok];simp,ho2,hadv2⟩,by simp only;omega,aS.mk' hadv2.le (by simp[ToL,lk,hlt];exact aI (by rw[lO hkn,uS];simp)) (by simp[aC,lk,hlt]) (dV rfl)⟩
        .have d2:(s.g.edges[i].fr != N[s.p.edges[es.length].fr.toNat])=true:=by simp[c2]
         have hok:s.okE N es i=false:=by
          unfold Sr.okE;rw[hgv,hU,hgi,hwx];exact decide_eq_false fun h=>c2 (congrArg E.fr h)
         simp[lO hkn,uS,hli,hlp,hlt,x1,x2,x3,x4,y1,y2,p0,d1,d2];refine sC ?_;simp;refine sX ?_;simp only[AU,↓reduceIte];refine sR ?_;simp[hw];refine sE ?_;exact⟨⟨i+1,out2,own2,tok2,nt2⟩,⟨hli,by rw[hfold,Sr.stE,hok];simp,ho2,hadv2⟩,by simp only;omega,aS.mk' hadv2.le (by simp[ToL,lk,hlt];exact aI (by rw[lO hkn,uS];simp)) (by simp[aC,lk,hlt]) (dV rfl)⟩
       .have d1:(s.p.edges[es.length].ty != s.g.edges[i].ty)=true:=by simp[c1]
        have hok:s.okE N es i=false:=by
         unfold Sr.okE;rw[hgv,hU,hgi,hwx];exact decide_eq_false fun h=>c1 (congrArg E.ty h).symm
        simp[lO hkn,uS,hli,hlp,hlt,x1,x2,x3,x4,y1,y2,p0,d1];refine sC ?_;simp;refine sX ?_;simp only[AU,↓reduceIte];refine sR ?_;simp[hw];refine sE ?_;exact⟨⟨i+1,out2,own2,tok2,nt2⟩,⟨hli,by rw[hfold,Sr.stE,hok];simp,ho2,hadv2⟩,by simp only;omega,aS.mk' hadv2.le (by simp[ToL,lk,hlt];exact aI (by rw[lO hkn,uS];simp)) (by simp[aC,lk,hlt]) (dV rfl)⟩
      .have hok:s.okE N es i=false:=by simp[Sr.okE,hgv,hU]
       simp[lO hkn,uS,hli,hlp,hlt,x1,x2,x3,x4,y1,y2,p0];refine sC ?_;simp;refine sX ?_;simp only[AU,↓reduceIte];refine sR ?_;simp[hw];refine sE ?_;exact⟨⟨i+1,out2,own2,tok2,nt2⟩,⟨hli,by rw[hfold,Sr.stE,hok];simp,ho2,hadv2⟩,by simp only;omega,aS.mk' hadv2.le (by simp[ToL,lk,hlt];exact aI (by rw[lO hkn,uS];simp)) (by simp[aC,lk,hlt]) (dV rfl)⟩
   .refine sX ?_;simp only[AU,↓reduceIte];have hin:i=s.g.edges.length:=by omega
    subst hin;refine sE ?_;refine⟨by simp,(Fin.gen (vs:=[]) (av:=.tup []) (tok':=tok2) (nt':=nt2) (by simp[aP,bI]) ?_ hadv2.le (nr0 _) (fun t h=>⟨h,.inl rfl⟩) (dV (by simp)) (by simp)).mono fun v m hq=>⟨hq.1,own2,tok2,nt2,?_,hadv2⟩⟩
    .rw[<-uL hkn,Hb]
    .rw[hq.2,gW,if_neg hsm',hout];rfl
def Sr.eqE(s:Sr)(N:List Int)(i k:Nat):Bool:=decide (s.g.edges.getD k default=kT s.p N i)
def Sr.anE(s:Sr)(N:List Int)(i k:Nat):Bool:=(List.range k).any (s.eqE N i)
def Sr.fitE(s:Sr)(N:List Int)(i:Nat):Bool :=
 if (N.length:Int)<=(s.p.edges.getD i default).fr then true else if (N.length:Int)<=(s.p.edges.getD i default).to then true else s.anE N i s.g.edges.length
def Sr.fit(s:Sr)(N:List Int):Bool:=(List.range s.p.edges.length).all (s.fitE N)
theorem Sr.fit_false{s:Sr}{N:List Int}{i:Nat}(hi:i<s.p.edges.length)(h:s.fitE N i=false):s.fit N=false:=by
 unfold Sr.fit;rw[List.all_eq_false];exact⟨i,List.mem_range.2 hi,by simp[h]⟩
theorem Sr.fit_true{s:Sr}{N:List Int}(h:∀i,i<s.p.edges.length->s.fitE N i=true):s.fit N=true:=by
 unfold Sr.fit;rw[List.all_eq_true];exact fun i hi=>h i (List.mem_range.1 hi)
theorem Sr.anE_succ(s:Sr)(N:List Int)(i k:Nat):s.anE N i (k+1)=(s.anE N i k||s.eqE N i k):=by
 unfold Sr.anE;rw[List.range_succ,List.any_append];simp
def aOb(s:Sr)(N:List Int)(nb k:Nat)(box:Bxs)(tok:Tks)(nt:Nat)(i:Nat):AS :=
 ⟨tl [(0,.ptr k 0 0),(1,.d (ints N)),(5,I i)],lb nb box [],tok,nt⟩
def aNK(s:Sr)(N:List Int)(nb k:Nat)(box:Bxs)(tok:Tks)(nt:Nat)(i:Nat)(q:Nat):AS :=
 ⟨tl [(0,.ptr k 0 0),(1,.d (ints N)),(5,I i),(6,.ptr (nb+6) 0 0),(7,B (s.anE N i q)),(8,I q)],
  lb nb box [(6,[[I (s.p.edges.getD i default).ty,I (s.p.edges.getD i default).fr,I (s.p.edges.getD i default).to]])],tok,nt⟩
set_option maxRecDepth 100000 in
theorem aG1(s:Sr)(h:s.Ok)(N:List Int)(hNl:N.length<=s.p.nodes.length)(out:List Mo)(own:Own)(box:Bxs)(nb k:Nat)(tok:Tks)(nt:Nat)(hk:box k=some [s.row out own]):
  aD prog 167 [.ptr k 0 0,.d (ints N)] ⟨box,nb,tok,nt⟩ fun v m=>v=B (s.fit N)/\m=⟨box,nb,tok,nt⟩:=by
 obtain⟨R,hR⟩:∃R,s.fit N=R:=⟨_,rfl⟩
 rw[hR];have hpn:=h.p.n;have hpe:=h.p.e;have hgn:=h.g.n;have hge:=h.g.e;refine sI func167 ntmps167 fun Hb Ht=>?_
 have hkn:=bC Hb hk;repeat first|simp[lO hkn,hk]|refine sR ?_
 refine sN ?_;refine sL (aOb s N nb k box tok nt) (fun i=>i<=s.p.edges.length/\∀j,j<i->s.fitE N j=true) (fun i=>s.p.edges.length-i) 0 ⟨Nat.zero_le _,fun j hj=>absurd hj (Nat.not_lt_zero _)⟩ (wM (nr0 _) rfl (by simp[ToL,lk];exact aI (by rw[lO hkn,hk];simp)) (by simp[aC,lk])) ?_;rintro i S' ⟨hi,hall⟩ hS;simp only[aOb] at hS;subst hS;have hw:=sW (i:=i) (by omega);by_cases hlt:i<s.p.edges.length
 .obtain⟨x1,x2,x3,x4⟩:=h.vp _ (List.getElem_mem hlt);have hgd:s.p.edges.getD i default=s.p.edges[i]:=by simp[hlt]
  by_cases a1:(N.length:Int)<=s.p.edges[i].fr
  .have hf:s.fitE N i=true:=by unfold Sr.fitE;rw[hgd,if_pos a1]
   try (simp[lO hkn,hk,hlt,a1,hw])
   repeat ((first|refine sR ?_|refine sC ?_|refine sX ?_);simp[lO hkn,hk,hlt,a1,hw])
   refine sE ?_;exact⟨i+1,⟨hlt,fun j hj=>(Nat.lt_or_ge j i).elim (hall j) fun hh=>by rw[show j=i by omega];exact hf⟩,by omega,wM (nr0 _) rfl (by simp[ToL,lk];exact aI (by rw[lO hkn,hk];simp)) (by simp[aC,lk])⟩
  .by_cases a2:(N.length:Int)<=s.p.edges[i].to
   .have hf:s.fitE N i=true:=by unfold Sr.fitE;rw[hgd,if_neg a1,if_pos a2]
    try (simp[lO hkn,hk,hlt,a1,a2,hw])
    repeat ((first|refine sR ?_|refine sC ?_|refine sX ?_);simp[lO hkn,hk,hlt,a1,a2,hw])
    refine sE ?_;exact⟨i+1,⟨hlt,fun j hj=>(Nat.lt_or_ge j i).elim (hall j) fun hh=>by rw[show j=i by omega];exact hf⟩,by omega,wM (nr0 _) rfl (by simp[ToL,lk];exact aI (by rw[lO hkn,hk];simp)) (by simp[aC,lk])⟩
   .have hf0:s.fitE N i=s.anE N i s.g.edges.length:=by unfold Sr.fitE;rw[hgd,if_neg a1,if_neg a2]
    have z2:s.p.edges[i].fr<N.length:=by omega
    have z4:s.p.edges[i].to<N.length:=by omega
    have y1:s.p.edges[i].fr.toNat<N.length:=by omega
    have y2:s.p.edges[i].to.toNat<N.length:=by omega
    have hwx:kT s.p N i=⟨s.p.edges[i].ty,N[s.p.edges[i].fr.toNat],N[s.p.edges[i].to.toNat]⟩:=by simp[kT,hlt,y1,y2]
    try (simp[lO hkn,hk,hlt,a1,a2])
    repeat ((first|refine sR ?_|refine sC ?_|refine sX ?_);simp[lO hkn,hk,hlt,a1,a2])
    refine sN ?_;refine sL (aNK s N nb k box tok nt i) (fun q=>q<=s.g.edges.length) (fun q=>s.g.edges.length-q) 0 (Nat.zero_le _) (wM (nr0 _) rfl (by simp[ToL,lk,hlt,Sr.anE];exact aI (by rw[lO hkn,hk];simp)) (by simp[aC,lk,hlt])) ?_;rintro q S' hq0 hS;simp only[aNK] at hS;subst hS;have hwq:=sW (i:=q) (by omega);by_cases hq:q<s.g.edges.length
    .have hgi:s.g.edges.getD q default=s.g.edges[q]:=by simp[hq]
     have hs:=s.anE_succ N i q;cases eo:s.anE N i q
     .simp only[eo,Bool.false_or] at hs;unfold Sr.eqE at hs;rw[hgi,hwx] at hs;by_cases c1:s.p.edges[i].ty=s.g.edges[q].ty
      .have d1:(s.p.edges[i].ty==s.g.edges[q].ty)=true:=by simp[c1]
       by_cases c2:s.g.edges[q].fr=N[s.p.edges[i].fr.toNat]
       .have d2:(s.g.edges[q].fr==N[s.p.edges[i].fr.toNat])=true:=by simp[c2]
        by_cases c3:s.g.edges[q].to=N[s.p.edges[i].to.toNat]
        .have d3:(s.g.edges[q].to==N[s.p.edges[i].to.toNat])=true:=by simp[c3]
         rw[decide_eq_true (E.ext3 c1.symm c2 c3)] at hs;try (simp[lO hkn,hk,hlt,hq,hwq,x1,x3,z2,z4,y1,y2,eo,d1,d2,d3])
         repeat ((first|refine sR ?_|refine sC ?_|refine sX ?_);simp[lO hkn,hk,hlt,hq,hwq,x1,x3,z2,z4,y1,y2,eo,d1,d2,d3])
         refine sE ?_;exact⟨q+1,hq,by omega,wM (nr0 _) rfl (by simp[ToL,lk,hlt,hs];exact aI (by rw[lO hkn,hk];simp)) (by simp[aC,lk,hlt])⟩
        .have d3:(s.g.edges[q].to==N[s.p.edges[i].to.toNat])=false:=by simp[c3]
         rw[decide_eq_false fun h=>c3 (congrArg E.to h)] at hs;try (simp[lO hkn,hk,hlt,hq,hwq,x1,x3,z2,z4,y1,y2,eo,d1,d2,d3])
         repeat ((first|refine sR ?_|refine sC ?_|refine sX ?_);simp[lO hkn,hk,hlt,hq,hwq,x1,x3,z2,z4,y1,y2,eo,d1,d2,d3])
         refine sE ?_;exact⟨q+1,hq,by omega,wM (nr0 _) rfl (by simp[ToL,lk,hlt,hs];exact aI (by rw[lO hkn,hk];simp)) (by simp[aC,lk,hlt])⟩
       .have d2:(s.g.edges[q].fr==N[s.p.edges[i].fr.toNat])=false:=by simp[c2]
        rw[decide_eq_false fun h=>c2 (congrArg E.fr h)] at hs;try (simp[lO hkn,hk,hlt,hq,hwq,x1,x3,z2,z4,y1,y2,eo,d1,d2])
        repeat ((first|refine sR ?_|refine sC ?_|refine sX ?_);simp[lO hkn,hk,hlt,hq,hwq,x1,x3,z2,z4,y1,y2,eo,d1,d2])
        refine sE ?_;exact⟨q+1,hq,by omega,wM (nr0 _) rfl (by simp[ToL,lk,hlt,hs];exact aI (by rw[lO hkn,hk];simp)) (by simp[aC,lk,hlt])⟩
      .have d1:(s.p.edges[i].ty==s.g.edges[q].ty)=false:=by simp[c1]
       rw[decide_eq_false (p:=s.g.edges[q]=⟨s.p.edges[i].ty,N[s.p.edges[i].fr.toNat],N[s.p.edges[i].to.toNat]⟩) fun h=>c1 (congrArg E.ty h).symm] at hs;try (simp[lO hkn,hk,hlt,hq,hwq,x1,x3,z2,z4,y1,y2,eo,d1])
       repeat ((first|refine sR ?_|refine sC ?_|refine sX ?_);simp[lO hkn,hk,hlt,hq,hwq,x1,x3,z2,z4,y1,y2,eo,d1])
       refine sE ?_;exact⟨q+1,hq,by omega,wM (nr0 _) rfl (by simp[ToL,lk,hlt,hs];exact aI (by rw[lO hkn,hk];simp)) (by simp[aC,lk,hlt])⟩
     .simp only[eo,Bool.true_or] at hs;try (simp[lO hkn,hk,hlt,hq,hwq,x1,x3,z2,z4,y1,y2,eo])
      repeat ((first|refine sR ?_|refine sC ?_|refine sX ?_);simp[lO hkn,hk,hlt,hq,hwq,x1,x3,z2,z4,y1,y2,eo])
      refine sE ?_;exact⟨q+1,hq,by omega,wM (nr0 _) rfl (by simp[ToL,lk,hlt,hs];exact aI (by rw[lO hkn,hk];simp)) (by simp[aC,lk,hlt])⟩
    .have:q=s.g.edges.length:=by omega
     subst this;cases eo:s.anE N i s.g.edges.length
     .rw[Sr.fit_false hlt (hf0.trans eo)] at hR;try (simp[lO hkn,hk,hlt,eo])
      repeat ((first|refine sR ?_|refine sC ?_|refine sX ?_);simp[lO hkn,hk,hlt,eo])
      refine sT (sH Hb Ht ?_);simp[<-hR]
     .have hf:=hf0.trans eo;try (simp[lO hkn,hk,hlt,eo,hw])
      repeat ((first|refine sR ?_|refine sC ?_|refine sX ?_);simp[lO hkn,hk,hlt,eo,hw])
      refine sE ?_;exact⟨i+1,⟨hlt,fun j hj=>(Nat.lt_or_ge j i).elim (hall j) fun hh=>by rw[show j=i by omega];exact hf⟩,by omega,wM (nr0 _) rfl (by simp[ToL,lk];exact aI (by rw[lO hkn,hk];simp)) (by simp[aC,lk])⟩
 .have:i=s.p.edges.length:=by omega
  subst this;rw[Sr.fit_true hall] at hR;try (simp[lO hkn,hk])
  repeat ((first|refine sR ?_|refine sC ?_|refine sX ?_);simp[lO hkn,hk])
  refine sT (sH Hb Ht ?_);simp[<-hR]
def Sr.fnR(s:Sr):Nat->List Int->List Mo->List Mo
 | 0,N,out=>if out.length=s.most+1 then out else if s.fit N=true then gW (s.most+1) (s.okE N) s.g.edges.length N s.p.edges.length [] out else out
 | r+1,N,out=>if out.length=s.most+1 then out else if s.fit N=true then (List.range s.g.nodes.length).foldl (fun out k=>if s.okN N k=true then s.fnR r (N++[(k:Int)]) out else out) out else out
abbrev Sr.fnN(s:Sr):Nat->List Int->List Mo->List Mo:=yG (s.most+1) s.okN (fun N k=>s.fit (N++[(k:Int)])) s.g.nodes.length s.okE s.g.edges.length s.p.edges.length
theorem Sr.fnR_eq(s:Sr):∀(r:Nat) (N:List Int) (out:List Mo),s.fnR r N out=if s.fit N=true then s.fnN r N out else out
 | 0,N,out=>by
  unfold Sr.fnR Sr.fnN yG;by_cases h:out.length=s.most+1
  .rw[if_pos h];cases s.p.edges.length<;>simp[gW,h]
  .rw[if_neg h]
 | r+1,N,out=>by
  unfold Sr.fnR Sr.fnN yG;by_cases h:out.length=s.most+1
  .rw[if_pos h,if_pos h];simp
  .rw[if_neg h,if_neg h];have e:(fun (out:List Mo) (k:Nat)=>if s.okN N k=true then s.fnR r (N++[(k:Int)]) out else out)=fun out k=>if s.okN N k=true then (if s.fit (N++[(k:Int)])=true then s.fnN r (N++[(k:Int)]) out else out) else out:=by
    funext out k
    rw[Sr.fnR_eq s r]
   rw[e]
theorem Sr.fnR_len{s:Sr}:∀{r:Nat} {N:List Int} {out:List Mo},out.length<=s.most+1->(s.fnR r N out).length<=s.most+1
 | 0,N,out,h=>by
  unfold Sr.fnR;split
  .exact h
  .split
   .exact mY h
   .exact h
 | r+1,N,out,h=>by
  unfold Sr.fnR;split
  .exact h
  .split
   .have key:∀(l:List Nat) (out:List Mo),out.length<=s.most+1->(l.foldl (fun out k=>if s.okN N k=true then s.fnR r (N++[(k:Int)]) out else out) out).length<=s.most+1:=by
     intro l;induction l with
     | nil=>exact fun _ h=>h
     | cons x l ih =>
      intro out h;rw[List.foldl_cons];refine ih _ ?_;split
      .exact Sr.fnR_len h
      .exact h
    exact key _ _ h
   .exact h
theorem aDx(s:Sr)(h:s.Ok)(N:List Int)(hNl:N.length<=s.p.nodes.length)(out:List Mo)(own:Own)(box:Bxs)(k:Nat)(tok:Tks)(nt:Nat)(hk:box k=some [s.row out own]):
  cW prog 167 [.ptr k 0 0,.d (ints N)] box tok nt (B (s.fit N)) tok nt :=
 fun box' nb he=>aG1 s h N hNl out own box' nb k tok nt (he k _ hk)
def Sr.stN(s:Sr)(N:List Int)(r:Nat)(out:List Mo)(k:Nat):List Mo:=if s.okN N k=true then s.fnR r (N++[(k:Int)]) out else out
def aLg(s:Sr)(N:List Int)(nb k:Nat)(box:Bxs)(x:aOr):AS :=
 ⟨tl [(0,.ptr k 0 0),(1,.d (ints N)),(4,I N.length),(5,I x.i)],lb nb (upd box k (some [s.row x.out x.own])) [],x.tok,x.nt⟩
set_option maxRecDepth 100000 in
theorem aF4(s:Sr)(h:s.Ok):∀(r:Nat) (N:List Int) (out:List Mo) (own:Own) (box:Bxs) (nb k:Nat) (tok:Tks) (nt:Nat),N.length+r=s.p.nodes.length->out.length<=s.most+1 ->
  box k=some [s.row out own]->own.liveP tok->aD prog 110 [.ptr k 0 0,.d (ints N)] ⟨box,nb,tok,nt⟩ (QSr s box nb k tok nt own (s.fnR r N out)):=by
 intro r;have hm:=h.m;have hpn:=h.p.n;have hpe:=h.p.e;have hgn:=h.g.n;have hge:=h.g.e;induction r with
 | zero =>
  intro N out own box nb k tok nt hN ho hk hlive;have hself:box=upd box k (some [s.row out own]):=(cL box k _ hk).symm
  have hf:=aDx s h N (by omega) out own box k tok nt hk;have hN':(N.length:Int)=s.p.nodes.length:=by omega
  refine sI func110 ntmps110 fun Hb Ht=>?_
  have hkn:=bC Hb hk;by_cases hbig:s.most<out.length
  .have hbig':out.length=s.most+1:=by omega
   try (simp[lO hkn,hk,hbig])
   repeat ((first|refine sR ?_|refine sC ?_|refine sX ?_);simp[lO hkn,hk,hbig])
   refine sN ?_;refine AL.ret ?_;try simp only[AU]
   refine⟨by simp,(Fin.own (vs:=[]) (av:=.tup []) (by simp[aP,bI]) Hb rfl (nr0 _) (by simp)).mono fun v m hq=>⟨hq.1,own,tok,nt,?_,Adv.refl hlive Ht⟩⟩;rw[hq.2,Sr.fnR,if_pos hbig',<-hself]
  .have hsm':¬out.length=s.most+1:=by omega
   have hf':=hf.ext ((Ext.refl box).lb Hb [])
   refine sR ?_;simp[lO hkn,hk,hbig];refine aN.of_r hf' ?_;cases hR:s.fit N
   .try (simp[lO hkn,hk,hbig])
    repeat ((first|refine sR ?_|refine sC ?_|refine sX ?_);simp[lO hkn,hk,hbig])
    refine sN ?_;refine AL.ret ?_;try simp only[AU]
    refine⟨by simp,(Fin.own (vs:=[]) (av:=.tup []) (by simp[aP,bI]) Hb rfl (nr0 _) (by simp)).mono fun v m hq=>⟨hq.1,own,tok,nt,?_,Adv.refl hlive Ht⟩⟩;rw[hq.2,Sr.fnR,if_neg hsm',hR,if_neg (by simp),<-hself]
   .have b1:((N.length:Int)==s.p.nodes.length)=true:=by simp[hN']
    try (simp[lO hkn,hk,hbig,b1])
    repeat ((first|refine sR ?_|refine sC ?_|refine sX ?_);simp[lO hkn,hk,hbig,b1])
    refine aN.sub (args':=[.ptr k 0 0,.d (ints N),.d (ints [])]) ⟨Sub.refl _,Sub.refl _,Sub.nil _ _ _,trivial⟩ ?_;refine aN.of_a (aGG s h N (by omega) s.p.edges.length [] out own _ _ k _ _ (by simp) ho (by simp only[lO hkn,hk]) hlive) ?_;rintro v m' ⟨rfl,own3,tok3,nt3,rfl,hadv⟩;simp[uL hkn,bD];refine sN ?_;refine AL.ret ?_;try simp only[AU]
    refine⟨by simp,(Fin.gen (vs:=[]) (av:=.tup []) (tok':=tok3) (nt':=nt3) (by simp[aP,bI]) ?_ hadv.le (nr0 _) (fun t h=>⟨h,.inl rfl⟩) (dV (by simp)) (by simp)).mono fun v m hq=>⟨hq.1,own3,tok3,nt3,?_,hadv⟩⟩
    .rw[<-uL hkn,Hb]
    .rw[hq.2,Sr.fnR,if_neg hsm',hR,if_pos rfl]
 | succ r ih =>
  intro N out own box nb k tok nt hN ho hk hlive;have hself:box=upd box k (some [s.row out own]):=(cL box k _ hk).symm
  have hf:=aDx s h N (by omega) out own box k tok nt hk;have hlt:N.length<s.p.nodes.length:=by omega
  refine sI func110 ntmps110 fun Hb Ht=>?_
  have hkn:=bC Hb hk;by_cases hbig:s.most<out.length
  .have hbig':out.length=s.most+1:=by omega
   try (simp[lO hkn,hk,hbig])
   repeat ((first|refine sR ?_|refine sC ?_|refine sX ?_);simp[lO hkn,hk,hbig])
   refine sN ?_;refine AL.ret ?_;try simp only[AU]
   refine⟨by simp,(Fin.own (vs:=[]) (av:=.tup []) (by simp[aP,bI]) Hb rfl (nr0 _) (by simp)).mono fun v m hq=>⟨hq.1,own,tok,nt,?_,Adv.refl hlive Ht⟩⟩;rw[hq.2,Sr.fnR,if_pos hbig',<-hself]
  .have hsm':¬out.length=s.most+1:=by omega
   have hf':=hf.ext ((Ext.refl box).lb Hb [])
   refine sR ?_;simp[lO hkn,hk,hbig];refine aN.of_r hf' ?_;cases hR:s.fit N
   .try (simp[lO hkn,hk,hbig])
    repeat ((first|refine sR ?_|refine sC ?_|refine sX ?_);simp[lO hkn,hk,hbig])
    refine sN ?_;refine AL.ret ?_;try simp only[AU]
    refine⟨by simp,(Fin.own (vs:=[]) (av:=.tup []) (by simp[aP,bI]) Hb rfl (nr0 _) (by simp)).mono fun v m hq=>⟨hq.1,own,tok,nt,?_,Adv.refl hlive Ht⟩⟩;rw[hq.2,Sr.fnR,if_neg hsm',hR,if_neg (by simp),<-hself]
   .have b1:((N.length:Int)==s.p.nodes.length)=false:=by simp;omega
    try (simp[lO hkn,hk,hbig,b1])
    repeat ((first|refine sR ?_|refine sC ?_|refine sX ?_);simp[lO hkn,hk,hbig,b1])
    refine sN ?_;have hlb:∀loc,lb nb box loc=lb nb (upd box k (some [s.row out own])) loc:=fun loc=>by rw[<-hself]
    rw[hlb];refine sL (aLg s N nb k box) (fun x=>x.i<=s.g.nodes.length/\x.out=(List.range x.i).foldl (s.stN N r) out/\x.out.length<=s.most+1/\Adv tok nt own x.tok x.nt x.own) (fun x=>s.g.nodes.length-x.i)
     ⟨0,out,own,tok,nt⟩ ⟨Nat.zero_le _,rfl,ho,Adv.refl hlive Ht⟩ (aS.mk' (nr0 _) (by simp[ToL,lk];exact aI (by rw[lO hkn,uS];simp)) (by simp[aC,lk]) (dV rfl)) ?_
    rintro⟨i,out2,own2,tok2,nt2⟩ S ⟨hi,hout,ho2,hadv2⟩ hS;simp only[aLg] at hS hi hout ho2 hadv2;subst hS;have hw:IntKind.i64.wrap (↑i+1)=((i+1:Nat):Int):=by rw[aM (by omega) (by omega)];omega
    have hfold:(List.range (i+1)).foldl (s.stN N r) out=s.stN N r out2 i:=by
     rw[hout,List.range_succ,List.foldl_append];rfl
    refine sR ?_;simp[lO hkn,uS];refine sC ?_;simp;refine⟨fun hli=>?_,fun hge=>?_⟩
    .have hlp:N.length<s.pt.nodes.length:=by rw[h.pn];exact hlt
     have hgi:s.g.nodes.getD i 0=s.g.nodes[i]:=by simp[hli]
     have hpn2:s.p.nodes.getD N.length 0=s.p.nodes[N.length]:=by simp[hlt]
     have hpi:s.pt.nodes.getD N.length 0=s.pt.nodes[N.length]:=by simp[hlp]
     have hused:=aCq s out2 own2 N i (by omega) (lb nb (upd box k (some [s.row out2 own2])) []) k tok2 nt2 (by simp only[lO hkn,uS]);have hbel:=mO s.t s.p.nodes[N.length] (h.np _ (List.getElem_mem hlt)).1 h.tp s.t.nodes.length s.g.nodes[i] (h.ng _ (List.getElem_mem hli)).2 (h.ng _ (List.getElem_mem hli)).2;by_cases p01:0<=s.pt.nodes[N.length]/\s.pt.nodes[N.length]≠(i:Int)
     .obtain⟨p0,p1⟩:=p01;have b2:(s.pt.nodes[N.length] != (i:Int))=true:=by simp[p1]
      have hok:s.okN N i=false:=by simp[Sr.okN,gvB,hlp,p0,p1]
      refine sR ?_;simp[lO hkn,uS,hli,hlp,hlt,p0,b2];refine sC ?_;simp;refine sX ?_;simp only[AU,↓reduceIte];refine sR ?_;simp[hw];refine sE ?_;exact⟨⟨i+1,out2,own2,tok2,nt2⟩,⟨hli,by rw[hfold,Sr.stN,hok];simp,ho2,hadv2⟩,by simp only;omega,aS.mk' hadv2.le (by simp[ToL,lk];exact aI (by rw[lO hkn,uS];simp)) (by simp[aC,lk]) (dV rfl)⟩
     .have hgv:gvB s.pt.nodes N.length i=true:=by
       unfold gvB;rw[hpi];by_cases p0:0<=s.pt.nodes[N.length]
       .rw[if_pos p0];simp;by_cases p1:s.pt.nodes[N.length]=(i:Int)
        .exact p1
        .exact absurd ⟨p0,p1⟩ p01
       .rw[if_neg p0]
      have hst:∀Q,(0<=s.pt.nodes[N.length]->(s.pt.nodes[N.length] != (i:Int))=false->Q)->(¬0<=s.pt.nodes[N.length]->Q)->Q:=by
       intro Q h1 h2;by_cases p0:0<=s.pt.nodes[N.length]
       .refine h1 p0 ?_;by_cases p1:s.pt.nodes[N.length]=(i:Int)
        .simp[p1]
        .exact absurd ⟨p0,p1⟩ p01
       .exact h2 p0
      refine hst _ (fun p0 b2=>?_) (fun p0=>?_)
      .refine sR ?_;simp[lO hkn,uS,hli,hlp,hlt,p0,b2];refine aN.of_r hused ?_;cases hU:usB s.inj N i
       .simp[lO hkn,uS,hli,hlp,hlt,p0,b2];refine sD (hbel _ _) ?_;cases hB:isB s.t s.g.nodes[i] s.p.nodes[N.length]
        .have hok:s.okN N i=false:=by unfold Sr.okN;rw[hgv,hU,hgi,hpn2,hB];simp
         simp[lO hkn,uS,hli,hlp,hlt,p0,b2];refine sC ?_;simp;refine sX ?_;simp only[AU,↓reduceIte];refine sR ?_;simp[hw];refine sE ?_;exact⟨⟨i+1,out2,own2,tok2,nt2⟩,⟨hli,by rw[hfold,Sr.stN,hok];simp,ho2,hadv2⟩,by simp only;omega,aS.mk' hadv2.le (by simp[ToL,lk];exact aI (by rw[lO hkn,uS];simp)) (by simp[aC,lk]) (dV rfl)⟩
        .have hok:s.okN N i=true:=by unfold Sr.okN;rw[hgv,hU,hgi,hpn2,hB];simp
         simp[lO hkn,uS,hli,hlp,hlt,p0,b2];refine sC ?_;simp;refine sR ?_;simp[lO hkn,uS];refine⟨by omega,by omega,?_⟩;refine aN.data ?_;simp only[List.map,AV.asD];rw[eP];have had:=Adv.fresh hadv2.live hadv2.lt;refine aN.of_a (ih (N++[(i:Int)]) out2 own2 _ _ k _ _ (by simp;omega) ho2 (by simp only[lO hkn,uS]) had.live) ?_;rintro v m' ⟨rfl,own3,tok3,nt3,rfl,hadv⟩;simp[uL hkn,bD];have had3:Adv tok nt own tok3 nt3 own3:=hadv2.trans Ht (had.trans hadv2.lt hadv)
         clear hadv had;refine sR ?_;simp[hw];refine sE ?_;refine⟨⟨i+1,s.fnR r (N++[(i:Int)]) out2,own3,tok3,nt3⟩,⟨hli,by rw[hfold,Sr.stN,hok];simp,Sr.fnR_len ho2,had3⟩,by simp only;omega,aS.mk' had3.le (by simp[ToL,lk];exact aI (by rw[lO hkn,uS];simp)) (by simp[aC,lk]) (dV rfl)⟩
       .have hok:s.okN N i=false:=by simp[Sr.okN,hgv,hU]
        simp[lO hkn,uS,hli,hlp,hlt,p0,b2];refine sC ?_;simp;refine sX ?_;simp only[AU,↓reduceIte];refine sR ?_;simp[hw];refine sE ?_;exact⟨⟨i+1,out2,own2,tok2,nt2⟩,⟨hli,by rw[hfold,Sr.stN,hok];simp,ho2,hadv2⟩,by simp only;omega,aS.mk' hadv2.le (by simp[ToL,lk];exact aI (by rw[lO hkn,uS];simp)) (by simp[aC,lk]) (dV rfl)⟩
      .refine sR ?_;simp[lO hkn,uS,hli,hlp,hlt,p0];refine aN.of_r hused ?_;cases hU:usB s.inj N i
       .simp[lO hkn,uS,hli,hlp,hlt,p0];refine sD (hbel _ _) ?_;cases hB:isB s.t s.g.nodes[i] s.p.nodes[N.length]
        .have hok:s.okN N i=false:=by unfold Sr.okN;rw[hgv,hU,hgi,hpn2,hB];simp
         simp[lO hkn,uS,hli,hlp,hlt,p0];refine sC ?_;simp;refine sX ?_;simp only[AU,↓reduceIte];refine sR ?_;simp[hw];refine sE ?_;exact⟨⟨i+1,out2,own2,tok2,nt2⟩,⟨hli,by rw[hfold,Sr.stN,hok];simp,ho2,hadv2⟩,by simp only;omega,aS.mk' hadv2.le (by simp[ToL,lk];exact aI (by rw[lO hkn,uS];simp)) (by simp[aC,lk]) (dV rfl)⟩
        .have hok:s.okN N i=true:=by unfold Sr.okN;rw[hgv,hU,hgi,hpn2,hB];simp
         simp[lO hkn,uS,hli,hlp,hlt,p0];refine sC ?_;simp;refine sR ?_;simp[lO hkn,uS];refine⟨by omega,by omega,?_⟩;refine aN.data ?_;simp only[List.map,AV.asD];rw[eP];have had:=Adv.fresh hadv2.live hadv2.lt;refine aN.of_a (ih (N++[(i:Int)]) out2 own2 _ _ k _ _ (by simp;omega) ho2 (by simp only[lO hkn,uS]) had.live) ?_;rintro v m' ⟨rfl,own3,tok3,nt3,rfl,hadv⟩;simp[uL hkn,bD];have had3:Adv tok nt own tok3 nt3 own3:=hadv2.trans Ht (had.trans hadv2.lt hadv)
         clear hadv had;refine sR ?_;simp[hw];refine sE ?_;refine⟨⟨i+1,s.fnR r (N++[(i:Int)]) out2,own3,tok3,nt3⟩,⟨hli,by rw[hfold,Sr.stN,hok];simp,Sr.fnR_len ho2,had3⟩,by simp only;omega,aS.mk' had3.le (by simp[ToL,lk];exact aI (by rw[lO hkn,uS];simp)) (by simp[aC,lk]) (dV rfl)⟩
       .have hok:s.okN N i=false:=by simp[Sr.okN,hgv,hU]
        simp[lO hkn,uS,hli,hlp,hlt,p0];refine sC ?_;simp;refine sX ?_;simp only[AU,↓reduceIte];refine sR ?_;simp[hw];refine sE ?_;exact⟨⟨i+1,out2,own2,tok2,nt2⟩,⟨hli,by rw[hfold,Sr.stN,hok];simp,ho2,hadv2⟩,by simp only;omega,aS.mk' hadv2.le (by simp[ToL,lk];exact aI (by rw[lO hkn,uS];simp)) (by simp[aC,lk]) (dV rfl)⟩
    .refine sX ?_;simp only[AU,↓reduceIte];have hin:i=s.g.nodes.length:=by omega
     subst hin;refine sE ?_;refine⟨by simp,(Fin.gen (vs:=[]) (av:=.tup []) (tok':=tok2) (nt':=nt2) (by simp[aP,bI]) ?_ hadv2.le (nr0 _) (fun t h=>⟨h,.inl rfl⟩) (dV (by simp)) (by simp)).mono fun v m hq=>⟨hq.1,own2,tok2,nt2,?_,hadv2⟩⟩
     .rw[<-uL hkn,Hb]
     .rw[hq.2,Sr.fnR,if_neg hsm',hR,if_pos rfl,hout];rfl
variable {P:Program} {wr:Bool}
theorem tK{base:Nat}{o:Oper}{ρ:Operand->AV}{b b':Bxs}{v:AV}(hm:lR o.op=true)(h:mZ P base o ρ b v b'):
  ∃s rows,o.dst=some s/\b'=upd b (base+s) (some rows):=by
 unfold mZ at h;cases hop:o.op<;>rw[hop] at hm h<;>first|cases hm|skip
 .simp only at h;split at h
  .rename_i s cs h1 h2;obtain⟨g1,g2,g3⟩:=h;exact⟨s,[cs],h1,g3⟩
  .exact h.elim
 .simp only at h;split at h
  .rename_i sz by' zs s k1 n k2 n' h1 h2 h3 h4
   obtain⟨g1,g2,g3,g4,g5,g6⟩:=h;exact⟨s,_,h2,g6⟩
  .exact h.elim
def wT:Op->Bool
 | .load .. => true
 | _=>false
theorem tS{o:Oper}(h:wT o.op=true):cls o.op=.r/\∃p,fG o.op=some p:=by
 cases hop:o.op<;>rw[hop] at h<;>first|cases h|skip
 exact⟨rfl,_,rfl⟩
theorem aAk{o:Oper}(h:lR o.op=true):cls o.op=.w:=by
 cases hop:o.op<;>rw[hop] at h<;>first|(exact absurd h Bool.false_ne_true)|rfl
def lm(x y:Oper):Bool:=wT x.op&&lR y.op||lR x.op&&wT y.op
def aBf(ops:Array Oper):Bool :=
 let an:=oK ops.toList []
 uM ops&&(List.range ops.size).all fun i=>(match ops[i]? with|some o=>(dE o).all fun j=>decide (j<i)|none=>true) &&
  (List.range i).all fun j=>(an.getD i 0).testBit j||(match ops[j]?,ops[i]? with
   | some x,some y=>Oper.apart ops x y&&(!kU x y||tP x.op&&tP y.op||lm x y)
   | _,_=>false)
def mks:List Oper->List Nat
 | []=>[]
 | o::r=>if lR o.op=true then (match o.dst with|some s=>s::mks r|none=>mks r) else mks r
def lds:List Oper->List Operand
 | []=>[]
 | o::r=>match o.op with
  | .load _ p=>p::lds r
  | _=>lds r
def NB(x:AV)(k:Nat):Prop:=match x with
 | .ptr k' _ _=>k'≠k
 | _=>True
def aIh(x:AV)(base:Nat):List Nat->Prop
 | []=>True
 | s::r=>NB x (base+s)/\aIh x base r
def aFX(S:AS)(base:Nat)(ms:List Nat):List Operand->Prop
 | []=>True
 | p::r=>aIh (S.ev p) base ms/\aFX S base ms r
theorem zR{x:AV}{base:Nat}:∀{l:List Nat} {s:Nat},aIh x base l->s∈l->NB x (base+s)
 | a::r,s,h,hs=>by
  rcases List.mem_cons.1 hs with rfl|hs
  .exact h.1
  .exact zR h.2 hs
theorem aAl{S:AS}{base:Nat}{ms:List Nat}:∀{l:List Operand} {p:Operand},aFX S base ms l->p∈l->aIh (S.ev p) base ms
 | a::r,p,h,hp=>by
  rcases List.mem_cons.1 hp with rfl|hp
  .exact h.1
  .exact aAl h.2 hp
theorem aEX{o:Oper}{s:Nat}(hm:lR o.op=true)(hd:o.dst=some s):∀{l:List Oper},o∈l->s∈mks l
 | a::r,h=>by
  rcases List.mem_cons.1 h with rfl|h
  .rw[mks,if_pos hm,hd];simp
  .have:=aEX hm hd h
   rw[mks];split
   .split
    .exact List.mem_cons_of_mem _ this
    .exact this
   .exact this
theorem aFp{o:Oper}{p:Operand}(hm:wT o.op=true)(hp:fG o.op=some p):∀{l:List Oper},o∈l->p∈lds l
 | a::r,h=>by
  rcases List.mem_cons.1 h with rfl|h
  .cases hop:o.op<;>rw[hop] at hm hp<;>first|cases hm|skip
   simp only[fG,Option.some.injEq] at hp;subst hp;rw[lds,hop];simp
  .have:=aFp hm hp h
   rw[lds];split
   .exact List.mem_cons_of_mem _ this
   .exact this
theorem aDE{n nb base:Nat}{ops:Array Oper}{Q:Exit->Act->World->Prop}{Sf:AS}{G0:Gh}{w0:World}{b0:Bxs}(hreg:aBf ops=true)(hal:eQ ops=true)(hdst:mL n ops=true)(hnb:base+n<=nb)(hfar:Far Sf (nA ops.toList))(hfm:aFX Sf base (mks ops.toList) (lds ops.toList))(hQ:∀a' w' G',cP n nb G' Sf a' w'->LeK base G0 w0 b0 G' w' Sf.box->Q .normal a' w')(fuel:Nat)(listed:Array Bool)(rem:List Nat)(S:AS)(a:Act)(w:World)(G:Gh)(hrem:rem=List.range ops.size)(hside:oO ops S)(h1:listed.size=ops.size)(h2:rem=(List.range ops.size).filter (fun i=>!listed.getD i true))(h3:rem.length=fuel)(h4:∀i o,ops[i]?=some o->listed.getD i false=true->∀j∈dE o,listed.getD j false=true)(h5:kS P false base ops rem S Sf)(h6:cP n nb G S a w)(h7:∀i∈rem,∀o,ops[i]?=some o->oI P base o G S.box)(h8:LeK base G0 w0 b0 G w S.box):wpAny P .any ops Q fuel listed a w:=by
 unfold aBf at hreg;simp only[Bool.and_eq_true] at hreg;obtain⟨hu,hreg⟩:=hreg;have key:∀(i:Nat) (o:Oper),ops[i]?=some o->(∀j∈dE o,j<i)/\∀j x,ops[j]?=some x->j<i->((oK ops.toList []).getD i 0).testBit j=true∨x.apart ops o=true/\((kU x o=false∨tP x.op=true/\tP o.op=true)∨lm x o=true):=by
  intro i o ho;have his:i<ops.size:=(Array.getElem?_eq_some_iff.1 ho).1
  have hall:=List.all_eq_true.1 hreg i (by simpa using his);rw[ho] at hall;simp only[Bool.and_eq_true] at hall;refine⟨fun j hj=>by simpa using List.all_eq_true.1 hall.1 j hj,fun j x hx hj=>?_⟩;have h2:=List.all_eq_true.1 hall.2 j (by simpa using hj);rw[hx] at h2;simpa only[Bool.or_eq_true,Bool.and_eq_true,Bool.not_eq_true'] using h2
 have start:Ivs Sf S:=by
  intro t;by_cases hd:∃o∈ops.toList,o.dst=some t
  .obtain⟨o,ho,hd⟩:=hd;exact .inr (hside o ho t hd)
  .refine .inl (lG (fun j _ x hx hxd=>hd ⟨x,by simpa using Array.mem_of_getElem? hx,hxd⟩) h5).symm
 refine pI (fun i o ho=>(key i o ho).1) (Iv:=Ivs Sf) (fun i o S' S'' rest ho hni hst hrun hiv=>aCI hu i o S' S'' rest ho hni hst hrun hiv) ?_ hal hdst hnb hQ fuel listed rem S a w G h1 h2 h3 h4 start h5 h6 h7 h8;intro i j o x ho hx hj hb S' S1 S2 hiv g1 g2;have back:∀(z:Operand) k i off,S'.ev z=.ptr k i off->Sf.ev z=.ptr k i off:=by
  intro z k i off hz;cases z with
  | tmp t =>
   rcases hiv t with e|e
   .exact e.symm.trans hz
   .have hz':S'.tmps t=.ptr k i off:=hz
    rw[hz'] at e;exact e.elim
  | const c=>exact hz
  | global c=>exact hz
  | func c=>exact hz
 have nb:∀(y z:Oper) (p:Operand) (s:Nat),wT y.op=true->fG y.op=some p->y∈ops.toList->lR z.op=true->z.dst=some s->z∈ops.toList->∀k i off,S'.ev p=.ptr k i off->k≠base+s:=fun y z p s hy hp hym hz hs hzm k i off hk=>by
  have:=zR (aAl hfm (aFp hy hp hym)) (aEX hz hs hzm)
  rw[back p _ _ _ hk] at this;exact this
 have hxm:x∈ops.toList:=by simpa using Array.mem_of_getElem? hx
 have hom:o∈ops.toList:=by simpa using Array.mem_of_getElem? ho
 rcases (key i o ho).2 j x hx hj with h|⟨h,h'⟩
 .rw[hb] at h;cases h
 .by_cases hlm:lm x o=true
  .unfold lm at hlm;simp only[Bool.or_eq_true,Bool.and_eq_true] at hlm;refine jD h (fun {c0 c1 c2 s0 s1 s2 m0 m1 m2 vx vy} e1 e2=>?_) g1 g2;unfold Eff at e1 e2 ⊢;rcases hlm with ⟨q1,q2⟩|⟨q1,q2⟩
   .obtain⟨k1,p,hp⟩:=tS q1;have k2:=aAk q2;simp only[k1,k2] at e1 e2 ⊢;obtain⟨e1,rfl,rfl,rfl⟩:=e1;obtain⟨e2,rfl,rfl⟩:=e2;obtain⟨s,rows,hs,rfl⟩:=tK q2 e2;exact⟨_,_,_,⟨e2,rfl,rfl⟩,wA hp k1 e1 (nb x o p s q1 hp hxm q2 hs hom),rfl,rfl,rfl⟩
   .obtain⟨k1,p,hp⟩:=tS q2;have k2:=aAk q1;simp only[k1,k2] at e1 e2 ⊢;obtain⟨e1,rfl,rfl⟩:=e1;obtain⟨e2,rfl,rfl,rfl⟩:=e2;obtain⟨s,rows,hs,rfl⟩:=tK q1 e1;exact⟨_,_,_,⟨zS hp k1 (nb o x p s q2 hp hom q1 hs hxm) e2,rfl,rfl,rfl⟩,e1,rfl,rfl⟩
  .have h':=h'.resolve_right hlm
   cases hc:kU x o with
   | false=>exact pC h hc g1 g2
   | true =>
    rcases h' with h'|⟨h1',h2'⟩
    .rw[hc] at h';cases h'
    .obtain⟨p,hp⟩:=Option.isSome_iff_exists.1 h1';obtain⟨q,hq⟩:=Option.isSome_iff_exists.1 h2';have hnk:=aDB hfar hj (by simpa using hx) (by simpa using ho) hp hq hc;refine jD h (fun {c0 c1 c2 s0 s1 s2 m0 m1 m2 vx vy} e1 e2=>?_) g1 g2;refine aES hp hq (fun k i1 off k' i2 off' hk hk'=>?_) e1 e2;rw[back p _ _ _ hk,back q _ _ _ hk'] at hnk;exact hnk
theorem AT.region5{cx:Cx}{nt0 id:Nat}{ops:Array Oper}{S:AS}{K:Exit->AS->Prop}(hf:P.follows .mixedOrders=true)(hnb:cx.base+cx.n<=cx.nb)(hok:(eQ ops&&mL cx.n ops&&aBf ops)=true)(hside:oO ops S)(h:nX P cx ops true S (fun S'=>(Far S' (nA ops.toList)/\aFX S' cx.base (mks ops.toList) (lds ops.toList))/\K .normal S')):AT P cx nt0 (.region id ops true) S K:=by
 simp only[Bool.and_eq_true] at hok;obtain⟨⟨hal,hdst⟩,hreg⟩:=hok;intro G0 w0 he hn G a w hr hl;have hd:=lI hdst;obtain⟨b,hb,hr1,hp,hkeep⟩:=iP hnb ops.toList S.box (S:=S) hr (fun o ho d hod=>hd o d (by simpa using ho) hod) (jO hal) h;have hl1:LeC cx G0 w0 G w { S with box:=b }:=⟨hl.1,fun k hk hg=>by
  rw[<-hl.2 k hk hg];refine hkeep k fun hm=>?_
  obtain⟨o,ho,he⟩:=List.mem_filterMap.1 hm;split at he
  .rename_i T s h1 h2;simp only[Option.some.injEq] at he;subst he;exact absurd hk (by simp)
  .cases he⟩
 simp only at hb;obtain⟨S',hrun,⟨hfar,hfm⟩,hK⟩:=hb;refine wp_region_any hf ?_;have hrd:cP cx.n cx.nb G { S with box:=b } a w.drew:=hr1.drew
 have hld:LeC cx G0 w0 G w.drew { S with box:=b }:=hl1.step ⟨Le.drew,fun k _ hg=>⟨hg,rfl⟩⟩
 refine aDE (n:=cx.n) (nb:=cx.nb) (base:=cx.base) (Sf:=S') (G0:=G) (w0:=w.drew) (b0:=b) hreg hal hdst hnb hfar hfm (fun a' w' G' h1 h2=>⟨S',G',hK,h1,hld.step h2⟩) ops.size (Array.replicate ops.size false) (List.range ops.size) { S with box:=b } a w.drew G rfl hside (by simp) ?_ (by simp) ?_ (kS.of_all hrun) hrd ?_ (LeK.refl _ _ _ _)
 .rw[List.filter_eq_self.2];intro i hi;simp at hi;simp[Array.getD,hi]
 .intro i o ho hlst;have hi:=(Array.getElem?_eq_some_iff.1 ho).1;simp[Array.getD,hi] at hlst
 .intro i _ o ho;exact hp o (by simpa using Array.mem_of_getElem? ho)
theorem AL.region5{cx:Cx}{nt0:Nat}{r:List CI}{K:Exit->AS->Prop}{S:AS}{id:Nat}{ops:Array Oper}(hf:P.follows .mixedOrders=true)(hnb:cx.base+cx.n<=cx.nb)(hok:(eQ ops&&mL cx.n ops&&aBf ops)=true)(hs:oO ops S)(h:aDX P cx ops true (fun S'=>(Far S' (nA ops.toList)/\aFX S' cx.base (mks ops.toList) (lds ops.toList))/\AL P cx nt0 K r S') S):AL P cx nt0 K (.c (.region id ops true)::r) S:=by
 simp only[AL];exact AT.region5 hf hnb hok hs (pG h)
end Go.AM
