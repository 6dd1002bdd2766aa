/-
 Parts of the proof, as merged from many texts: a machine over data, what the functions compute, plain laws.
-/
import Derived.Test.YtainalmfffjnjaaGreatDoorPTT14
import Derived.Shelf.Strings.Builder1
import Derived.Shelf.Strings.Builder2
import Derived.Shelf.Strings.OnBuilder
import Derived.Shelf.Small.Strs
import Derived.Shelf.Strings.BuilderF
import Derived.Shelf.Strings.BuilderK
import Derived.Shelf.Strconv.Itoa0
import Derived.Shelf.Strconv.Itoa1
import Derived.Shelf.LaysM
import Derived.Shelf.Strconv.Itoa2
import Derived.Shelf.Strconv.Itoa3
import Derived.Shelf.Strings.Search1
import Derived.Shelf.Sort.Plain
import Derived.Shelf.Strings.Fields
import Derived.Shelf.Unicode.Latin
import Derived.Shelf.Bits.Mul64
import Derived.Shelf.Unicode.Is16White
import Derived.Shelf.Unicode.IsSpaceAny
import Derived.Shelf.Unicode.Is16Any
import Derived.Shelf.Unicode.Is32Any
import Derived.Shelf.Unicode.ExclAny
import Derived.Shelf.Slices.Reverse
import Derived.Shelf.Slices.Equal
import Derived.Ground.Names2Prog
import Derived.Shelf.Slices.Clone
import Derived.Shelf.Slices.CompactI
import Derived.Shelf.Slices.In.SortNone
import Derived.Test.YtainalmfffjnjaaGreatDoorProg
import Derived.Lib.LaidTab
import Derived.MakeChecks
import Derived.LaidSub
set_option linter.unusedSimpArgs false
set_option linter.unusedVariables false
namespace Go.Proofs
open Go.Shelf
open Go.Proofs.Tryz
def Tryz.lays157_ren:Go.Shelf.Ren:=⟨fun|157=>54|229=>118|199=>119|261=>198|311=>256|312=>257|n=>n,fun|9=>9|31=>130|3=>3|5=>5|4=>4|119=>223|0=>0|40=>225|152=>280|21=>21|154=>282|51=>283|141=>285|196=>327|193=>324|198=>330|49=>328|194=>325|201=>333|226=>363|46=>310|227=>364|n=>n,fun|0=>0|6=>2|n=>n⟩
theorem Tryz.lays157:Go.Proofs.Lays.n157 prog Tryz.lays157_ren:={
 mixed:=by kernel_rfl
 f157:=func54.trans (congrArg some (by kernel_rfl))
 f199:=func119.trans (congrArg some (by kernel_rfl))
 f229:=func118.trans (congrArg some (by kernel_rfl))
 f261:=func198.trans (congrArg some (by kernel_rfl))
 f311:=func256.trans (congrArg some (by kernel_rfl))
 f312:=func257.trans (congrArg some (by kernel_rfl))
 t0:=underlying0
 a0:=isAgg0
 z0:=sizeOf0
 v0:=zeroValue0
 t3:=underlying3
 a3:=isAgg3
 z3:=sizeOf3
 v3:=zeroValue3
 t4:=underlying4
 a4:=isAgg4
 z4:=sizeOf4
 v4:=zeroValue4
 t5:=underlying5
 a5:=isAgg5
 z5:=sizeOf5
 v5:=zeroValue5
 t9:=underlying9
 a9:=isAgg9
 z9:=sizeOf9
 v9:=zeroValue9
 t21:=underlying21
 a21:=isAgg21
 z21:=sizeOf21
 v21:=zeroValue21
 t31:=underlying130
 a31:=isAgg130
 z31:=sizeOf130
 v31:=zeroValue130
 t40:=underlying225
 a40:=isAgg225
 z40:=sizeOf225
 v40:=zeroValue225
 t46:=underlying310
 a46:=isAgg310
 z46:=sizeOf310
 v46:=zeroValue310
 t49:=underlying328
 a49:=isAgg328
 z49:=sizeOf328
 v49:=zeroValue328
 t51:=underlying283
 a51:=isAgg283
 z51:=sizeOf283
 v51:=zeroValue283
 t119:=underlying223
 a119:=isAgg223
 z119:=sizeOf223
 t141:=underlying285
 a141:=isAgg285
 z141:=sizeOf285
 v141:=zeroValue285
 t152:=underlying280
 a152:=isAgg280
 z152:=sizeOf280
 v152:=zeroValue280
 t154:=underlying282
 a154:=isAgg282
 z154:=sizeOf282
 v154:=zeroValue282
 t193:=underlying324
 a193:=isAgg324
 z193:=sizeOf324
 v193:=zeroValue324
 t194:=underlying325
 a194:=isAgg325
 z194:=sizeOf325
 v194:=zeroValue325
 t196:=underlying327
 a196:=isAgg327
 z196:=sizeOf327
 v196:=zeroValue327
 t198:=underlying330
 a198:=isAgg330
 z198:=sizeOf330
 v198:=zeroValue330
 t201:=underlying333
 a201:=isAgg333
 z201:=sizeOf333
 v201:=zeroValue333
 t226:=underlying363
 a226:=isAgg363
 z226:=sizeOf363
 v226:=zeroValue363
 t227:=underlying364
 a227:=isAgg364
 z227:=sizeOf364
 v227:=zeroValue364
 g0:=by kernel_rfl
 g6:=by kernel_rfl }
open Go.RowKit Go.Lib in
theorem Tryz.strings_Fields(s:ByteArray)(w:World)(hs:s.size<4294967281)(hascii:∀(j:Nat) b,s.data.toList[j]?=some b->b.toNat<128)(htab:Lib.TabIs prog w "strings.asciiSpace" .u8 Lib.asciiSpaceTab):
  Calls prog 54 #[.string s] w fun e w' =>
   e=.returned (.slice (some ⟨w.heap.size,0,none⟩) (Lib.fields s.data.toList).length (Lib.fields s.data.toList).length)/\w'=w.alloc (.cells ((Lib.fields s.data.toList).map fun l=>Value.string ⟨l.toArray⟩).toArray 9):=Any.strings_Fields Tryz.lays157 (by kernel_rfl) (by kernel_rfl) s w hs hascii htab
end Go.Proofs
namespace Go.AM
open Go Go.Proofs Go.RowKit
open Go.Proofs.Tryz
theorem tab_eq:((List.range 256).map fun i=>Value.int .u8 (if i=9∨i=10∨i=11∨i=12∨i=13∨i=32 then 1 else 0)).toArray=(Lib.asciiSpaceTab.map fun z=>Value.int .u8 z).toArray:=by
 kernel_rfl
theorem tab_is{G:Gh}{w:World}(h:GlobOk G w):Lib.TabIs prog w "strings.asciiSpace" .u8 Lib.asciiSpaceTab:=by
 have hg:globT 0=some ((List.range 256).map fun i=>Value.int .u8 (if i=9∨i=10∨i=11∨i=12∨i=13∨i=32 then 1 else 0)).toArray:=by unfold globT;rw[if_pos rfl]
 obtain⟨_,e,f,hh⟩:=h.2 0 _ hg;unfold Lib.TabIs World.var?;rw[show prog.globalNamed "strings.asciiSpace" = some 0 by kernel_rfl];simp only[Option.bind_some,hh];rw[tab_eq]
theorem rvd_fresh{G:Gh}{w:World}(hf:∀b,w.heap.size<=b->G.kind b=.whole)(ws:List ByteArray)(hl:ws.length<=1000000)(E:TypeId):RVd (w.alloc (.cells (ws.map Value.string).toArray E)).cell? G.ps (strs ws) (.slice (some ⟨w.heap.size,0,none⟩) ws.length ws.length):=by
 have hh:(w.alloc (.cells (ws.map Value.string).toArray E)).heap[w.heap.size]?=some (.cells (ws.map Value.string).toArray E (0,0)):=by unfold World.alloc;exact Array.getElem?_push_size
 have hps:∀j,G.ps ((⟨w.heap.size,0,none⟩:Addr).add j):=fun j=>by
  have hb:((⟨w.heap.size,0,none⟩:Addr).add j).block=w.heap.size:=by unfold Addr.add;split<;>rfl
  unfold Gh.ps;rw[hb,hf _ (nr _)];trivial
 have e0:ws.length=(ws.map fun s=>[D.raw (.string s)]).length:=by simp
 unfold strs;rw[e0];refine RVd.sl (fun i _=>.string (ws.getD i ⟨#[]⟩)) (by rw[<-e0];exact nr _) (by rw[<-e0];unfold maxLen;omega) ?_ (fun _=>⟨_,rfl⟩) ?_ ?_
 .intro e he;obtain⟨s,_,rfl⟩:=List.mem_map.1 he;rfl
 .intro a ha i j hi hj;cases ha;have:j=0:=by omega
  subst this;have hi2:i<ws.length:=by simpa using hi
  refine⟨hps _,?_⟩;rw[Nat.mul_one,Nat.add_zero];have ea:(⟨w.heap.size,0,none⟩:Addr).add i=⟨w.heap.size,i,none⟩:=by
   unfold Addr.add;split
   .rename_i e;subst e;rfl
   .simp
  rw[ea];simp only[World.cell?];rw[hh];simp[hi2]
 .intro i j hi hj;have hi2:i<ws.length:=by simpa using hi
  have:j=0:=by simp at hj;omega
  subst this;simp only[List.getElem_map,List.getElem_cons_zero];rw[show ws.getD i ⟨#[]⟩=ws[i] by simp[hi2]];exact .raw rfl
theorem fields_c(s:ByteArray)(hs:s.size<=1000000)(ha:∀b∈s.data.toList,b.toNat<128)(ws:List ByteArray)(hw:Lib.fields s.data.toList=ws.map fun w=>w.data.toList)(hl:ws.length<=1000000):DC 54 [Sb s] (.d (strs ws)):=by
 intro tok nt box nb;refine⟨Enters.mk func54 rfl (by kernel_rfl),fun G w vals hm hr=>?_⟩;obtain⟨hlen,hrv⟩:=hr
 match vals,hlen with
 | [v],_ =>
  have h0:=hrv 0 (by simp) (by simp);simp only[List.getElem_cons_zero] at h0;cases h0 with
  | d h0 =>
  cases h0;have hF:=Tryz.strings_Fields s w (by omega) (fun j b hj=>ha b (List.mem_of_getElem? hj)) (tab_is hm.glob);rw[hw,List.length_map,List.map_map] at hF;have hmm:(ws.map ((fun l:List UInt8=>Value.string ⟨l.toArray⟩) ∘ fun s:ByteArray=>s.data.toList))=ws.map Value.string:=List.map_congr_left fun s _=>by simp
  rw[hmm] at hF;refine hF.mono ?_;rintro e w' ⟨rfl,rfl⟩;exact⟨_,_,_,G,rfl,⟨rfl,rfl⟩,rfl,hm.alloc _,.d (rvd_fresh hm.fresh ws hl _),Le.alloc hm.fresh _,fun k hk=>⟨hk,rfl⟩⟩
theorem lawTText_c(f:Fo)(hf:f.Sm)(bs:List Int)(hb8:U8s bs/\bs.length<=200000000000000)(tok:Tks)(nt:Nat):DCall prog 11 [f.av,.d (bytes bs)] tok nt (B true) tok nt :=
 lawTText_of (fun s h1 h2 ws h3 h4 tok nt=>fields_c s h1 h2 ws h3 h4 tok nt) f hf bs hb8 tok nt
end Go.AM
namespace Go.Proofs.YtainalmfffjnjaaGreatDoor
open Go Go.AM Go.ChangeShapes
open Go.Proofs.Tryz
theorem text_glob{W:World}(h1:laidMetH prog [("scarfjoint/temporal.words",Rows.laid_scarfjoint_temporal_words)] W)(h2:Lib.TabIs prog W "strings.asciiSpace" .u8 Lib.asciiSpaceTab):GlobOk G0 W:=by
 refine⟨words_globA h1,fun g vs hg=>⟨rfl,?_⟩⟩;unfold globT at hg;split at hg
 .rename_i e;subst e;cases hg;unfold Lib.TabIs World.var? at h2;rw[show prog.globalNamed "strings.asciiSpace" = some 0 by kernel_rfl] at h2;simp only[Option.bind_some] at h2;split at h2
  .rename_i cs e f hh;simp only[Option.some.injEq] at h2;exact⟨e,f,by rw[hh,h2,tab_eq]⟩
  .cases h2
 .cases hg
theorem text_words{W:World}(h:laidMetH prog Rows.temporalTextRow.laid W):laidMetH prog [("scarfjoint/temporal.words",Rows.laid_scarfjoint_temporal_words)] W:=by
 have h1:=h.filter (fun x=>x.1 == "scarfjoint/temporal.words");have e:(Rows.temporalTextRow.laid.filter fun x=>x.1 == "scarfjoint/temporal.words")=[("scarfjoint/temporal.words",Rows.laid_scarfjoint_temporal_words)]:=by kernel_rfl
 rw[e] at h1;exact h1
theorem text_tab{W:World}(h:laidMetH prog Rows.temporalTextRow.laid W):Lib.TabIs prog W "strings.asciiSpace" .u8 Lib.asciiSpaceTab:=by
 have h1:=h.filter (fun x=>x.1 == "strings.asciiSpace");have e:(Rows.temporalTextRow.laid.filter fun x=>x.1 == "strings.asciiSpace")=[("strings.asciiSpace",Lib.tabData .u8 Lib.asciiSpaceTab)]:=by kernel_rfl
 rw[e,MakeChecks.laidMetH_plain _ _ _ (by kernel_rfl)] at h1;exact Lib.tabIs_of_head (g:=(prog.globalNamed "strings.asciiSpace").getD 0) (t:=223) (e:=5) (n:=256) (by kernel_rfl) (by kernel_rfl) (by kernel_rfl) (by kernel_rfl) (by kernel_rfl) (by kernel_rfl) h1
end Go.Proofs.YtainalmfffjnjaaGreatDoor
