/-
  What the arguments of this chapter's statements read as: graphs, morphisms, overlaps.
-/
import Derived.Test.YtgonmjghdkoekaaFacZ
import Derived.Test.YtgonmjghdkoekaaAmGlue
namespace Go.AM
open Go Go.Proofs

theorem own0 : ownKnob Try.prog.godebug = none := by kernel_rfl
theorem laidOut0 : laidOutB Try.prog = true := by kernel_rfl
theorem mapsRowed0 : mapsRowed Try.prog = true := by kernel_rfl
theorem slices0 : ((List.range Try.prog.types.size).all fun t => match Try.prog.underlying t with | some (.slice e) => decide (0 < Try.prog.cellsOf e) | _ => true) = true := by kernel_rfl

def rdInt : Rdr Try.prog 3 Int := Rdr.int (k := .i64) Try.underlying3 (by kernel_rfl)
def rdInts : Rdr Try.prog 22 (List Int) := rdInt.sliceN 1 Try.underlying22 (by kernel_rfl) (by kernel_rfl)
def rdEdge0 : Rdr Try.prog 78 (Int × Int × Int) := Rdr.struct3 rdInt rdInt rdInt Try.underlying78 rfl rfl rfl rfl (by kernel_rfl) (by kernel_rfl) (by kernel_rfl)
def rdEdge : Rdr Try.prog 78 E := rdEdge0.map (fun x => ⟨x.1, x.2.1, x.2.2⟩) E.cells (fun _ => True) (fun _ => rfl) (fun _ _ => trivial) (fun _ => by kernel_rfl)
def rdEdges : Rdr Try.prog 23 (List E) := rdEdge.sliceN 3 Try.underlying23 (by kernel_rfl) (by kernel_rfl)
def rdGraph0 : Rdr Try.prog 25 (List Int × List E) := Rdr.struct2 rdInts rdEdges Try.underlying25 rfl rfl rfl (by kernel_rfl) (by kernel_rfl)
def rdGraph : Rdr Try.prog 25 Gr := rdGraph0.map (fun x => ⟨x.1, x.2⟩) (fun g => [ints g.nodes, AM.edges g.edges]) (fun _ => True) (fun _ => rfl) (fun _ _ => trivial) (fun _ => by kernel_rfl)

theorem rdGraph_enc (g : Gr) : rdGraph.enc g = [ints g.nodes, AM.edges g.edges] := rfl

set_option maxRecDepth 100000 in
theorem arg_graph {ps : Array TypeId} {args : Array Value} {W : World} {base base' : Nat} {sp : Nat → Bool} {held : Bool} {H : Type} {enc : TypeId × Value → H} (hval : ∀ (j : Nat) t v, ps[j]? = some t → args[j]? = some v → Value.okWide Try.prog W .any base t v)
    (j : Nat) (v : Value) (hp : ps[j]? = some 25) (ha : args[j]? = some v) {d : DataW H} {p : List MemPlace} (h : DataW.Trod enc Try.prog W base' sp held 25 v d p) : ∃ g : Gr, RV G0 W g.av v := by
  refine Exists.elim (arg_agg hval j 25 v hp ha rdGraph aggT_25 h) fun g hg => ⟨g, ?_⟩
  exact hg.2
end Go.AM
