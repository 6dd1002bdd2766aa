/-
  'FactorThrough' returns true for every two graphs and every overlap, and leaves them as they were.
-/
import Derived.Test.YtgonmjghdkoekaaTm9
namespace Go.AM
open Go Go.Proofs

def rdMo0 : Rdr Try.prog 41 (List Int × List Int) := Rdr.struct2 rdInts rdInts Try.underlying41 rfl rfl rfl (by kernel_rfl) (by kernel_rfl)
theorem big_of (x : List Int × List Int) (h1 : x.1.length * Try.prog.bytesOf 3 ≤ reachBytes) (h2 : x.2.length * Try.prog.bytesOf 3 ≤ reachBytes) : Mo.Big ⟨x.1, x.2⟩ := by
  have e : Try.prog.bytesOf 3 = 8 := by kernel_rfl
  have r : reachBytes = 140737488351232 := rfl
  rw [e, r] at h1 h2
  exact ⟨by simp only; omega, by simp only; omega⟩
def rdMo : Rdr Try.prog 41 Mo := rdMo0.map (fun x => ⟨x.1, x.2⟩) (fun m => [ints m.nodes, ints m.edges]) (fun m => m.Big) (fun _ => rfl) (fun x h => big_of x h.1.2 h.2.2) (fun _ => by kernel_rfl)
def rdOv0 : Rdr Try.prog 43 (Gr × Mo × Mo) := Rdr.struct3 rdGraph rdMo rdMo Try.underlying43 rfl rfl rfl rfl (by kernel_rfl) (by kernel_rfl) (by kernel_rfl)
def rdOv : Rdr Try.prog 43 Ov := rdOv0.map (fun x => ⟨x.1, x.2.1, x.2.2⟩) Ov.cells (fun o => o.l.Big ∧ o.r.Big) (fun _ => rfl) (fun _ h => h.2) (fun _ => by kernel_rfl)

set_option maxRecDepth 100000 in
theorem arg_ov {ps : Array TypeId} {args : Array Value} {W : World} {base base' : Nat} {sp : Nat → Bool} {held : Bool} {H : Type} {enc : TypeId × Value → H} (hval : ∀ (j : Nat) t v, ps[j]? = some t → args[j]? = some v → Value.okWide Try.prog W .any base t v)
    (j : Nat) (v : Value) (hp : ps[j]? = some 43) (ha : args[j]? = some v) {d : DataW H} {p : List MemPlace} (h : DataW.Trod enc Try.prog W base' sp held 43 v d p) (hli : Light Try.prog 43 d) : ∃ o : Ov, (o.l.Big ∧ o.r.Big) ∧ RV G0 W o.av v := by
  refine Exists.elim (arg_agg hval j 43 v hp ha rdOv aggT_43 h hli) fun g hg => ⟨g, hg.1, ?_⟩
  exact hg.2
end Go.AM

namespace Go.Proofs.Ytgonmjghdkoekaa.factorThrough
open Go Go.AM Go.ChangeShapes

set_option maxRecDepth 100000 in
theorem contract (H : Type) (enc : TypeId × Value → H) (W : World) (base : Nat) (args : Array Value) (ds gs : List (DataW H)) (before : List MemPlace)
    (hval : ∀ (j : Nat) t v, Try.f7.params[j]? = some t → args[j]? = some v → Value.okWide Try.prog W .any base t v)
    (hW : DataW.Whole enc Try.prog Try.f7.params.toList Rows.factorThroughSpec.vars false W args.toList ds gs before)
    (hz : (DataW.weightsEach Try.prog (Try.f7.params.toList ++ []) (ds ++ gs)).all (· ≤ reachBytes) = true) :
    Calls Try.prog 7 args W fun e W' => ∃ v, e = .returned v ∧ Rows.factorThroughSpec.post enc Try.prog Try.f7 false true false false W args v W' := by
  have hW' := hW
  obtain ⟨p, q, hA, hV, rfl, hfz, hnd⟩ := hW
  obtain ⟨rfl, rfl⟩ := trodVars_none hV
  rw [Try.params7] at hA hval hz
  obtain ⟨v0, vs0, d0, ds0, p0, q0, hargs, rfl, rfl, h0, r0⟩ := trodAll_cons hA
  obtain ⟨v1, vs1, d1, ds1, p1, q1, rfl, rfl, rfl, h1, r1⟩ := trodAll_cons r0
  obtain ⟨v2, vs2, d2, ds2, p2, q2, rfl, rfl, rfl, h2, r2⟩ := trodAll_cons r1
  obtain ⟨rfl, rfl, rfl⟩ := trodAll_nil r2
  obtain rfl : args = #[v0, v1, v2] := by cases args; simp_all
  obtain ⟨a, ha⟩ := arg_graph hval 0 v0 rfl rfl h0 (light_arg hz (j := 0) rfl rfl)
  obtain ⟨b, hb⟩ := arg_graph hval 1 v1 rfl rfl h1 (light_arg hz (j := 1) rfl rfl)
  obtain ⟨o, ⟨hl, hr⟩, ho⟩ := arg_ov hval 2 v2 rfl rfl h2 (light_arg hz (j := 2) rfl rfl)
  obtain ⟨tok', nt', hc⟩ := law7_c a b o hl hr (fun _ => false) 0
  exact law_of laidOut0 mapsRowed0 slices0 (by kernel_rfl) (tb := 4) rfl Try.underlying4 rfl rfl hW' (RVs.cons ha (RVs.cons hb (RVs.cons ho RVs.nil))) hc

set_option maxRecDepth 100000 in
theorem lifted (os : Os) (started : os.Started) (H : Type) (enc : TypeId × Value → H) :
    ReturnsInHanded {} Try.checked os 7 .any (Rows.factorThroughSpec.pre6 enc Try.prog Try.f7 Rows.factorThroughRow.domain false) (Rows.factorThroughSpec.post enc Try.prog Try.f7 false true false false) := by
  refine returnsInHanded_of_change_sized (C := Try.checked) own0 started (by kernel_rfl) Try.func7
    (ChangeSpec.witness6 (enc := enc) (C := Try.checked) false ⟨#[], #[.agg #[.slice none 0 0, .slice none 0 0], .agg #[.slice none 0 0, .slice none 0 0], .agg #[.slice none 0 0, .slice none 0 0, .slice none 0 0, .slice none 0 0, .slice none 0 0, .slice none 0 0]], []⟩ 8 (by kernel_rfl) (by kernel_rfl) (by kernel_rfl) (by kernel_rfl)) ?_
  intro W base args ds gs before hval hW _ hz _
  exact contract H enc W base args ds gs before hval hW hz

theorem proved : Rows.FactorThroughSaid :=
  OpenClaim.holds_of_wide 7 Try.f7 rfl rfl rfl rfl rfl rfl rfl ⟨rfl, rfl, rfl, rfl, rfl⟩ rfl rfl rfl rfl rfl (by kernel_rfl) Try.func7 (by kernel_rfl)
    (of_decide_eq_true (by kernel_rfl)) (by unfold Func.isWrapper; first | (rw [if_pos (by decide +kernel)]; kernel_rfl) | (rw [if_neg (by decide +kernel)]; exact ⟨rfl, rfl⟩))
    (fun os started H enc _ => lifted os started H enc)
#print axioms proved
end Go.Proofs.Ytgonmjghdkoekaa.factorThrough
