/-
  'FactorFactor' returns true for every graph and every arrow, and leaves them as they were.
-/
import Derived.Test.YtgonmjghdkoekaaTm10
namespace Go.AM
open Go Go.Proofs

def rdMo0 : Rdr Try.prog 41 (List Int × List Int) := Rdr.struct2 rdInts rdInts Try.underlying41 rfl rfl rfl (by kernel_rfl) (by kernel_rfl)
theorem big_of (x : List Int × List Int) (h1 : x.1.length * Try.prog.bytesOf 3 ≤ reachBytes) (h2 : x.2.length * Try.prog.bytesOf 3 ≤ reachBytes) : Mo.Big ⟨x.1, x.2⟩ := by
  have e : Try.prog.bytesOf 3 = 8 := by kernel_rfl
  have r : reachBytes = 140737488351232 := rfl
  rw [e, r] at h1 h2
  exact ⟨by simp only; omega, by simp only; omega⟩
def rdMo : Rdr Try.prog 41 Mo := rdMo0.map (fun x => ⟨x.1, x.2⟩) (fun m => [ints m.nodes, ints m.edges]) (fun m => m.Big) (fun _ => rfl) (fun x h => big_of x h.1.2 h.2.2) (fun _ => by kernel_rfl)
def rdAr : Rdr Try.prog 68 (Gr × Mo) := Rdr.struct2 rdGraph rdMo Try.underlying68 rfl rfl rfl (by kernel_rfl) (by kernel_rfl)

set_option maxRecDepth 100000 in
theorem arg_ar {ps : Array TypeId} {args : Array Value} {W : World} {base base' : Nat} {sp : Nat → Bool} {held : Bool} {H : Type} {enc : TypeId × Value → H} (hval : ∀ (j : Nat) t v, ps[j]? = some t → args[j]? = some v → Value.okWide Try.prog W .any base t v)
    (j : Nat) (v : Value) (hp : ps[j]? = some 68) (ha : args[j]? = some v) {d : DataW H} {p : List MemPlace} (h : DataW.Trod enc Try.prog W base' sp held 68 v d p) (hli : Light Try.prog 68 d) : ∃ x : Gr × Mo, RV G0 W (.agg [.d (ints x.1.nodes), .d (AM.edges x.1.edges), .d (ints x.2.nodes), .d (ints x.2.edges)]) v := by
  refine Exists.elim (arg_agg hval j 68 v hp ha rdAr (by kernel_rfl) h hli) fun g hg => ⟨g, ?_⟩
  exact hg.2
end Go.AM

namespace Go.Proofs.Ytgonmjghdkoekaa.factorFactor
open Go Go.AM Go.ChangeShapes

set_option maxRecDepth 100000 in
theorem contract (H : Type) (enc : TypeId × Value → H) (W : World) (base : Nat) (args : Array Value) (ds gs : List (DataW H)) (before : List MemPlace)
    (hval : ∀ (j : Nat) t v, Try.f9.params[j]? = some t → args[j]? = some v → Value.okWide Try.prog W .any base t v)
    (hW : DataW.Whole enc Try.prog Try.f9.params.toList Rows.factorFactorSpec.vars false W args.toList ds gs before)
    (hz : (DataW.weightsEach Try.prog (Try.f9.params.toList ++ []) (ds ++ gs)).all (· ≤ reachBytes) = true) :
    Calls Try.prog 9 args W fun e W' => ∃ v, e = .returned v ∧ Rows.factorFactorSpec.post enc Try.prog Try.f9 false true false false W args v W' := by
  have hW' := hW
  obtain ⟨p, q, hA, hV, rfl, hfz, hnd⟩ := hW
  obtain ⟨rfl, rfl⟩ := trodVars_none hV
  rw [Try.params9] at hA hval hz
  obtain ⟨v0, vs0, d0, ds0, p0, q0, hargs, rfl, rfl, h0, r0⟩ := trodAll_cons hA
  obtain ⟨v1, vs1, d1, ds1, p1, q1, rfl, rfl, rfl, h1, r1⟩ := trodAll_cons r0
  obtain ⟨rfl, rfl, rfl⟩ := trodAll_nil r1
  obtain rfl : args = #[v0, v1] := by cases args; simp_all
  obtain ⟨a, ha⟩ := arg_graph hval 0 v0 rfl rfl h0 (light_arg hz (j := 0) rfl rfl)
  obtain ⟨x, hx⟩ := arg_ar hval 1 v1 rfl rfl h1 (light_arg hz (j := 1) rfl rfl)
  obtain ⟨tok', nt', hc⟩ := law9_c a x.1 x.2 (fun _ => false) 0
  exact law_of laidOut0 mapsRowed0 slices0 (by kernel_rfl) (tb := 4) rfl Try.underlying4 rfl rfl hW' (RVs.cons ha (RVs.cons hx RVs.nil)) hc

set_option maxRecDepth 100000 in
theorem lifted (os : Os) (started : os.Started) (H : Type) (enc : TypeId × Value → H) :
    ReturnsInHanded {} Try.checked os 9 .any (Rows.factorFactorSpec.pre6 enc Try.prog Try.f9 Rows.factorFactorRow.domain false) (Rows.factorFactorSpec.post enc Try.prog Try.f9 false true false false) := by
  refine returnsInHanded_of_change_sized (C := Try.checked) own0 started (by kernel_rfl) Try.func9
    (ChangeSpec.witness6 (enc := enc) (C := Try.checked) false ⟨#[], #[.agg #[.slice none 0 0, .slice none 0 0], .agg #[.slice none 0 0, .slice none 0 0, .slice none 0 0, .slice none 0 0]], []⟩ 8 (by kernel_rfl) (by kernel_rfl) (by kernel_rfl) (by kernel_rfl)) ?_
  intro W base args ds gs before hval hW _ hz _
  exact contract H enc W base args ds gs before hval hW hz

theorem proved : Rows.FactorFactorSaid :=
  OpenClaim.holds_of_wide 9 Try.f9 rfl rfl rfl rfl rfl rfl rfl ⟨rfl, rfl, rfl, rfl, rfl⟩ rfl rfl rfl rfl rfl (by kernel_rfl) Try.func9 (by kernel_rfl)
    (of_decide_eq_true (by kernel_rfl)) (by unfold Func.isWrapper; first | (rw [if_pos (by decide +kernel)]; kernel_rfl) | (rw [if_neg (by decide +kernel)]; exact ⟨rfl, rfl⟩))
    (fun os started H enc _ => lifted os started H enc)
#print axioms proved
end Go.Proofs.Ytgonmjghdkoekaa.factorFactor
