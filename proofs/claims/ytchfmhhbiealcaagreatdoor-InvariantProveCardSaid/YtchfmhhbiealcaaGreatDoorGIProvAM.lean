/-
  'InvariantProve' returns true for every argument, and leaves the arguments as they were.
-/
import Derived.Test.YtchfmhhbiealcaaGreatDoorPIB16
import Derived.Test.YtchfmhhbiealcaaGreatDoorTie
import Derived.Test.YtchfmhhbiealcaaGreatDoorCards
import Derived.SevenTiedAt
import Derived.LaidMore
namespace Go.Proofs.YtchfmhhbiealcaaGreatDoor.invariantProve
open Go Go.AM Go.ChangeShapes Go.RowKit

set_option maxRecDepth 100000 in
theorem contract (H : Type) (enc : TypeId × Value → H) (W : World) (base : Nat) (args : Array Value) (ds gs : List (DataW H)) (before : List MemPlace)
    (hval : ∀ (j : Nat) t v, Tryz.f5.params[j]? = some t → args[j]? = some v → Value.okWide Tryz.prog W .any base t v)
    (hW : DataW.Whole enc Tryz.prog Tryz.f5.params.toList Rows.invariantProveSpec.vars false W args.toList ds gs before)
    (hz : (DataW.weightsEach Tryz.prog (Tryz.f5.params.toList ++ []) (ds ++ gs)).all (· ≤ reachBytes) = true) :
    Calls Tryz.prog 5 args W fun e W' => ∃ v, e = .returned v ∧ Rows.invariantProveSpec.post enc Tryz.prog Tryz.f5 false true false false W args v W' := by
  have hW' := hW
  obtain ⟨p, q, hA, hV, rfl, hfz, hnd⟩ := hW
  obtain ⟨rfl, rfl⟩ := trodVars_none hV
  rw [Tryz.params5] at hA hval hz
  obtain ⟨v0, vs0, d0, ds0, p0, q0, hargs, rfl, rfl, h0, r0⟩ := trodAll_cons hA
  obtain ⟨rfl, rfl, rfl⟩ := trodAll_nil r0
  obtain rfl : args = #[v0] := by cases args; simp_all
  obtain ⟨t0, L0, l0, b0, ha0⟩ := arg_case hval 0 v0 rfl rfl h0 (light_arg hz (j := 0) rfl rfl)
  obtain ⟨tok', nt', hc⟩ := lawProve44_c t0 L0 l0 b0 (fun _ => false) 0
  exact law_of laidOut0 mapsRowed0 slices0 (by kernel_rfl) (tb := 4) rfl Tryz.underlying4 rfl rfl hW' (RVs.cons ha0 RVs.nil) hc

theorem door_met (os : Os) (args : Array Value) : laidMetH Tryz.prog Rows.invariantProveRow.laid ((World.doorLaid Tryz.prog 65 os).forCall (fun _ _ => 0) ⟨#[], args, []⟩).memory :=
  laidMetH_of_parts3 (fuel := 8) (laidMet_of_run' 8 (by kernel_rfl) (by kernel_rfl)) (by kernel_rfl) (by kernel_rfl)
set_option maxRecDepth 100000 in
theorem lifted (os : Os) (started : os.Started) (H : Type) (enc : TypeId × Value → H) :
    ReturnsInHanded {} Tryz.checked os 5 .any (fun w args => (Rows.invariantProveSpec.pre enc Tryz.prog Tryz.f5 Rows.invariantProveRow.domain false w args ∧ laidMetH Tryz.prog Rows.invariantProveRow.laid w) ∧ sizedMet enc Tryz.prog Tryz.f5 (OpenSpec.ofChange Rows.invariantProveSpec) false w args)
      (Rows.invariantProveSpec.post enc Tryz.prog Tryz.f5 false true false false) := by
  refine returnsInHanded_of_change_and (C := Tryz.checked) (X := fun w _ => laidMetH Tryz.prog Rows.invariantProveRow.laid w) (fun _ _ _ hh h => h.of_heap hh) own0 started (by kernel_rfl) Tryz.func5
    (ChangeSpec.witness_shaped (enc := enc) (C := Tryz.checked) (os := os) (X := fun w _ => laidMetH Tryz.prog Rows.invariantProveRow.laid w) false (World.doorLaid Tryz.prog 65 os) #[.agg #[.slice none 0 0, .slice none 0 0, .slice none 0 0, .slice none 0 0]] 12 rfl (World.shaped_of_RefB (by kernel_rfl) (by kernel_rfl)) (by kernel_rfl) (by kernel_rfl) (by kernel_rfl) (door_met os _)) ?_
  intro W base args ds gs before hval hW _ hz _ _
  exact contract H enc W base args ds gs before hval hW hz

theorem tt {a b : Bool} (h : a = true) (k : b = true) : (a && b) = true := by rw [h, k]; rfl
set_option maxHeartbeats 40000000 in
theorem facts : joinedFacts Tryz.pinned.checked.prog 5 Tryz.f5 Rows.invariantProveSpec Rows.invariantProveRow = true := by
  unfold joinedFacts
  repeat' (with_reducible refine tt ?_ ?_)
  all_goals (as_aux_lemma => kernel_rfl)
theorem said : Rows.InvariantProveSaid :=
  OpenClaim.holds_of_wide 5 Tryz.f5 rfl rfl rfl rfl rfl rfl rfl ⟨rfl, rfl, rfl, rfl, rfl⟩ rfl rfl rfl rfl rfl (by kernel_rfl) Tryz.func5 facts
    (of_decide_eq_true (by kernel_rfl)) (by unfold Func.isWrapper; first | (rw [if_pos (by decide +kernel)]; kernel_rfl) | (rw [if_neg (by decide +kernel)]; exact ⟨rfl, rfl⟩))
    (fun os started H enc _ => lifted os started H enc)
end Go.Proofs.YtchfmhhbiealcaaGreatDoor.invariantProve
