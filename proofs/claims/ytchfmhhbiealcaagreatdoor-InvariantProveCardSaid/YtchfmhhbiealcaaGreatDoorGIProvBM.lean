/-
  'InvariantProve', the card.
-/
import Derived.Test.YtchfmhhbiealcaaGreatDoorGIProvAM
namespace Go.Proofs.YtchfmhhbiealcaaGreatDoor.invariantProve
open Go Go.AM Go.ChangeShapes Go.RowKit
theorem proved : Rows.InvariantProveCardSaid :=
  Claim7.holds_tied_plain_at .later [] [.data, .data, .data] true (true, "95b473fd61bf1b1498cc3aca708f0c25f570193d314b3acb20c9251ab7181ada") false
    said (fun _ h => by cases h) (by as_aux_lemma => kernel_rfl) (fun _ h => by cases h) invariantProve_row_tie rfl ⟨rfl, rfl⟩ (by as_aux_lemma => kernel_rfl) rfl
    (fun f fn hf hfn => by
      obtain rfl : f = 5 := Option.some.inj ((show Tryz.prog.funcNamed "scarfjoint/scarfjointlaw44.InvariantProve" = some 5 by kernel_rfl).symm.trans hf) |>.symm
      obtain rfl : fn = Tryz.f5 := (Option.some.inj (Tryz.func5.symm.trans hfn)).symm
      refine ⟨by kernel_rfl, fun j t ht => ?_⟩
      rw [Tryz.params5] at ht
      have key : ((#[29] : Array TypeId).all fun t => !(Tryz.prog.wantsStandIn t)) = true := by kernel_rfl
      have h2 := Array.all_eq_true_iff_forall_mem.1 key t (Array.mem_of_getElem? ht)
      have h3 : Tryz.prog.wantsStandIn t = false := by simpa using h2
      exact h3)
    (by as_aux_lemma => kernel_rfl)
end Go.Proofs.YtchfmhhbiealcaaGreatDoor.invariantProve
