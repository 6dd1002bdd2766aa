/-
  'ConstraintExcesses', the card.
-/
import Derived.Test.YtainalmfffjnjaaGreatDoorXGKExcAM
namespace Go.Proofs.YtainalmfffjnjaaGreatDoor.constraintExcesses
open Go Go.AM Go.ChangeShapes Go.RowKit
theorem proved : Rows.ConstraintExcessesCardSaid :=
  Claim7.holds_tied_plain_at .later [] [.data, .data, .data] true (true, "a3f47860948e00f7fcbaeae9c8b66ca0dacf20972c5400080071cbdd8340ad38") false
    said (fun _ h => by cases h) (by as_aux_lemma => kernel_rfl) (fun _ h => by cases h) constraintExcesses_row_tie rfl ⟨rfl, rfl⟩ (by as_aux_lemma => kernel_rfl) rfl
    (fun f fn hf hfn => by
      obtain rfl : f = 9 := Option.some.inj ((show Tryz.prog.funcNamed "scarfjoint/scarfjointlaw42.ConstraintExcesses" = some 9 by kernel_rfl).symm.trans hf) |>.symm
      obtain rfl : fn = Tryz.f9 := (Option.some.inj (Tryz.func9.symm.trans hfn)).symm
      refine ⟨by kernel_rfl, fun j t ht => ?_⟩
      rw [Tryz.params9] at ht
      have key : ((#[101, 66] : Array TypeId).all fun t => !(Tryz.prog.wantsStandIn t)) = true := by kernel_rfl
      have h2 := Array.all_eq_true_iff_forall_mem.1 key t (Array.mem_of_getElem? ht)
      have h3 : Tryz.prog.wantsStandIn t = false := by simpa using h2
      exact h3)
    (by as_aux_lemma => kernel_rfl)
end Go.Proofs.YtainalmfffjnjaaGreatDoor.constraintExcesses
