/-
  'ProgramBlanks' returns true for every argument, and leaves the arguments as they were.
-/
import Derived.Test.YtedpnmlgbjcpcaaGreatDoorMB9
import Derived.Test.YtedpnmlgbjcpcaaGreatDoorTie
import Derived.Test.YtedpnmlgbjcpcaaGreatDoorCards
import Derived.SevenTiedAt
namespace Go.Proofs.YtedpnmlgbjcpcaaGreatDoor.programBlanks
open Go Go.AM Go.ChangeShapes Go.RowKit

theorem tab_of {W : World} (h : laidMetH Tryz.prog Rows.programBlanksRow.laid W) : Lib.TabIs Tryz.prog W "strings.asciiSpace" .u8 Lib.asciiSpaceTab := by
  have h1 := h.filter (fun x => x.1 == "strings.asciiSpace")
  have e : (Rows.programBlanksRow.laid.filter fun x => x.1 == "strings.asciiSpace") = [("strings.asciiSpace", Lib.tabData .u8 Lib.asciiSpaceTab)] := by kernel_rfl
  rw [e, MakeChecks.laidMetH_plain _ _ _ (by kernel_rfl)] at h1
  exact Lib.tabIs_of_head (g := (Tryz.prog.globalNamed "strings.asciiSpace").getD 0) (t := 138) (e := 5) (n := 256) (by kernel_rfl) (by kernel_rfl) (by kernel_rfl) (by kernel_rfl) (by kernel_rfl) (by kernel_rfl) h1
set_option maxRecDepth 100000 in
theorem contract (H : Type) (enc : TypeId × Value → H) (W : World) (base : Nat) (args : Array Value) (ds gs : List (DataW H)) (before : List MemPlace)
    (hval : ∀ (j : Nat) t v, Tryz.f10.params[j]? = some t → args[j]? = some v → Value.okWide Tryz.prog W .any base t v)
    (hW : DataW.Whole enc Tryz.prog Tryz.f10.params.toList Rows.programBlanksSpec.vars false W args.toList ds gs before)
    (hz : (DataW.weightsEach Tryz.prog (Tryz.f10.params.toList ++ []) (ds ++ gs)).all (· ≤ reachBytes) = true)
    (htab : Lib.TabIs Tryz.prog W "strings.asciiSpace" .u8 Lib.asciiSpaceTab) :
    Calls Tryz.prog 10 args W fun e W' => ∃ v, e = .returned v ∧ Rows.programBlanksSpec.post enc Tryz.prog Tryz.f10 false true false false W args v W' := by
  have hW' := hW
  obtain ⟨p, q, hA, hV, rfl, hfz, hnd⟩ := hW
  obtain ⟨rfl, rfl⟩ := trodVars_none hV
  rw [Tryz.params10] at hA hval hz
  obtain ⟨v0, vs0, d0, ds0, p0, q0, hargs, rfl, rfl, h0, r0⟩ := trodAll_cons hA
  obtain ⟨v1, vs1, d1, ds1, p1, q1, rfl, rfl, rfl, h1, r1⟩ := trodAll_cons r0
  obtain ⟨rfl, rfl, rfl⟩ := trodAll_nil r1
  obtain rfl : args = #[v0, v1] := by cases args; simp_all
  obtain ⟨a0, b0, ha0⟩ := arg_u8ss hval 0 v0 rfl rfl h0 (light_arg hz (j := 0) rfl rfl)
  obtain ⟨a1, b1, ha1⟩ := arg_u8s hval 1 v1 rfl rfl h1 (light_arg hz (j := 1) rfl rfl)
  exact law_at46 laidOut0 mapsRowed0 slices0 (by kernel_rfl) (tb := 4) rfl Tryz.underlying4 rfl rfl hW' (lawBlanks_k a0 b0 a1 b1 W v0 v1 ha0 ha1 htab)

theorem door_met (os : Os) (args : Array Value) : laidMetH Tryz.prog Rows.programBlanksRow.laid ((World.doorLaid Tryz.prog 48 os).forCall (fun _ _ => 0) ⟨#[], args, []⟩).memory :=
  laidMetH_of_parts3 (fuel := 8) (laidMet_of_run' 8 (by kernel_rfl) (by kernel_rfl)) (by kernel_rfl) (by kernel_rfl)
set_option maxRecDepth 100000 in
theorem lifted (os : Os) (started : os.Started) (H : Type) (enc : TypeId × Value → H) :
    ReturnsInHanded {} Tryz.checked os 10 .any (fun w args => (Rows.programBlanksSpec.pre enc Tryz.prog Tryz.f10 Rows.programBlanksRow.domain false w args ∧ laidMetH Tryz.prog Rows.programBlanksRow.laid w) ∧ sizedMet enc Tryz.prog Tryz.f10 (OpenSpec.ofChange Rows.programBlanksSpec) false w args)
      (Rows.programBlanksSpec.post enc Tryz.prog Tryz.f10 false true false false) := by
  refine returnsInHanded_of_change_and (C := Tryz.checked) (X := fun w _ => laidMetH Tryz.prog Rows.programBlanksRow.laid w) (fun _ _ _ hh h => h.of_heap hh) own0 started (by kernel_rfl) Tryz.func10
    (ChangeSpec.witness_shaped (enc := enc) (C := Tryz.checked) (os := os) (X := fun w _ => laidMetH Tryz.prog Rows.programBlanksRow.laid w) false (World.doorLaid Tryz.prog 48 os) #[.slice none 0 0, .slice none 0 0] 8 rfl (World.shaped_of_RefB (by kernel_rfl) (by kernel_rfl)) (by kernel_rfl) (by kernel_rfl) (by kernel_rfl) (door_met os _)) ?_
  intro W base args ds gs before hval hW _ hz h1 h2
  exact contract H enc W base args ds gs before hval hW hz (tab_of h1)

theorem tt {a b : Bool} (h : a = true) (k : b = true) : (a && b) = true := by rw [h, k]; rfl
set_option maxHeartbeats 40000000 in
theorem facts : joinedFacts Tryz.pinned.checked.prog 10 Tryz.f10 Rows.programBlanksSpec Rows.programBlanksRow = true := by
  unfold joinedFacts
  repeat' (with_reducible refine tt ?_ ?_)
  all_goals (as_aux_lemma => kernel_rfl)
theorem said : Rows.ProgramBlanksSaid :=
  OpenClaim.holds_of_wide 10 Tryz.f10 rfl rfl rfl rfl rfl rfl rfl ⟨rfl, rfl, rfl, rfl, rfl⟩ rfl rfl rfl rfl rfl (by kernel_rfl) Tryz.func10 facts
    (of_decide_eq_true (by kernel_rfl)) (by unfold Func.isWrapper; first | (rw [if_pos (by decide +kernel)]; kernel_rfl) | (rw [if_neg (by decide +kernel)]; exact ⟨rfl, rfl⟩))
    (fun os started H enc _ => lifted os started H enc)
theorem proved : Rows.ProgramBlanksCardSaid :=
  Claim7.holds_tied_plain_at .later [] [.data, .data, .data, .listed, .data] true (true, "e972a1b925709124e7401ad8f2f52b2ac5c816e5f12c4f0033e435b11d4f15bc") false
    said (fun _ h => by cases h) (by kernel_rfl) (fun _ h => by cases h) programBlanks_row_tie rfl ⟨rfl, rfl⟩ (by kernel_rfl) rfl
    (fun f fn hf hfn => by
      obtain rfl : f = 10 := Option.some.inj ((show Tryz.prog.funcNamed "scarfjoint/scarfjointlaw46.ProgramBlanks" = some 10 by kernel_rfl).symm.trans hf) |>.symm
      obtain rfl : fn = Tryz.f10 := (Option.some.inj (Tryz.func10.symm.trans hfn)).symm
      refine ⟨by kernel_rfl, fun j t ht => ?_⟩
      rw [Tryz.params10] at ht
      have key : ((#[49, 60] : Array TypeId).all fun t => !(Tryz.prog.wantsStandIn t)) = true := by kernel_rfl
      have h2 := Array.all_eq_true_iff_forall_mem.1 key t (Array.mem_of_getElem? ht)
      have h3 : Tryz.prog.wantsStandIn t = false := by simpa using h2
      exact h3)
    (by kernel_rfl)
#print axioms proved
end Go.Proofs.YtedpnmlgbjcpcaaGreatDoor.programBlanks
