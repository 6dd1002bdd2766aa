import Derived.Test.YtgonmjghdkoekaaFacX
namespace Go.AM
open Go Go.Proofs
set_option linter.unusedSimpArgs false
set_option linter.unusedVariables false

/-! ### awake -/
def gOne : Gr := ⟨[4], []⟩
def gTwo : Gr := ⟨[4, 4], [⟨1, 0, 1⟩]⟩
def gThree : Gr := ⟨[4, 4], []⟩
theorem one_ov : (overlapsR gOne gOne).1.length = 2 ∧ (overlapsR gOne gOne).2 = 0 := by decide +kernel
theorem two_ov : (overlapsR gTwo gTwo).1.length = 8 ∧ (overlapsR gTwo gTwo).2 = 0 := by decide +kernel
theorem three_qu : ∃ x y, (quotientsR gThree) = ([x, y], 0) ∧ x.g.nodes.length = 1 := ⟨(quotientsR gThree).1.getD 0 default, (quotientsR gThree).1.getD 1 default, by decide +kernel, by decide +kernel⟩

theorem Sub.agg {xs ys : List AV} (h : SubL xs ys) : Sub (.agg xs) (.agg ys) := fun G w v r => by
  cases r with
  | agg hl hh h1 => have := h.rvs ⟨hl, hh⟩; exact .agg this.1 this.2 h1

theorem awake_c (tok : Nat → Bool) (nt : Nat) : DCall Try.prog 11 [] tok nt (B true) tok nt := by
  intro box nb
  refine ACalls.of_body Try.func11 rfl (by kernel_rfl) follows_Try (by kernel_rfl) (by simp [Try.ntmps11]) ?_
  intro hbox htok
  simp only at hbox htok
  apply AL.start
  repeat (first | refine AL.seq ?_ | refine AL.block ?_ | refine AL.skip ?_ | refine AL.blk ?_)
  refine AL.region follows_Try (Nat.le_refl _) (by kernel_rfl) ?_
  simp
  repeat (first | refine AL.seq ?_ | refine AL.block ?_ | refine AL.skip ?_ | refine AL.blk ?_)
  refine AL.region follows_Try (Nat.le_refl _) (by kernel_rfl) ?_
  simp
  refine ⟨rfl, ?_⟩
  refine AL.weak (Weaks.mk (l' := [(1, .ptr (nb + 1) 0 0), (2, .ptr (nb + 2) 0 0)]) (loc' := [(1, [[.d (ints gOne.nodes), .d (AM.edges gOne.edges)]]), (2, [[.d (ints gTwo.nodes), .d (AM.edges gTwo.edges)]])]) (Nat.le_refl _) rfl (by simp [ToL, lk]) (by simp [BoxL, lk, gOne, gTwo, ints, AM.edges])) ?_
  obtain ⟨h1, h2⟩ := one_ov
  obtain ⟨h3, h4⟩ := two_ov
  obtain ⟨x, y, h5, h6⟩ := three_qu
  repeat (first | refine AL.seq ?_ | refine AL.block ?_ | refine AL.skip ?_ | refine AL.blk ?_)
  refine AL.region follows_Try (Nat.le_refl _) (by kernel_rfl) ?_
  simp
  refine Stop.of_d (overlapsF_c gOne gOne ⟨by decide, by decide⟩ ⟨by decide, by decide⟩ _ _) ?_
  simp
  repeat (first | refine AL.seq ?_ | refine AL.block ?_ | refine AL.skip ?_ | refine AL.blk ?_)
  refine AL.region follows_Try (Nat.le_refl _) (by kernel_rfl) ?_
  simp
  refine Stop.of_d (overlapsF_c gTwo gTwo ⟨by decide, by decide⟩ ⟨by decide, by decide⟩ _ _) ?_
  simp
  generalize (overlapsR gOne gOne) = r1 at *
  generalize (overlapsR gTwo gTwo) = r2 at *
  obtain ⟨l1, e1⟩ := r1
  obtain ⟨l2, e2⟩ := r2
  simp only at h1 h2 h3 h4
  subst h2; subst h4
  repeat (first | refine AL.seq ?_ | refine AL.block ?_ | refine AL.skip ?_ | refine AL.blk ?_)
  refine AL.region follows_Try (Nat.le_refl _) (by kernel_rfl) ?_
  simp
  refine ⟨rfl, ?_⟩
  refine Stop.sub (args' := [gThree.av]) ⟨Sub.agg ⟨Sub.data _ _ _, Sub.nil _ _ _, trivial⟩, trivial⟩ ?_
  · refine Stop.of_d (quotientsF_c gThree ⟨by decide, by decide⟩ _ _) ?_
    rw [h5]
    simp
    repeat (first | refine AL.seq ?_ | refine AL.block ?_ | refine AL.skip ?_ | refine AL.blk ?_)
    refine AL.region follows_Try (Nat.le_refl _) (by kernel_rfl) ?_
    simp [h1, h3, h6]
    repeat (first | refine AL.seq ?_ | refine AL.block ?_ | refine AL.skip ?_ | refine AL.blk ?_)
    refine AL.ret ?_
    try simp only [AU]
    refine ⟨by simp, Fin.data (by simp [resAs, resA]; rfl) hbox rfl htok (fun _ h => h) (Nat.le_refl _) ?_⟩
    simp [packA]
end Go.AM
