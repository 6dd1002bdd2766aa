import Derived.Test.YtgonmjghdkoekaaAmTab
import Derived.Test.YtgonmjghdkoekaaAmUse
namespace Go.AM
open Go Go.Proofs
set_option linter.unusedSimpArgs false
set_option linter.unusedVariables false

/-! ### graph.within, fits; ref05.kind, right -/
def withinB (n most : Int) : Bool := decide (0 ≤ n) && decide (n ≤ most)
def fitsB (e : E) (nodes : Int) : Bool := withinB e.ty 99 && (withinB e.fr (nodes - 1) && withinB e.to (nodes - 1))

theorem within_c (n most : Int) (tok : Nat → Bool) (nt : Nat) : DCall Try.prog 79 [I n, I most] tok nt (B (withinB n most)) tok nt := by
  intro box nb
  refine ACalls.of_body Try.func79 rfl (by kernel_rfl) follows_Try (by kernel_rfl) (by simp [Try.ntmps79]) ?_
  intro hbox htok
  simp only at hbox htok
  apply AL.start
  repeat (first | refine AL.seq ?_ | refine AL.block ?_ | refine AL.skip ?_ | refine AL.blk ?_)
  refine AL.region follows_Try (Nat.le_refl _) (by kernel_rfl) ?_
  simp
  repeat (first | refine AL.seq ?_ | refine AL.block ?_ | refine AL.skip ?_ | refine AL.blk ?_)
  refine AL.region follows_Try (Nat.le_refl _) (by kernel_rfl) ?_
  simp
  first | refine Gd.dt (fun h => ?_) (fun h => ?_) | refine Gd.df (fun h => ?_) (fun h => ?_) | refine Gd.t (fun h => ?_) (fun h => ?_) | refine Gd.f (fun h => ?_) (fun h => ?_)
  · simp [h]
    repeat (first | refine AL.seq ?_ | refine AL.block ?_ | refine AL.skip ?_ | refine AL.blk ?_)
    refine AL.ret ?_
    try simp only [AU]
    refine ⟨by simp, Fin.data (by simp [resAs, resA]; rfl) hbox rfl htok (fun _ h => h) (Nat.le_refl _) ?_⟩
    simp [packA, withinB, h]
  · simp [h]
    repeat (first | refine AL.seq ?_ | refine AL.block ?_ | refine AL.skip ?_ | refine AL.blk ?_)
    refine AL.ret ?_
    try simp only [AU]
    refine ⟨by simp, Fin.data (by simp [resAs, resA]; rfl) hbox rfl htok (fun _ h => h) (Nat.le_refl _) ?_⟩
    simp [packA, withinB, h]

theorem fits_c (e : E) (nodes : Int) (h0 : 0 ≤ nodes) (h1 : nodes ≤ 1000000) (tok : Nat → Bool) (nt : Nat) : DCall Try.prog 82 [.agg [I e.ty, I e.fr, I e.to], I nodes] tok nt (B (fitsB e nodes)) tok nt := by
  intro box nb
  have hw : IntKind.i64.wrap (nodes - 1) = nodes - 1 := wrap_in (by omega) (by omega)
  refine ACalls.of_body Try.func82 rfl (by kernel_rfl) follows_Try (by kernel_rfl) (by simp [Try.ntmps82]) ?_
  intro hbox htok
  simp only at hbox htok
  apply AL.start
  repeat (first | refine AL.seq ?_ | refine AL.block ?_ | refine AL.skip ?_ | refine AL.blk ?_)
  refine AL.region follows_Try (Nat.le_refl _) (by kernel_rfl) ?_
  simp
  repeat (first | refine AL.seq ?_ | refine AL.block ?_ | refine AL.skip ?_ | refine AL.blk ?_)
  refine AL.region follows_Try (Nat.le_refl _) (by kernel_rfl) ?_
  simp [hw]
  refine Stop.of_d (within_c _ _ _ _) ?_
  simp [hw]
  first | refine Gd.dt (fun h2 => ?_) (fun h2 => ?_) | refine Gd.df (fun h2 => ?_) (fun h2 => ?_) | refine Gd.t (fun h2 => ?_) (fun h2 => ?_) | refine Gd.f (fun h2 => ?_) (fun h2 => ?_)
  · simp [hw, h2]
    refine Stop.of_d (within_c _ _ _ _) ?_
    simp [hw, h2]
    first | refine Gd.dt (fun h3 => ?_) (fun h3 => ?_) | refine Gd.df (fun h3 => ?_) (fun h3 => ?_) | refine Gd.t (fun h3 => ?_) (fun h3 => ?_) | refine Gd.f (fun h3 => ?_) (fun h3 => ?_)
    · simp [hw, h3]
      refine Stop.of_d (within_c _ _ _ _) ?_
      simp [hw, h2, h3]
      repeat (first | refine AL.seq ?_ | refine AL.block ?_ | refine AL.skip ?_ | refine AL.blk ?_)
      refine AL.ret ?_
      try simp only [AU]
      refine ⟨by simp, Fin.data (by simp [resAs, resA]; rfl) hbox rfl htok (fun _ h => h) (Nat.le_refl _) ?_⟩
      simp [packA, fitsB, h2, h3]
    · simp [h3]
      repeat (first | refine AL.seq ?_ | refine AL.block ?_ | refine AL.skip ?_ | refine AL.blk ?_)
      refine AL.ret ?_
      try simp only [AU]
      refine ⟨by simp, Fin.data (by simp [resAs, resA]; rfl) hbox rfl htok (fun _ h => h) (Nat.le_refl _) ?_⟩
      simp [packA, fitsB, h2, h3]
  · simp [h2]
    repeat (first | refine AL.seq ?_ | refine AL.block ?_ | refine AL.skip ?_ | refine AL.blk ?_)
    refine AL.ret ?_
    try simp only [AU]
    refine ⟨by simp, Fin.data (by simp [resAs, resA]; rfl) hbox rfl htok (fun _ h => h) (Nat.le_refl _) ?_⟩
    simp [packA, fitsB, h2]

theorem valid1_c (n : Int) (tok : Nat → Bool) (nt : Nat) : DCall Try.prog 78 [I n] tok nt (B (!withinB n 99)) tok nt := by
  intro box nb
  refine ACalls.of_body Try.func78 rfl (by kernel_rfl) follows_Try (by kernel_rfl) (by simp [Try.ntmps78]) ?_
  intro hbox htok
  simp only at hbox htok
  apply AL.start
  repeat (first | refine AL.seq ?_ | refine AL.block ?_ | refine AL.skip ?_ | refine AL.blk ?_)
  refine AL.region follows_Try (Nat.le_refl _) (by kernel_rfl) ?_
  simp
  repeat (first | refine AL.seq ?_ | refine AL.block ?_ | refine AL.skip ?_ | refine AL.blk ?_)
  refine AL.region follows_Try (Nat.le_refl _) (by kernel_rfl) ?_
  simp
  refine Stop.of_d (within_c _ _ _ _) ?_
  simp
  repeat (first | refine AL.seq ?_ | refine AL.block ?_ | refine AL.skip ?_ | refine AL.blk ?_)
  refine AL.ret ?_
  try simp only [AU]
  refine ⟨by simp, Fin.data (by simp [resAs, resA]; rfl) hbox rfl htok (fun _ h => h) (Nat.le_refl _) ?_⟩
  simp [packA]

theorem valid2_c (e : E) (g : Gr) (hg : g.nodes.length ≤ 1000000) (tok : Nat → Bool) (nt : Nat) (box : Nat → Option (List (List AV))) (nb k : Nat) (hk : box k = some [[.d (ints g.nodes), .d (AM.edges g.edges)]]) :
    ACalls Try.prog 81 [.agg [I e.ty, I e.fr, I e.to], .ptr k 0 0] ⟨box, nb, tok, nt⟩ fun v m => v = B (!fitsB e g.nodes.length) ∧ m = ⟨box, nb, tok, nt⟩ := by
  refine ACalls.of_body Try.func81 rfl (by kernel_rfl) follows_Try (by kernel_rfl) (by simp [Try.ntmps81]) ?_
  intro hbox htok
  simp only at hbox htok
  apply AL.start
  have hkn := key_lt hbox hk
  repeat (first | refine AL.seq ?_ | refine AL.block ?_ | refine AL.skip ?_ | refine AL.blk ?_)
  refine AL.region follows_Try (Nat.le_refl _) (by kernel_rfl) ?_
  simp
  repeat (first | refine AL.seq ?_ | refine AL.block ?_ | refine AL.skip ?_ | refine AL.blk ?_)
  refine AL.region follows_Try (Nat.le_refl _) (by kernel_rfl) ?_
  simp [lb_out hkn, hk]
  refine Stop.of_d (fits_c e g.nodes.length (by omega) (by omega) _ _) ?_
  simp
  repeat (first | refine AL.seq ?_ | refine AL.block ?_ | refine AL.skip ?_ | refine AL.blk ?_)
  refine AL.ret ?_
  try simp only [AU]
  refine ⟨by simp, Fin.data (by simp [resAs, resA]; rfl) hbox rfl htok (fun _ h => h) (Nat.le_refl _) ?_⟩
  simp [packA]
end Go.AM
