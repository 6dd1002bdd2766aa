import Derived.Test.YtbihadcpidlfoaaGreatPSL4
namespace Go.AM
open Go Go.Proofs
set_option linter.unusedSimpArgs false
set_option linter.unusedVariables false

/-! ### graph.Valid, ref05.Valid, Few, Small, Copied -/
def validG (g : Gr) : Int := if 40 < g.nodes.length ∨ 80 < g.edges.length then 3 else if anyB (fun n => !withinB n 99) g.nodes then 6 else if anyB (fun e => !fitsB e g.nodes.length) g.edges then 6 else 0

structure Gr.Fit (g : Gr) : Prop where
  n : g.nodes.length ≤ 1000000
  e : g.edges.length ≤ 1000000

theorem graphValid_c (g : Gr) (hg : g.Fit) (tok : Nat → Bool) (nt : Nat) : DCall Tryz.prog 38 [g.av] tok nt (I (validG g)) tok nt := by
  intro box nb
  have hn := hg.n
  have he := hg.e
  refine ACalls.of_body Tryz.func38 rfl (by kernel_rfl) follows_Tryz (by kernel_rfl) (by simp [Tryz.ntmps38]) ?_
  intro hbox htok
  simp only at hbox htok
  apply AL.start
  repeat (first | refine AL.seq ?_ | refine AL.block ?_ | refine AL.skip ?_ | refine AL.blk ?_)
  refine AL.region follows_Tryz (Nat.le_refl _) (by kernel_rfl) ?_
  simp
  repeat (first | refine AL.seq ?_ | refine AL.block ?_ | refine AL.skip ?_ | refine AL.blk ?_)
  refine AL.region follows_Tryz (Nat.le_refl _) (by kernel_rfl) ?_
  simp
  first | refine Gd.dt (fun h1 => ?_) (fun h1 => ?_) | refine Gd.df (fun h1 => ?_) (fun h1 => ?_) | refine Gd.t (fun h1 => ?_) (fun h1 => ?_) | refine Gd.f (fun h1 => ?_) (fun h1 => ?_)
  · simp [h1]
    repeat (first | refine AL.seq ?_ | refine AL.block ?_ | refine AL.skip ?_ | refine AL.blk ?_)
    refine AL.cond ?_
    simp
    repeat (first | refine AL.seq ?_ | refine AL.block ?_ | refine AL.skip ?_ | refine AL.blk ?_)
    refine AL.region follows_Tryz (Nat.le_refl _) (by kernel_rfl) ?_
    simp
    repeat (first | refine AL.seq ?_ | refine AL.block ?_ | refine AL.skip ?_ | refine AL.blk ?_)
    refine AL.ret ?_
    try simp only [AU]
    refine ⟨by simp, Fin.data (by simp [resAs, resA]; rfl) hbox rfl htok (fun _ h => h) (Nat.le_refl _) ?_⟩
    simp [packA, validG, show 40 < g.nodes.length by omega]
  · simp [h1]
    repeat (first | refine AL.seq ?_ | refine AL.block ?_ | refine AL.skip ?_ | refine AL.blk ?_)
    refine AL.cond ?_
    simp
    refine ⟨fun h2 => ?_, fun h2 => ?_⟩
    · repeat (first | refine AL.seq ?_ | refine AL.block ?_ | refine AL.skip ?_ | refine AL.blk ?_)
      refine AL.region follows_Tryz (Nat.le_refl _) (by kernel_rfl) ?_
      simp
      repeat (first | refine AL.seq ?_ | refine AL.block ?_ | refine AL.skip ?_ | refine AL.blk ?_)
      refine AL.ret ?_
      try simp only [AU]
      refine ⟨by simp, Fin.data (by simp [resAs, resA]; rfl) hbox rfl htok (fun _ h => h) (Nat.le_refl _) ?_⟩
      simp [packA, validG, show 80 < g.edges.length by omega]
    · have hn1 : ¬ 40 < g.nodes.length := by omega
      have hn2 : ¬ 80 < g.edges.length := by omega
      repeat (first | refine AL.seq ?_ | refine AL.block ?_ | refine AL.skip ?_ | refine AL.blk ?_)
      refine AL.region follows_Tryz (Nat.le_refl _) (by kernel_rfl) ?_
      simp
      refine Stop.of_b (containsFunc_c g.nodes 62 [] (fun n => !withinB n 99) hn _ _ _ _ (by simp) (fun x _ box' nb' _ => valid1_c x _ _ box' nb')) ?_
      simp
      repeat (first | refine AL.seq ?_ | refine AL.block ?_ | refine AL.skip ?_ | refine AL.blk ?_)
      refine AL.cond ?_
      simp
      refine ⟨fun h3 => ?_, fun h3 => ?_⟩
      · repeat (first | refine AL.seq ?_ | refine AL.block ?_ | refine AL.skip ?_ | refine AL.blk ?_)
        refine AL.region follows_Tryz (Nat.le_refl _) (by kernel_rfl) ?_
        simp
        repeat (first | refine AL.seq ?_ | refine AL.block ?_ | refine AL.skip ?_ | refine AL.blk ?_)
        refine AL.ret ?_
        try simp only [AU]
        refine ⟨by simp, Fin.data (by simp [resAs, resA]; rfl) hbox rfl htok (fun _ h => h) (Nat.le_refl _) ?_⟩
        simp [packA, validG, hn1, hn2, h3]
      · repeat (first | refine AL.seq ?_ | refine AL.block ?_ | refine AL.skip ?_ | refine AL.blk ?_)
        refine AL.region follows_Tryz (Nat.le_refl _) (by kernel_rfl) ?_
        simp
        refine Stop.of_b (containsFuncE_c g.edges 65 [.ptr (nb + 1) 0 0] (fun e => !fitsB e g.nodes.length) he _ _ _ _ (by simp [lb_at, lk]) (fun x _ box' nb' hx => valid2_c x g hn _ _ box' nb' (nb + 1) (hx _ _ (by simp [lb_at, lk])))) ?_
        simp
        repeat (first | refine AL.seq ?_ | refine AL.block ?_ | refine AL.skip ?_ | refine AL.blk ?_)
        refine AL.cond ?_
        simp
        refine ⟨fun h4 => ?_, fun h4 => ?_⟩
        · repeat (first | refine AL.seq ?_ | refine AL.block ?_ | refine AL.skip ?_ | refine AL.blk ?_)
          refine AL.region follows_Tryz (Nat.le_refl _) (by kernel_rfl) ?_
          simp
          repeat (first | refine AL.seq ?_ | refine AL.block ?_ | refine AL.skip ?_ | refine AL.blk ?_)
          refine AL.ret ?_
          try simp only [AU]
          refine ⟨by simp, Fin.data (by simp [resAs, resA]; rfl) hbox rfl htok (fun _ h => h) (Nat.le_refl _) ?_⟩
          simp [packA, validG, hn1, hn2, h3, h4]
        · repeat (first | refine AL.seq ?_ | refine AL.block ?_ | refine AL.skip ?_ | refine AL.blk ?_)
          refine AL.region follows_Tryz (Nat.le_refl _) (by kernel_rfl) ?_
          simp
          repeat (first | refine AL.seq ?_ | refine AL.block ?_ | refine AL.skip ?_ | refine AL.blk ?_)
          refine AL.ret ?_
          try simp only [AU]
          refine ⟨by simp, Fin.data (by simp [resAs, resA]; rfl) hbox rfl htok (fun _ h => h) (Nat.le_refl _) ?_⟩
          simp [packA, validG, hn1, hn2, h3, h4]
end Go.AM
namespace Go.AM
open Go Go.Proofs
set_option linter.unusedSimpArgs false
set_option linter.unusedVariables false

/-! ### ref05: kind, right, Valid, Few, Copied; ref13: Small -/
theorem kind_c (n : Int) (tok : Nat → Bool) (nt : Nat) : DCall Tryz.prog 26 [I n] tok nt (B (withinB n 99)) tok nt := by
  intro box nb
  refine ACalls.of_body Tryz.func26 rfl (by kernel_rfl) follows_Tryz (by kernel_rfl) (by simp [Tryz.ntmps26]) ?_
  intro hbox htok
  simp only at hbox htok
  apply AL.start
  repeat (first | refine AL.seq ?_ | refine AL.block ?_ | refine AL.skip ?_ | refine AL.blk ?_)
  refine AL.region follows_Tryz (Nat.le_refl _) (by kernel_rfl) ?_
  simp
  repeat (first | refine AL.seq ?_ | refine AL.block ?_ | refine AL.skip ?_ | refine AL.blk ?_)
  refine AL.region follows_Tryz (Nat.le_refl _) (by kernel_rfl) ?_
  simp
  first | refine Gd.dt (fun h => ?_) (fun h => ?_) | refine Gd.df (fun h => ?_) (fun h => ?_) | refine Gd.t (fun h => ?_) (fun h => ?_) | refine Gd.f (fun h => ?_) (fun h => ?_)
  · simp [h]
    repeat (first | refine AL.seq ?_ | refine AL.block ?_ | refine AL.skip ?_ | refine AL.blk ?_)
    refine AL.ret ?_
    try simp only [AU]
    refine ⟨by simp, Fin.data (by simp [resAs, resA]; rfl) hbox rfl htok (fun _ h => h) (Nat.le_refl _) ?_⟩
    simp [packA, withinB, h]
  · simp [h]
    repeat (first | refine AL.seq ?_ | refine AL.block ?_ | refine AL.skip ?_ | refine AL.blk ?_)
    refine AL.ret ?_
    try simp only [AU]
    refine ⟨by simp, Fin.data (by simp [resAs, resA]; rfl) hbox rfl htok (fun _ h => h) (Nat.le_refl _) ?_⟩
    simp [packA, withinB, h]

theorem right_c (e : E) (nodes : Int) (tok : Nat → Bool) (nt : Nat) : DCall Tryz.prog 27 [.agg [I e.ty, I e.fr, I e.to], I nodes] tok nt (B (fitsB e nodes)) tok nt := by
  intro box nb
  refine ACalls.of_body Tryz.func27 rfl (by kernel_rfl) follows_Tryz (by kernel_rfl) (by simp [Tryz.ntmps27]) ?_
  intro hbox htok
  simp only at hbox htok
  apply AL.start
  repeat (first | refine AL.seq ?_ | refine AL.block ?_ | refine AL.skip ?_ | refine AL.blk ?_)
  refine AL.region follows_Tryz (Nat.le_refl _) (by kernel_rfl) ?_
  simp
  repeat (first | refine AL.seq ?_ | refine AL.block ?_ | refine AL.skip ?_ | refine AL.blk ?_)
  refine AL.region follows_Tryz (Nat.le_refl _) (by kernel_rfl) ?_
  simp
  refine Stop.of_d (kind_c _ _ _) ?_
  simp
  first | refine Gd.dt (fun h1 => ?_) (fun h1 => ?_) | refine Gd.df (fun h1 => ?_) (fun h1 => ?_) | refine Gd.t (fun h1 => ?_) (fun h1 => ?_) | refine Gd.f (fun h1 => ?_) (fun h1 => ?_)
  · simp [h1]
    first | refine Gd.dt (fun h2 => ?_) (fun h2 => ?_) | refine Gd.df (fun h2 => ?_) (fun h2 => ?_) | refine Gd.t (fun h2 => ?_) (fun h2 => ?_) | refine Gd.f (fun h2 => ?_) (fun h2 => ?_)
    · simp [h1, h2]
      first | refine Gd.dt (fun h3 => ?_) (fun h3 => ?_) | refine Gd.df (fun h3 => ?_) (fun h3 => ?_) | refine Gd.t (fun h3 => ?_) (fun h3 => ?_) | refine Gd.f (fun h3 => ?_) (fun h3 => ?_)
      · simp [h1, h2, h3]
        first | refine Gd.dt (fun h4 => ?_) (fun h4 => ?_) | refine Gd.df (fun h4 => ?_) (fun h4 => ?_) | refine Gd.t (fun h4 => ?_) (fun h4 => ?_) | refine Gd.f (fun h4 => ?_) (fun h4 => ?_)
        · simp [h1, h2, h3, h4]
          have k1 : e.fr ≤ nodes - 1 := by omega
          have k2 : (e.to < nodes) ↔ (e.to ≤ nodes - 1) := by omega
          repeat (first | refine AL.seq ?_ | refine AL.block ?_ | refine AL.skip ?_ | refine AL.blk ?_)
          refine AL.ret ?_
          try simp only [AU]
          refine ⟨by simp, Fin.data (by simp [resAs, resA]; rfl) hbox rfl htok (fun _ h => h) (Nat.le_refl _) ?_⟩
          simp [packA, fitsB, h1, h2, h3, h4, withinB, k1, k2]
          simp [withinB] at h1
          simp [h1]
        · simp [h1, h2, h3, h4]
          repeat (first | refine AL.seq ?_ | refine AL.block ?_ | refine AL.skip ?_ | refine AL.blk ?_)
          refine AL.ret ?_
          try simp only [AU]
          refine ⟨by simp, Fin.data (by simp [resAs, resA]; rfl) hbox rfl htok (fun _ h => h) (Nat.le_refl _) ?_⟩
          simp [packA, fitsB, h1, h2, h3, h4, withinB]
      · simp [h1, h2, h3]
        have k1 : ¬ e.fr ≤ nodes - 1 := by omega
        repeat (first | refine AL.seq ?_ | refine AL.block ?_ | refine AL.skip ?_ | refine AL.blk ?_)
        refine AL.ret ?_
        try simp only [AU]
        refine ⟨by simp, Fin.data (by simp [resAs, resA]; rfl) hbox rfl htok (fun _ h => h) (Nat.le_refl _) ?_⟩
        simp [packA, fitsB, h1, h2, h3, withinB, k1]
    · simp [h1, h2]
      repeat (first | refine AL.seq ?_ | refine AL.block ?_ | refine AL.skip ?_ | refine AL.blk ?_)
      refine AL.ret ?_
      try simp only [AU]
      refine ⟨by simp, Fin.data (by simp [resAs, resA]; rfl) hbox rfl htok (fun _ h => h) (Nat.le_refl _) ?_⟩
      simp [packA, fitsB, h1, h2, withinB]
  · simp [h1]
    repeat (first | refine AL.seq ?_ | refine AL.block ?_ | refine AL.skip ?_ | refine AL.blk ?_)
    refine AL.ret ?_
    try simp only [AU]
    refine ⟨by simp, Fin.data (by simp [resAs, resA]; rfl) hbox rfl htok (fun _ h => h) (Nat.le_refl _) ?_⟩
    simp [packA, fitsB, h1]

def st41a (g : Gr) (nb : Nat) (box : Nat → Option (List (List AV))) (tok : Nat → Bool) (nt : Nat) (i : Nat) : AState := ⟨tl [(1, .ptr (nb + 1) 0 0), (3, I i)], lb nb box [(1, [[.d (ints g.nodes), .d (AM.edges g.edges)]])], tok, nt⟩
def st41b (g : Gr) (nb : Nat) (box : Nat → Option (List (List AV))) (tok : Nat → Bool) (nt : Nat) (i : Nat) : AState := ⟨tl [(1, .ptr (nb + 1) 0 0), (4, I i)], lb nb box [(1, [[.d (ints g.nodes), .d (AM.edges g.edges)]])], tok, nt⟩

theorem anyB_take {α : Type} {p : α → Bool} {xs : List α} {i : Nat} (h : i < xs.length) (h2 : p xs[i] = true) : anyB p xs = true := List.any_eq_true.2 ⟨_, List.getElem_mem h, h2⟩
theorem anyB_all {α : Type} {p : α → Bool} {xs : List α} {i : Nat} (h : xs.length ≤ i) (h2 : ∀ x ∈ xs.take i, p x = false) : anyB p xs = false := by
  rw [List.take_of_length_le h] at h2
  exact List.any_eq_false.2 fun x hx => by simp [h2 x hx]
theorem anyB_step {α : Type} {p : α → Bool} {xs : List α} {i : Nat} (h : i < xs.length) (h1 : ∀ x ∈ xs.take i, p x = false) (h2 : p xs[i] = false) : ∀ x ∈ xs.take (i + 1), p x = false := by
  intro x hx
  rw [List.take_succ_eq_append_getElem h] at hx
  rcases List.mem_append.1 hx with hx | hx
  · exact h1 x hx
  · simp at hx; rw [hx]; exact h2

theorem valid05_c (g : Gr) (hg : g.Fit) (tok : Nat → Bool) (nt : Nat) : DCall Tryz.prog 9 [g.av] tok nt (I (validG g)) tok nt := by
  intro box nb
  have hn := hg.n
  have he := hg.e
  refine ACalls.of_body Tryz.func9 rfl (by kernel_rfl) follows_Tryz (by kernel_rfl) (by simp [Tryz.ntmps9]) ?_
  intro hbox htok
  simp only at hbox htok
  apply AL.start
  repeat (first | refine AL.seq ?_ | refine AL.block ?_ | refine AL.skip ?_ | refine AL.blk ?_)
  refine AL.region follows_Tryz (Nat.le_refl _) (by kernel_rfl) ?_
  simp
  repeat (first | refine AL.seq ?_ | refine AL.block ?_ | refine AL.skip ?_ | refine AL.blk ?_)
  refine AL.region follows_Tryz (Nat.le_refl _) (by kernel_rfl) ?_
  simp
  first | refine Gd.dt (fun h1 => ?_) (fun h1 => ?_) | refine Gd.df (fun h1 => ?_) (fun h1 => ?_) | refine Gd.t (fun h1 => ?_) (fun h1 => ?_) | refine Gd.f (fun h1 => ?_) (fun h1 => ?_)
  · simp [h1]
    repeat (first | refine AL.seq ?_ | refine AL.block ?_ | refine AL.skip ?_ | refine AL.blk ?_)
    refine AL.cond ?_
    simp
    repeat (first | refine AL.seq ?_ | refine AL.block ?_ | refine AL.skip ?_ | refine AL.blk ?_)
    refine AL.region follows_Tryz (Nat.le_refl _) (by kernel_rfl) ?_
    simp
    repeat (first | refine AL.seq ?_ | refine AL.block ?_ | refine AL.skip ?_ | refine AL.blk ?_)
    refine AL.ret ?_
    try simp only [AU]
    refine ⟨by simp, Fin.data (by simp [resAs, resA]; rfl) hbox rfl htok (fun _ h => h) (Nat.le_refl _) ?_⟩
    simp [packA, validG, show 40 < g.nodes.length by omega]
  · simp [h1]
    repeat (first | refine AL.seq ?_ | refine AL.block ?_ | refine AL.skip ?_ | refine AL.blk ?_)
    refine AL.cond ?_
    simp
    refine ⟨fun h2 => ?_, fun h2 => ?_⟩
    · repeat (first | refine AL.seq ?_ | refine AL.block ?_ | refine AL.skip ?_ | refine AL.blk ?_)
      refine AL.region follows_Tryz (Nat.le_refl _) (by kernel_rfl) ?_
      simp
      repeat (first | refine AL.seq ?_ | refine AL.block ?_ | refine AL.skip ?_ | refine AL.blk ?_)
      refine AL.ret ?_
      try simp only [AU]
      refine ⟨by simp, Fin.data (by simp [resAs, resA]; rfl) hbox rfl htok (fun _ h => h) (Nat.le_refl _) ?_⟩
      simp [packA, validG, show 80 < g.edges.length by omega]
    · have hn1 : ¬ 40 < g.nodes.length := by omega
      have hn2 : ¬ 80 < g.edges.length := by omega
      repeat (first | refine AL.seq ?_ | refine AL.block ?_ | refine AL.skip ?_ | refine AL.blk ?_)
      refine AL.region follows_Tryz (Nat.le_refl _) (by kernel_rfl) ?_
      simp
      repeat (first | refine AL.seq ?_ | refine AL.block ?_ | refine AL.skip ?_ | refine AL.blk ?_)
      refine AL.loopT (st41a g nb box tok nt) (fun i => i ≤ g.nodes.length ∧ ∀ x ∈ g.nodes.take i, (!withinB x 99) = false) (fun i => g.nodes.length - i) 0 ⟨Nat.zero_le _, by simp⟩ (Weaks.mk (Nat.le_refl _) rfl (by simp [ToL, lk]) (by simp [BoxL, lk])) ?_
      rintro i S ⟨hi, htk⟩ hS
      simp only [st41a] at hS
      subst hS
      have hw : IntKind.i64.wrap (↑i + 1) = ((i + 1 : Nat) : Int) := by rw [wrap_in (by omega) (by omega)]; rfl
      repeat (first | refine AL.seq ?_ | refine AL.block ?_ | refine AL.skip ?_ | refine AL.blk ?_)
      refine AL.region follows_Tryz (Nat.le_refl _) (by kernel_rfl) ?_
      simp
      repeat (first | refine AL.seq ?_ | refine AL.block ?_ | refine AL.skip ?_ | refine AL.blk ?_)
      refine AL.cond ?_
      simp
      refine ⟨fun hlt => ?_, fun hge => ?_⟩
      · repeat (first | refine AL.seq ?_ | refine AL.block ?_ | refine AL.skip ?_ | refine AL.blk ?_)
        refine AL.region follows_Tryz (Nat.le_refl _) (by kernel_rfl) ?_
        simp [hlt]
        refine Stop.of_d (kind_c _ _ _) ?_
        simp
        repeat (first | refine AL.seq ?_ | refine AL.block ?_ | refine AL.skip ?_ | refine AL.blk ?_)
        refine AL.cond ?_
        simp
        refine ⟨fun hb => ?_, fun hb => ?_⟩
        · repeat (first | refine AL.seq ?_ | refine AL.block ?_ | refine AL.skip ?_ | refine AL.blk ?_)
          refine AL.region follows_Tryz (Nat.le_refl _) (by kernel_rfl) ?_
          simp
          have h3 : anyB (fun n => !withinB n 99) g.nodes = true := anyB_take hlt (by simp [hb])
          repeat (first | refine AL.seq ?_ | refine AL.block ?_ | refine AL.skip ?_ | refine AL.blk ?_)
          refine AL.ret ?_
          try simp only [AU]
          refine ⟨by simp, Fin.data (by simp [resAs, resA]; rfl) hbox rfl htok (fun _ h => h) (Nat.le_refl _) ?_⟩
          simp [packA, validG, hn1, hn2, h3]
        · repeat (first | refine AL.seq ?_ | refine AL.block ?_ | refine AL.skip ?_ | refine AL.blk ?_)
          refine AL.region follows_Tryz (Nat.le_refl _) (by kernel_rfl) ?_
          simp [hw]
          repeat (first | refine AL.seq ?_ | refine AL.block ?_ | refine AL.skip ?_ | refine AL.blk ?_)
          refine AL.nil ?_
          refine ⟨i + 1, ⟨hlt, ?_⟩, by omega, Weaks.mk (Nat.le_refl _) rfl (by simp [ToL, lk]) (by simp [BoxL, lk])⟩
          have := anyB_step (p := fun n => !withinB n 99) hlt (by simpa using htk) (by simp [hb])
          simpa using this
      · repeat (first | refine AL.seq ?_ | refine AL.block ?_ | refine AL.skip ?_ | refine AL.blk ?_)
        refine AL.exit ?_
        simp only [AU, ↓reduceIte]
        have h3 : anyB (fun n => !withinB n 99) g.nodes = false := anyB_all hge (by simpa using htk)
        repeat (first | refine AL.seq ?_ | refine AL.block ?_ | refine AL.skip ?_ | refine AL.blk ?_)
        refine AL.region follows_Tryz (Nat.le_refl _) (by kernel_rfl) ?_
        simp
        repeat (first | refine AL.seq ?_ | refine AL.block ?_ | refine AL.skip ?_ | refine AL.blk ?_)
        refine AL.loopT (st41b g nb box tok nt) (fun i => i ≤ g.edges.length ∧ ∀ x ∈ g.edges.take i, (!fitsB x g.nodes.length) = false) (fun i => g.edges.length - i) 0 ⟨Nat.zero_le _, by simp⟩ (Weaks.mk (Nat.le_refl _) rfl (by simp [ToL, lk]) (by simp [BoxL, lk])) ?_
        rintro i S ⟨hi, htk⟩ hS
        simp only [st41b] at hS
        subst hS
        have hw : IntKind.i64.wrap (↑i + 1) = ((i + 1 : Nat) : Int) := by rw [wrap_in (by omega) (by omega)]; rfl
        repeat (first | refine AL.seq ?_ | refine AL.block ?_ | refine AL.skip ?_ | refine AL.blk ?_)
        refine AL.region follows_Tryz (Nat.le_refl _) (by kernel_rfl) ?_
        simp
        repeat (first | refine AL.seq ?_ | refine AL.block ?_ | refine AL.skip ?_ | refine AL.blk ?_)
        refine AL.cond ?_
        simp
        refine ⟨fun hlt => ?_, fun hge => ?_⟩
        · repeat (first | refine AL.seq ?_ | refine AL.block ?_ | refine AL.skip ?_ | refine AL.blk ?_)
          refine AL.region follows_Tryz (Nat.le_refl _) (by kernel_rfl) ?_
          simp [hlt]
          refine Stop.of_d (right_c g.edges[i] _ _ _) ?_
          simp
          repeat (first | refine AL.seq ?_ | refine AL.block ?_ | refine AL.skip ?_ | refine AL.blk ?_)
          refine AL.cond ?_
          simp
          refine ⟨fun hb => ?_, fun hb => ?_⟩
          · repeat (first | refine AL.seq ?_ | refine AL.block ?_ | refine AL.skip ?_ | refine AL.blk ?_)
            refine AL.region follows_Tryz (Nat.le_refl _) (by kernel_rfl) ?_
            simp
            have h4 : anyB (fun e => !fitsB e g.nodes.length) g.edges = true := anyB_take hlt (by simp [hb])
            repeat (first | refine AL.seq ?_ | refine AL.block ?_ | refine AL.skip ?_ | refine AL.blk ?_)
            refine AL.ret ?_
            try simp only [AU]
            refine ⟨by simp, Fin.data (by simp [resAs, resA]; rfl) hbox rfl htok (fun _ h => h) (Nat.le_refl _) ?_⟩
            simp [packA, validG, hn1, hn2, h3, h4]
          · repeat (first | refine AL.seq ?_ | refine AL.block ?_ | refine AL.skip ?_ | refine AL.blk ?_)
            refine AL.region follows_Tryz (Nat.le_refl _) (by kernel_rfl) ?_
            simp [hw]
            repeat (first | refine AL.seq ?_ | refine AL.block ?_ | refine AL.skip ?_ | refine AL.blk ?_)
            refine AL.nil ?_
            refine ⟨i + 1, ⟨hlt, ?_⟩, by omega, Weaks.mk (Nat.le_refl _) rfl (by simp [ToL, lk]) (by simp [BoxL, lk])⟩
            have := anyB_step (p := fun e => !fitsB e g.nodes.length) hlt (by simpa using htk) (by simp [hb])
            simpa using this
        · repeat (first | refine AL.seq ?_ | refine AL.block ?_ | refine AL.skip ?_ | refine AL.blk ?_)
          refine AL.exit ?_
          simp only [AU, ↓reduceIte]
          have h4 : anyB (fun e => !fitsB e g.nodes.length) g.edges = false := anyB_all hge (by simpa using htk)
          repeat (first | refine AL.seq ?_ | refine AL.block ?_ | refine AL.skip ?_ | refine AL.blk ?_)
          refine AL.region follows_Tryz (Nat.le_refl _) (by kernel_rfl) ?_
          simp
          repeat (first | refine AL.seq ?_ | refine AL.block ?_ | refine AL.skip ?_ | refine AL.blk ?_)
          refine AL.ret ?_
          try simp only [AU]
          refine ⟨by simp, Fin.data (by simp [resAs, resA]; rfl) hbox rfl htok (fun _ h => h) (Nat.le_refl _) ?_⟩
          simp [packA, validG, hn1, hn2, h3, h4]

def fewG (g : Gr) : Bool := decide ((g.nodes.length : Int) ≤ 45) && decide ((g.edges.length : Int) ≤ 90)

theorem few05_c (g : Gr) (tok : Nat → Bool) (nt : Nat) : DCall Tryz.prog 16 [g.av] tok nt (B (fewG g)) tok nt := by
  intro box nb
  refine ACalls.of_body Tryz.func16 rfl (by kernel_rfl) follows_Tryz (by kernel_rfl) (by simp [Tryz.ntmps16]) ?_
  intro hbox htok
  simp only at hbox htok
  apply AL.start
  repeat (first | refine AL.seq ?_ | refine AL.block ?_ | refine AL.skip ?_ | refine AL.blk ?_)
  refine AL.region follows_Tryz (Nat.le_refl _) (by kernel_rfl) ?_
  simp
  repeat (first | refine AL.seq ?_ | refine AL.block ?_ | refine AL.skip ?_ | refine AL.blk ?_)
  refine AL.region follows_Tryz (Nat.le_refl _) (by kernel_rfl) ?_
  simp
  first | refine Gd.dt (fun h1 => ?_) (fun h1 => ?_) | refine Gd.df (fun h1 => ?_) (fun h1 => ?_) | refine Gd.t (fun h1 => ?_) (fun h1 => ?_) | refine Gd.f (fun h1 => ?_) (fun h1 => ?_)
  · simp [h1]
    repeat (first | refine AL.seq ?_ | refine AL.block ?_ | refine AL.skip ?_ | refine AL.blk ?_)
    refine AL.ret ?_
    try simp only [AU]
    refine ⟨by simp, Fin.data (by simp [resAs, resA]; rfl) hbox rfl htok (fun _ h => h) (Nat.le_refl _) ?_⟩
    simp [packA, fewG, h1]
  · simp [h1]
    repeat (first | refine AL.seq ?_ | refine AL.block ?_ | refine AL.skip ?_ | refine AL.blk ?_)
    refine AL.ret ?_
    try simp only [AU]
    refine ⟨by simp, Fin.data (by simp [resAs, resA]; rfl) hbox rfl htok (fun _ h => h) (Nat.le_refl _) ?_⟩
    simp [packA, fewG, h1]

theorem fewG_fit {g : Gr} (h : fewG g = true) : g.Fit := by
  simp [fewG] at h
  exact ⟨by omega, by omega⟩

end Go.AM
namespace Go.AM
open Go Go.Proofs
set_option linter.unusedSimpArgs false
set_option linter.unusedVariables false

/-! ### Overlaps and quotients as data -/
structure Ov where
  g : Gr
  l : Mo
  r : Mo
  deriving DecidableEq, Inhabited

abbrev Ov.cells (o : Ov) : List D := [ints o.g.nodes, AM.edges o.g.edges, ints o.l.nodes, ints o.l.edges, ints o.r.nodes, ints o.r.edges]
abbrev Ov.av (o : Ov) : AV := .agg [.d (ints o.g.nodes), .d (AM.edges o.g.edges), .d (ints o.l.nodes), .d (ints o.l.edges), .d (ints o.r.nodes), .d (ints o.r.edges)]
abbrev ovs (l : List Ov) : D := .sl 6 (l.map Ov.cells)
structure Mo.Fit (m : Mo) : Prop where
  n : m.nodes.length ≤ 1000000
  e : m.edges.length ≤ 1000000

/-! ### SameInts, Same, SameOverlap -/

def st62 (xs ys : List Int) (nb : Nat) (box : Nat → Option (List (List AV))) (tok : Nat → Bool) (nt : Nat) (i : Nat) : AState := ⟨tl [(0, .d (ints xs)), (1, .d (ints ys)), (5, I i)], lb nb box [], tok, nt⟩

theorem sameInts02_c (xs ys : List Int) (hx : xs.length ≤ 1000000) (tok : Nat → Bool) (nt : Nat) : DCall Tryz.prog 59 [.d (ints xs), .d (ints ys)] tok nt (B (decide (xs = ys))) tok nt := by
  intro box nb
  refine ACalls.of_body Tryz.func59 rfl (by kernel_rfl) follows_Tryz (by kernel_rfl) (by simp [Tryz.ntmps59]) ?_
  intro hbox htok
  simp only at hbox htok
  apply AL.start
  repeat (first | refine AL.seq ?_ | refine AL.block ?_ | refine AL.skip ?_ | refine AL.blk ?_)
  refine AL.region follows_Tryz (Nat.le_refl _) (by kernel_rfl) ?_
  simp
  repeat (first | refine AL.seq ?_ | refine AL.block ?_ | refine AL.skip ?_ | refine AL.blk ?_)
  refine AL.region follows_Tryz (Nat.le_refl _) (by kernel_rfl) ?_
  simp
  repeat (first | refine AL.seq ?_ | refine AL.block ?_ | refine AL.skip ?_ | refine AL.blk ?_)
  refine AL.cond ?_
  simp
  refine ⟨fun hne => ?_, fun he => ?_⟩
  · repeat (first | refine AL.seq ?_ | refine AL.block ?_ | refine AL.skip ?_ | refine AL.blk ?_)
    refine AL.region follows_Tryz (Nat.le_refl _) (by kernel_rfl) ?_
    simp
    have : ¬ xs = ys := fun e => hne (by rw [e])
    repeat (first | refine AL.seq ?_ | refine AL.block ?_ | refine AL.skip ?_ | refine AL.blk ?_)
    refine AL.ret ?_
    try simp only [AU]
    refine ⟨by simp, Fin.data (by simp [resAs, resA]; rfl) hbox rfl htok (fun _ h => h) (Nat.le_refl _) ?_⟩
    simp [packA, this]
  · repeat (first | refine AL.seq ?_ | refine AL.block ?_ | refine AL.skip ?_ | refine AL.blk ?_)
    refine AL.region follows_Tryz (Nat.le_refl _) (by kernel_rfl) ?_
    simp
    repeat (first | refine AL.seq ?_ | refine AL.block ?_ | refine AL.skip ?_ | refine AL.blk ?_)
    refine AL.loopT (st62 xs ys nb box tok nt) (fun i => i ≤ xs.length ∧ xs.take i = ys.take i) (fun i => xs.length - i) 0 ⟨Nat.zero_le _, rfl⟩ (Weaks.mk (Nat.le_refl _) rfl (by simp [ToL]) trivial) ?_
    rintro i S ⟨hi, htk⟩ hS
    simp only [st62] at hS
    subst hS
    repeat (first | refine AL.seq ?_ | refine AL.block ?_ | refine AL.skip ?_ | refine AL.blk ?_)
    refine AL.region follows_Tryz (Nat.le_refl _) (by kernel_rfl) ?_
    simp
    repeat (first | refine AL.seq ?_ | refine AL.block ?_ | refine AL.skip ?_ | refine AL.blk ?_)
    refine AL.cond ?_
    simp
    have hw : IntKind.i64.wrap (↑i + 1) = ((i + 1 : Nat) : Int) := by rw [wrap_in (by omega) (by omega)]; rfl
    refine ⟨fun hlt => ?_, fun hge => ?_⟩
    · have hly : i < ys.length := by omega
      repeat (first | refine AL.seq ?_ | refine AL.block ?_ | refine AL.skip ?_ | refine AL.blk ?_)
      refine AL.region follows_Tryz (Nat.le_refl _) (by kernel_rfl) ?_
      simp [hlt, hly]
      repeat (first | refine AL.seq ?_ | refine AL.block ?_ | refine AL.skip ?_ | refine AL.blk ?_)
      refine AL.cond ?_
      simp
      refine ⟨fun hne => ?_, fun heq => ?_⟩
      · repeat (first | refine AL.seq ?_ | refine AL.block ?_ | refine AL.skip ?_ | refine AL.blk ?_)
        refine AL.region follows_Tryz (Nat.le_refl _) (by kernel_rfl) ?_
        simp
        have : ¬ xs = ys := fun e => hne (by simp [e])
        repeat (first | refine AL.seq ?_ | refine AL.block ?_ | refine AL.skip ?_ | refine AL.blk ?_)
        refine AL.ret ?_
        try simp only [AU]
        refine ⟨by simp, Fin.data (by simp [resAs, resA]; rfl) hbox rfl htok (fun _ h => h) (Nat.le_refl _) ?_⟩
        simp [packA, this]
      · repeat (first | refine AL.seq ?_ | refine AL.block ?_ | refine AL.skip ?_ | refine AL.blk ?_)
        refine AL.region follows_Tryz (Nat.le_refl _) (by kernel_rfl) ?_
        simp [hw]
        repeat (first | refine AL.seq ?_ | refine AL.block ?_ | refine AL.skip ?_ | refine AL.blk ?_)
        refine AL.nil ?_
        refine ⟨i + 1, ⟨hlt, ?_⟩, by omega, Weaks.mk (Nat.le_refl _) rfl (by simp [ToL]) trivial⟩
        rw [List.take_succ_eq_append_getElem hlt, List.take_succ_eq_append_getElem hly, htk, heq]
    · repeat (first | refine AL.seq ?_ | refine AL.block ?_ | refine AL.skip ?_ | refine AL.blk ?_)
      refine AL.exit ?_
      simp only [AU, ↓reduceIte]
      repeat (first | refine AL.seq ?_ | refine AL.block ?_ | refine AL.skip ?_ | refine AL.blk ?_)
      refine AL.region follows_Tryz (Nat.le_refl _) (by kernel_rfl) ?_
      simp
      have : xs = ys := by
        rw [List.take_of_length_le hge, List.take_of_length_le (by omega)] at htk
        exact htk
      repeat (first | refine AL.seq ?_ | refine AL.block ?_ | refine AL.skip ?_ | refine AL.blk ?_)
      refine AL.ret ?_
      try simp only [AU]
      refine ⟨by simp, Fin.data (by simp [resAs, resA]; rfl) hbox rfl htok (fun _ h => h) (Nat.le_refl _) ?_⟩
      simp [packA, this]

def st69 (xs ys : List Int) (nb : Nat) (box : Nat → Option (List (List AV))) (tok : Nat → Bool) (nt : Nat) (i : Nat) : AState := ⟨tl [(0, .d (ints xs)), (1, .d (ints ys)), (5, I i)], lb nb box [], tok, nt⟩

theorem sameInts05_c (xs ys : List Int) (hx : xs.length ≤ 1000000) (tok : Nat → Bool) (nt : Nat) : DCall Tryz.prog 60 [.d (ints xs), .d (ints ys)] tok nt (B (decide (xs = ys))) tok nt := by
  intro box nb
  refine ACalls.of_body Tryz.func60 rfl (by kernel_rfl) follows_Tryz (by kernel_rfl) (by simp [Tryz.ntmps60]) ?_
  intro hbox htok
  simp only at hbox htok
  apply AL.start
  repeat (first | refine AL.seq ?_ | refine AL.block ?_ | refine AL.skip ?_ | refine AL.blk ?_)
  refine AL.region follows_Tryz (Nat.le_refl _) (by kernel_rfl) ?_
  simp
  repeat (first | refine AL.seq ?_ | refine AL.block ?_ | refine AL.skip ?_ | refine AL.blk ?_)
  refine AL.region follows_Tryz (Nat.le_refl _) (by kernel_rfl) ?_
  simp
  repeat (first | refine AL.seq ?_ | refine AL.block ?_ | refine AL.skip ?_ | refine AL.blk ?_)
  refine AL.cond ?_
  simp
  refine ⟨fun hne => ?_, fun he => ?_⟩
  · repeat (first | refine AL.seq ?_ | refine AL.block ?_ | refine AL.skip ?_ | refine AL.blk ?_)
    refine AL.region follows_Tryz (Nat.le_refl _) (by kernel_rfl) ?_
    simp
    have : ¬ xs = ys := fun e => hne (by rw [e])
    repeat (first | refine AL.seq ?_ | refine AL.block ?_ | refine AL.skip ?_ | refine AL.blk ?_)
    refine AL.ret ?_
    try simp only [AU]
    refine ⟨by simp, Fin.data (by simp [resAs, resA]; rfl) hbox rfl htok (fun _ h => h) (Nat.le_refl _) ?_⟩
    simp [packA, this]
  · repeat (first | refine AL.seq ?_ | refine AL.block ?_ | refine AL.skip ?_ | refine AL.blk ?_)
    refine AL.region follows_Tryz (Nat.le_refl _) (by kernel_rfl) ?_
    simp
    repeat (first | refine AL.seq ?_ | refine AL.block ?_ | refine AL.skip ?_ | refine AL.blk ?_)
    refine AL.loopT (st69 xs ys nb box tok nt) (fun i => i ≤ xs.length ∧ xs.take i = ys.take i) (fun i => xs.length - i) 0 ⟨Nat.zero_le _, rfl⟩ (Weaks.mk (Nat.le_refl _) rfl (by simp [ToL]) trivial) ?_
    rintro i S ⟨hi, htk⟩ hS
    simp only [st69] at hS
    subst hS
    repeat (first | refine AL.seq ?_ | refine AL.block ?_ | refine AL.skip ?_ | refine AL.blk ?_)
    refine AL.region follows_Tryz (Nat.le_refl _) (by kernel_rfl) ?_
    simp
    repeat (first | refine AL.seq ?_ | refine AL.block ?_ | refine AL.skip ?_ | refine AL.blk ?_)
    refine AL.cond ?_
    simp
    have hw : IntKind.i64.wrap (↑i + 1) = ((i + 1 : Nat) : Int) := by rw [wrap_in (by omega) (by omega)]; rfl
    refine ⟨fun hlt => ?_, fun hge => ?_⟩
    · have hly : i < ys.length := by omega
      repeat (first | refine AL.seq ?_ | refine AL.block ?_ | refine AL.skip ?_ | refine AL.blk ?_)
      refine AL.region follows_Tryz (Nat.le_refl _) (by kernel_rfl) ?_
      simp [hlt, hly]
      repeat (first | refine AL.seq ?_ | refine AL.block ?_ | refine AL.skip ?_ | refine AL.blk ?_)
      refine AL.cond ?_
      simp
      refine ⟨fun hne => ?_, fun heq => ?_⟩
      · repeat (first | refine AL.seq ?_ | refine AL.block ?_ | refine AL.skip ?_ | refine AL.blk ?_)
        refine AL.region follows_Tryz (Nat.le_refl _) (by kernel_rfl) ?_
        simp
        have : ¬ xs = ys := fun e => hne (by simp [e])
        repeat (first | refine AL.seq ?_ | refine AL.block ?_ | refine AL.skip ?_ | refine AL.blk ?_)
        refine AL.ret ?_
        try simp only [AU]
        refine ⟨by simp, Fin.data (by simp [resAs, resA]; rfl) hbox rfl htok (fun _ h => h) (Nat.le_refl _) ?_⟩
        simp [packA, this]
      · repeat (first | refine AL.seq ?_ | refine AL.block ?_ | refine AL.skip ?_ | refine AL.blk ?_)
        refine AL.region follows_Tryz (Nat.le_refl _) (by kernel_rfl) ?_
        simp [hw]
        repeat (first | refine AL.seq ?_ | refine AL.block ?_ | refine AL.skip ?_ | refine AL.blk ?_)
        refine AL.nil ?_
        refine ⟨i + 1, ⟨hlt, ?_⟩, by omega, Weaks.mk (Nat.le_refl _) rfl (by simp [ToL]) trivial⟩
        rw [List.take_succ_eq_append_getElem hlt, List.take_succ_eq_append_getElem hly, htk, heq]
    · repeat (first | refine AL.seq ?_ | refine AL.block ?_ | refine AL.skip ?_ | refine AL.blk ?_)
      refine AL.exit ?_
      simp only [AU, ↓reduceIte]
      repeat (first | refine AL.seq ?_ | refine AL.block ?_ | refine AL.skip ?_ | refine AL.blk ?_)
      refine AL.region follows_Tryz (Nat.le_refl _) (by kernel_rfl) ?_
      simp
      have : xs = ys := by
        rw [List.take_of_length_le hge, List.take_of_length_le (by omega)] at htk
        exact htk
      repeat (first | refine AL.seq ?_ | refine AL.block ?_ | refine AL.skip ?_ | refine AL.blk ?_)
      refine AL.ret ?_
      try simp only [AU]
      refine ⟨by simp, Fin.data (by simp [resAs, resA]; rfl) hbox rfl htok (fun _ h => h) (Nat.le_refl _) ?_⟩
      simp [packA, this]

theorem same06_c (a b : Mo) (ha : a.Fit) (tok : Nat → Bool) (nt : Nat) : DCall Tryz.prog 36 [a.av, b.av] tok nt (B (decide (a = b))) tok nt := by
  intro box nb
  refine ACalls.of_body Tryz.func36 rfl (by kernel_rfl) follows_Tryz (by kernel_rfl) (by simp [Tryz.ntmps36]) ?_
  intro hbox htok
  simp only at hbox htok
  apply AL.start
  repeat (first | refine AL.seq ?_ | refine AL.block ?_ | refine AL.skip ?_ | refine AL.blk ?_)
  refine AL.region follows_Tryz (Nat.le_refl _) (by kernel_rfl) ?_
  simp
  repeat (first | refine AL.seq ?_ | refine AL.block ?_ | refine AL.skip ?_ | refine AL.blk ?_)
  refine AL.region follows_Tryz (Nat.le_refl _) (by kernel_rfl) ?_
  simp
  refine Stop.of_d (sameInts02_c a.nodes b.nodes ha.n _ _) ?_
  simp
  have hab : a = b ↔ a.nodes = b.nodes ∧ a.edges = b.edges := by cases a; cases b; simp
  first | refine Gd.dt (fun h1 => ?_) (fun h1 => ?_) | refine Gd.df (fun h1 => ?_) (fun h1 => ?_) | refine Gd.t (fun h1 => ?_) (fun h1 => ?_) | refine Gd.f (fun h1 => ?_) (fun h1 => ?_)
  · simp [h1]
    refine Stop.of_d (sameInts02_c a.edges b.edges ha.e _ _) ?_
    simp [h1]
    repeat (first | refine AL.seq ?_ | refine AL.block ?_ | refine AL.skip ?_ | refine AL.blk ?_)
    refine AL.ret ?_
    try simp only [AU]
    refine ⟨by simp, Fin.data (by simp [resAs, resA]; rfl) hbox rfl htok (fun _ h => h) (Nat.le_refl _) ?_⟩
    simp [packA, hab, h1]
  · simp [h1]
    repeat (first | refine AL.seq ?_ | refine AL.block ?_ | refine AL.skip ?_ | refine AL.blk ?_)
    refine AL.ret ?_
    try simp only [AU]
    refine ⟨by simp, Fin.data (by simp [resAs, resA]; rfl) hbox rfl htok (fun _ h => h) (Nat.le_refl _) ?_⟩
    simp [packA, hab, h1]

def st37 (a b : Gr) (nb : Nat) (box : Nat → Option (List (List AV))) (tok : Nat → Bool) (nt : Nat) (i : Nat) : AState :=
  ⟨tl [(2, .ptr (nb + 2) 0 0), (3, .ptr (nb + 3) 0 0), (5, I i)], lb nb box [(2, [[.d (ints a.nodes), .d (AM.edges a.edges)]]), (3, [[.d (ints b.nodes), .d (AM.edges b.edges)]])], tok, nt⟩

theorem same05_c (a b : Gr) (ha : a.Fit) (tok : Nat → Bool) (nt : Nat) : DCall Tryz.prog 37 [a.av, b.av] tok nt (B (decide (a = b))) tok nt := by
  intro box nb
  have hn := ha.n
  have he := ha.e
  have hab : a = b ↔ a.nodes = b.nodes ∧ a.edges = b.edges := by cases a; cases b; simp
  refine ACalls.of_body Tryz.func37 rfl (by kernel_rfl) follows_Tryz (by kernel_rfl) (by simp [Tryz.ntmps37]) ?_
  intro hbox htok
  simp only at hbox htok
  apply AL.start
  repeat (first | refine AL.seq ?_ | refine AL.block ?_ | refine AL.skip ?_ | refine AL.blk ?_)
  refine AL.region follows_Tryz (Nat.le_refl _) (by kernel_rfl) ?_
  simp
  repeat (first | refine AL.seq ?_ | refine AL.block ?_ | refine AL.skip ?_ | refine AL.blk ?_)
  refine AL.region follows_Tryz (Nat.le_refl _) (by kernel_rfl) ?_
  simp
  refine Stop.of_d (sameInts05_c a.nodes b.nodes hn _ _) ?_
  by_cases h1 : a.nodes = b.nodes
  · simp [h1]
    repeat (first | refine AL.seq ?_ | refine AL.block ?_ | refine AL.skip ?_ | refine AL.blk ?_)
    refine AL.cond ?_
    simp
    refine ⟨fun h2 => ?_, fun h2 => ?_⟩
    · repeat (first | refine AL.seq ?_ | refine AL.block ?_ | refine AL.skip ?_ | refine AL.blk ?_)
      refine AL.region follows_Tryz (Nat.le_refl _) (by kernel_rfl) ?_
      simp
      have : ¬ a.edges = b.edges := fun e => h2 (by rw [e])
      repeat (first | refine AL.seq ?_ | refine AL.block ?_ | refine AL.skip ?_ | refine AL.blk ?_)
      refine AL.ret ?_
      try simp only [AU]
      refine ⟨by simp, Fin.data (by simp [resAs, resA]; rfl) hbox rfl htok (fun _ h => h) (Nat.le_refl _) ?_⟩
      simp [packA, hab, h1, this]
    · repeat (first | refine AL.seq ?_ | refine AL.block ?_ | refine AL.skip ?_ | refine AL.blk ?_)
      refine AL.region follows_Tryz (Nat.le_refl _) (by kernel_rfl) ?_
      simp
      repeat (first | refine AL.seq ?_ | refine AL.block ?_ | refine AL.skip ?_ | refine AL.blk ?_)
      refine AL.loopT (st37 a b nb box tok nt) (fun i => i ≤ a.edges.length ∧ a.edges.take i = b.edges.take i) (fun i => a.edges.length - i) 0 ⟨Nat.zero_le _, rfl⟩ (Weaks.mk (Nat.le_refl _) rfl (by simp [ToL, lk, h1]) (by simp [BoxL, lk, h1])) ?_
      rintro i S ⟨hi, htk⟩ hS
      simp only [st37] at hS
      subst hS
      have hw : IntKind.i64.wrap (↑i + 1) = ((i + 1 : Nat) : Int) := by rw [wrap_in (by omega) (by omega)]; rfl
      repeat (first | refine AL.seq ?_ | refine AL.block ?_ | refine AL.skip ?_ | refine AL.blk ?_)
      refine AL.region follows_Tryz (Nat.le_refl _) (by kernel_rfl) ?_
      simp
      repeat (first | refine AL.seq ?_ | refine AL.block ?_ | refine AL.skip ?_ | refine AL.blk ?_)
      refine AL.cond ?_
      simp
      refine ⟨fun hlt => ?_, fun hge => ?_⟩
      · have hly : i < b.edges.length := by omega
        have heq : a.edges[i] = b.edges[i] ↔ a.edges[i].ty = b.edges[i].ty ∧ a.edges[i].fr = b.edges[i].fr ∧ a.edges[i].to = b.edges[i].to := by cases a.edges[i]; cases b.edges[i]; simp
        repeat (first | refine AL.seq ?_ | refine AL.block ?_ | refine AL.skip ?_ | refine AL.blk ?_)
        refine AL.region follows_Tryz (Nat.le_refl _) (by kernel_rfl) ?_
        simp [hlt, hly]
        repeat (first | refine AL.seq ?_ | refine AL.block ?_ | refine AL.skip ?_ | refine AL.blk ?_)
        refine AL.cond ?_
        simp
        refine ⟨fun hne => ?_, fun e1 e2 e3 => ?_⟩
        · repeat (first | refine AL.seq ?_ | refine AL.block ?_ | refine AL.skip ?_ | refine AL.blk ?_)
          refine AL.region follows_Tryz (Nat.le_refl _) (by kernel_rfl) ?_
          simp
          have : ¬ a.edges = b.edges := fun e => by
            have e2 : a.edges[i] = b.edges[i] := by simp [e]
            have e3 := heq.1 e2
            simp [e3] at hne
          repeat (first | refine AL.seq ?_ | refine AL.block ?_ | refine AL.skip ?_ | refine AL.blk ?_)
          refine AL.ret ?_
          try simp only [AU]
          refine ⟨by simp, Fin.data (by simp [resAs, resA]; rfl) hbox rfl htok (fun _ h => h) (Nat.le_refl _) ?_⟩
          simp [packA, hab, this]
        · repeat (first | refine AL.seq ?_ | refine AL.block ?_ | refine AL.skip ?_ | refine AL.blk ?_)
          refine AL.region follows_Tryz (Nat.le_refl _) (by kernel_rfl) ?_
          simp [hw]
          repeat (first | refine AL.seq ?_ | refine AL.block ?_ | refine AL.skip ?_ | refine AL.blk ?_)
          refine AL.nil ?_
          refine ⟨i + 1, ⟨hlt, ?_⟩, by omega, Weaks.mk (Nat.le_refl _) rfl (by simp [ToL, lk, h1]) (by simp [BoxL, lk, h1])⟩
          rw [List.take_succ_eq_append_getElem hlt, List.take_succ_eq_append_getElem hly, htk, heq.2 ⟨e1, e2, e3⟩]
      · repeat (first | refine AL.seq ?_ | refine AL.block ?_ | refine AL.skip ?_ | refine AL.blk ?_)
        refine AL.exit ?_
        simp only [AU, ↓reduceIte]
        repeat (first | refine AL.seq ?_ | refine AL.block ?_ | refine AL.skip ?_ | refine AL.blk ?_)
        refine AL.region follows_Tryz (Nat.le_refl _) (by kernel_rfl) ?_
        simp
        have : a.edges = b.edges := by
          rw [List.take_of_length_le hge, List.take_of_length_le (by omega)] at htk
          exact htk
        repeat (first | refine AL.seq ?_ | refine AL.block ?_ | refine AL.skip ?_ | refine AL.blk ?_)
        refine AL.ret ?_
        try simp only [AU]
        refine ⟨by simp, Fin.data (by simp [resAs, resA]; rfl) hbox rfl htok (fun _ h => h) (Nat.le_refl _) ?_⟩
        simp [packA, hab, h1, this]
  · simp [h1]
    repeat (first | refine AL.seq ?_ | refine AL.block ?_ | refine AL.skip ?_ | refine AL.blk ?_)
    refine AL.cond ?_
    simp
    repeat (first | refine AL.seq ?_ | refine AL.block ?_ | refine AL.skip ?_ | refine AL.blk ?_)
    refine AL.region follows_Tryz (Nat.le_refl _) (by kernel_rfl) ?_
    simp
    repeat (first | refine AL.seq ?_ | refine AL.block ?_ | refine AL.skip ?_ | refine AL.blk ?_)
    refine AL.ret ?_
    try simp only [AU]
    refine ⟨by simp, Fin.data (by simp [resAs, resA]; rfl) hbox rfl htok (fun _ h => h) (Nat.le_refl _) ?_⟩
    simp [packA, hab, h1]

structure Ov.Fit (o : Ov) : Prop where
  g : o.g.Fit
  l : o.l.Fit
  r : o.r.Fit

end Go.AM
namespace Go.AM
open Go Go.Proofs
set_option linter.unusedSimpArgs false
set_option linter.unusedVariables false

/-! ### SameOverlaps, SameQuotients -/
/-! ### in -/
def st67 (xs : List Int) (v : Int) (nb : Nat) (box : Nat → Option (List (List AV))) (tok : Nat → Bool) (nt : Nat) (i : Nat) : AState := ⟨tl [(0, .d (ints xs)), (1, I v), (5, I i)], lb nb box [], tok, nt⟩

theorem in_c (xs : List Int) (v : Int) (hx : xs.length ≤ 1000000) (tok : Nat → Bool) (nt : Nat) : DCall Tryz.prog 95 [.d (ints xs), I v] tok nt (B (decide (v ∈ xs))) tok nt := by
  intro box nb
  refine ACalls.of_body Tryz.func95 rfl (by kernel_rfl) follows_Tryz (by kernel_rfl) (by simp [Tryz.ntmps95]) ?_
  intro hbox htok
  simp only at hbox htok
  apply AL.start
  repeat (first | refine AL.seq ?_ | refine AL.block ?_ | refine AL.skip ?_ | refine AL.blk ?_)
  refine AL.region follows_Tryz (Nat.le_refl _) (by kernel_rfl) ?_
  simp
  repeat (first | refine AL.seq ?_ | refine AL.block ?_ | refine AL.skip ?_ | refine AL.blk ?_)
  refine AL.region follows_Tryz (Nat.le_refl _) (by kernel_rfl) ?_
  simp
  repeat (first | refine AL.seq ?_ | refine AL.block ?_ | refine AL.skip ?_ | refine AL.blk ?_)
  refine AL.loopT (st67 xs v nb box tok nt) (fun i => i ≤ xs.length ∧ v ∉ xs.take i) (fun i => xs.length - i) 0 ⟨Nat.zero_le _, by simp⟩ (Weaks.mk (Nat.le_refl _) rfl (by simp [ToL]) trivial) ?_
  rintro i S ⟨hi, htk⟩ hS
  simp only [st67] at hS
  subst hS
  have hw : IntKind.i64.wrap (↑i + 1) = ((i + 1 : Nat) : Int) := by rw [wrap_in (by omega) (by omega)]; rfl
  repeat (first | refine AL.seq ?_ | refine AL.block ?_ | refine AL.skip ?_ | refine AL.blk ?_)
  refine AL.region follows_Tryz (Nat.le_refl _) (by kernel_rfl) ?_
  simp
  repeat (first | refine AL.seq ?_ | refine AL.block ?_ | refine AL.skip ?_ | refine AL.blk ?_)
  refine AL.cond ?_
  simp
  refine ⟨fun hlt => ?_, fun hge => ?_⟩
  · repeat (first | refine AL.seq ?_ | refine AL.block ?_ | refine AL.skip ?_ | refine AL.blk ?_)
    refine AL.region follows_Tryz (Nat.le_refl _) (by kernel_rfl) ?_
    simp [hlt]
    repeat (first | refine AL.seq ?_ | refine AL.block ?_ | refine AL.skip ?_ | refine AL.blk ?_)
    refine AL.cond ?_
    simp
    refine ⟨fun he => ?_, fun hne => ?_⟩
    · repeat (first | refine AL.seq ?_ | refine AL.block ?_ | refine AL.skip ?_ | refine AL.blk ?_)
      refine AL.region follows_Tryz (Nat.le_refl _) (by kernel_rfl) ?_
      simp
      have hmem : v ∈ xs := by rw [← he]; exact List.getElem_mem _
      repeat (first | refine AL.seq ?_ | refine AL.block ?_ | refine AL.skip ?_ | refine AL.blk ?_)
      refine AL.ret ?_
      try simp only [AU]
      refine ⟨by simp, Fin.data (by simp [resAs, resA]; rfl) hbox rfl htok (fun _ h => h) (Nat.le_refl _) ?_⟩
      simp [packA, hmem]
    · repeat (first | refine AL.seq ?_ | refine AL.block ?_ | refine AL.skip ?_ | refine AL.blk ?_)
      refine AL.region follows_Tryz (Nat.le_refl _) (by kernel_rfl) ?_
      simp [hw]
      repeat (first | refine AL.seq ?_ | refine AL.block ?_ | refine AL.skip ?_ | refine AL.blk ?_)
      refine AL.nil ?_
      refine ⟨i + 1, ⟨hlt, ?_⟩, by omega, Weaks.mk (Nat.le_refl _) rfl (by simp [ToL]) trivial⟩
      rw [List.take_succ_eq_append_getElem hlt]
      simp only [List.mem_append, List.mem_singleton, not_or]
      exact ⟨htk, fun e => hne e.symm⟩
  · repeat (first | refine AL.seq ?_ | refine AL.block ?_ | refine AL.skip ?_ | refine AL.blk ?_)
    refine AL.exit ?_
    simp only [AU, ↓reduceIte]
    repeat (first | refine AL.seq ?_ | refine AL.block ?_ | refine AL.skip ?_ | refine AL.blk ?_)
    refine AL.region follows_Tryz (Nat.le_refl _) (by kernel_rfl) ?_
    simp
    have hn : v ∉ xs := by rwa [List.take_of_length_le hge] at htk
    repeat (first | refine AL.seq ?_ | refine AL.block ?_ | refine AL.skip ?_ | refine AL.blk ?_)
    refine AL.ret ?_
    try simp only [AU]
    refine ⟨by simp, Fin.data (by simp [resAs, resA]; rfl) hbox rfl htok (fun _ h => h) (Nat.le_refl _) ?_⟩
    simp [packA, hn]
end Go.AM
namespace Go.AM
open Go Go.Proofs
set_option linter.unusedSimpArgs false
set_option linter.unusedVariables false

/-! ### Finest, Of, Copied; numbers, Identity -/
def iota (n : Nat) : List Int := (List.range n).map fun (i : Nat) => (i : Int)
theorem iota_succ (n : Nat) : iota (n + 1) = iota n ++ [(n : Int)] := by simp [iota, List.range_succ]
@[simp] theorem iota_length (n : Nat) : (iota n).length = n := by simp [iota]
@[simp] theorem iota_zero : iota 0 = [] := rfl

structure Acc where
  i : Nat
  own : Own
  tok : Nat → Bool
  nt : Nat

def st72 (n : Nat) (nb : Nat) (box : Nat → Option (List (List AV))) (a : Acc) : AState := ⟨tl [(0, I n), (3, .osl 1 (rI (iota a.i)) a.own), (4, I a.i)], lb nb box [], a.tok, a.nt⟩

theorem finest_c (n : Nat) (hn : n ≤ 1000000) (tok : Nat → Bool) (nt : Nat) : DCall Tryz.prog 123 [I n] tok nt (.d (ints (iota n))) tok nt := by
  intro box nb
  refine ACalls.of_body Tryz.func123 rfl (by kernel_rfl) follows_Tryz (by kernel_rfl) (by simp [Tryz.ntmps123]) ?_
  intro hbox htok
  simp only at hbox htok
  apply AL.start
  repeat (first | refine AL.seq ?_ | refine AL.block ?_ | refine AL.skip ?_ | refine AL.blk ?_)
  refine AL.region follows_Tryz (Nat.le_refl _) (by kernel_rfl) ?_
  simp
  repeat (first | refine AL.seq ?_ | refine AL.block ?_ | refine AL.skip ?_ | refine AL.blk ?_)
  refine AL.region follows_Tryz (Nat.le_refl _) (by kernel_rfl) ?_
  simp
  repeat (first | refine AL.seq ?_ | refine AL.block ?_ | refine AL.skip ?_ | refine AL.blk ?_)
  refine AL.region follows_Tryz (Nat.le_refl _) (by kernel_rfl) ?_
  simp
  repeat (first | refine AL.seq ?_ | refine AL.block ?_ | refine AL.skip ?_ | refine AL.blk ?_)
  refine AL.loopT (st72 n nb box) (fun a => a.i ≤ n ∧ TK tok nt a.tok a.nt [a.own]) (fun a => n - a.i) ⟨0, .full, tok, nt⟩ ⟨Nat.zero_le _, (TK.start htok).full⟩ (Weaks.mk (Nat.le_refl _) rfl (by simp [ToL]) trivial) ?_
  rintro ⟨i, own, tok', nt'⟩ S ⟨hi, htk⟩ hS
  simp only [st72] at hS hi htk
  subst hS
  have hw : IntKind.i64.wrap (↑i + 1) = ((i + 1 : Nat) : Int) := by rw [wrap_in (by omega) (by omega)]; rfl
  repeat (first | refine AL.seq ?_ | refine AL.block ?_ | refine AL.skip ?_ | refine AL.blk ?_)
  refine AL.region follows_Tryz (Nat.le_refl _) (by kernel_rfl) ?_
  simp
  repeat (first | refine AL.seq ?_ | refine AL.block ?_ | refine AL.skip ?_ | refine AL.blk ?_)
  refine AL.cond ?_
  simp
  refine ⟨fun hlt => ?_, fun hge => ?_⟩
  · repeat (first | refine AL.seq ?_ | refine AL.block ?_ | refine AL.skip ?_ | refine AL.blk ?_)
    refine AL.region follows_Tryz (Nat.le_refl _) (by kernel_rfl) ?_
    simp
    refine ⟨⟨by omega, htk.live⟩, ?_⟩
    repeat (first | refine AL.seq ?_ | refine AL.block ?_ | refine AL.skip ?_ | refine AL.blk ?_)
    refine AL.region follows_Tryz (Nat.le_refl _) (by kernel_rfl) ?_
    simp [hw]
    repeat (first | refine AL.seq ?_ | refine AL.block ?_ | refine AL.skip ?_ | refine AL.blk ?_)
    refine AL.nil ?_
    refine ⟨⟨i + 1, _, _, _⟩, ⟨hlt, htk.app⟩, by simp; omega, Weaks.mk htk.app.le rfl (by simp [ToL, iota_succ]) trivial⟩
  · repeat (first | refine AL.seq ?_ | refine AL.block ?_ | refine AL.skip ?_ | refine AL.blk ?_)
    refine AL.exit ?_
    simp only [AU, ↓reduceIte]
    repeat (first | refine AL.seq ?_ | refine AL.block ?_ | refine AL.skip ?_ | refine AL.blk ?_)
    refine AL.region follows_Tryz (Nat.le_refl _) (by kernel_rfl) ?_
    simp
    have : i = n := by omega
    subst this
    repeat (first | refine AL.seq ?_ | refine AL.block ?_ | refine AL.skip ?_ | refine AL.blk ?_)
    refine AL.ret ?_
    try simp only [AU]
    refine ⟨by simp, Fin.data (by simp [resAs, resA]; rfl) hbox rfl htok htk.old htk.le ?_⟩
    simp [packA, ]

theorem of_c (g : Gr) (hg : g.Fit) (tok : Nat → Bool) (nt : Nat) : DCall Tryz.prog 114 [g.av] tok nt (Mo.av ⟨iota g.nodes.length, iota g.edges.length⟩) tok nt := by
  intro box nb
  refine ACalls.of_body Tryz.func114 rfl (by kernel_rfl) follows_Tryz (by kernel_rfl) (by simp [Tryz.ntmps114]) ?_
  intro hbox htok
  simp only at hbox htok
  apply AL.start
  repeat (first | refine AL.seq ?_ | refine AL.block ?_ | refine AL.skip ?_ | refine AL.blk ?_)
  refine AL.region follows_Tryz (Nat.le_refl _) (by kernel_rfl) ?_
  simp
  repeat (first | refine AL.seq ?_ | refine AL.block ?_ | refine AL.skip ?_ | refine AL.blk ?_)
  refine AL.region follows_Tryz (Nat.le_refl _) (by kernel_rfl) ?_
  simp
  refine Stop.of_d (finest_c g.nodes.length hg.n _ _) ?_
  simp
  refine Stop.of_d (finest_c g.edges.length hg.e _ _) ?_
  simp
  repeat (first | refine AL.seq ?_ | refine AL.block ?_ | refine AL.skip ?_ | refine AL.blk ?_)
  refine AL.ret ?_
  try simp only [AU]
  refine ⟨by simp, Fin.data (by simp [resAs, resA]; rfl) hbox rfl htok (fun _ h => h) (Nat.le_refl _) ?_⟩
  simp [packA]

theorem copied_c (g : Gr) (hg : g.Fit) (tok : Nat → Bool) (nt : Nat) : DCall Tryz.prog 11 [g.av] tok nt (.agg [.osl 1 (rI g.nodes) (.tok nt), .osl 3 (rE g.edges) (.tok (nt + 1))]) (upd (upd tok nt true) (nt + 1) true) (nt + 2) := by
  intro box nb
  have h1 := hg.n
  have h2 := hg.e
  refine ACalls.of_body Tryz.func11 rfl (by kernel_rfl) follows_Tryz (by kernel_rfl) (by simp [Tryz.ntmps11]) ?_
  intro hbox htok
  simp only at hbox htok
  apply AL.start
  repeat (first | refine AL.seq ?_ | refine AL.block ?_ | refine AL.skip ?_ | refine AL.blk ?_)
  refine AL.region follows_Tryz (Nat.le_refl _) (by kernel_rfl) ?_
  simp
  repeat (first | refine AL.seq ?_ | refine AL.block ?_ | refine AL.skip ?_ | refine AL.blk ?_)
  refine AL.region follows_Tryz (Nat.le_refl _) (by kernel_rfl) ?_
  simp
  refine ⟨by omega, by omega, ?_⟩
  repeat (first | refine AL.seq ?_ | refine AL.block ?_ | refine AL.skip ?_ | refine AL.blk ?_)
  refine AL.ret ?_
  try simp only [AU]
  refine ⟨by simp, Fin.own (by simp [resAs, resA]; rfl) hbox rfl (by simp) ?_⟩
  simp [packA]

def upto (n i : Nat) : List Int := iota i ++ List.replicate (n - i) 0
@[simp] theorem upto_length {n i : Nat} (h : i ≤ n) : (upto n i).length = n := by simp [upto]; omega
@[simp] theorem upto_zero (n : Nat) : upto n 0 = List.replicate n 0 := by simp [upto]
@[simp] theorem upto_all (n : Nat) : upto n n = iota n := by simp [upto]

def st101 (n : Nat) (nb : Nat) (box : Nat → Option (List (List AV))) (tok : Nat → Bool) (nt : Nat) (i : Nat) : AState := ⟨tl [(3, .msl (nb + 6) 0 n 1), (8, I n), (9, I i)], lb nb box [(6, rowsI (upto n i))], tok, nt⟩

theorem iota_set {n i : Nat} (h : i < n) : (upto n i).set i (i : Int) = upto n (i + 1) := by
  unfold upto
  rw [List.set_append]
  simp only [iota_length, Nat.lt_irrefl, ↓reduceIte, Nat.sub_self, iota_succ, List.append_assoc]
  have : n - i = (n - (i + 1)) + 1 := by omega
  rw [this, List.replicate_succ]
  simp

theorem numbers_c (n : Nat) (hn : n ≤ 1000000) (tok : Nat → Bool) (nt : Nat) : DCall Tryz.prog 125 [I n] tok nt (.d (ints (iota n))) tok nt := by
  intro box nb
  refine ACalls.of_body Tryz.func125 rfl (by kernel_rfl) follows_Tryz (by kernel_rfl) (by simp [Tryz.ntmps125]) ?_
  intro hbox htok
  simp only at hbox htok
  apply AL.start
  repeat (first | refine AL.seq ?_ | refine AL.block ?_ | refine AL.skip ?_ | refine AL.blk ?_)
  refine AL.region follows_Tryz (Nat.le_refl _) (by kernel_rfl) ?_
  simp
  repeat (first | refine AL.seq ?_ | refine AL.block ?_ | refine AL.skip ?_ | refine AL.blk ?_)
  refine AL.region follows_Tryz (Nat.le_refl _) (by kernel_rfl) ?_
  simp
  refine ⟨by omega, ?_⟩
  repeat (first | refine AL.seq ?_ | refine AL.block ?_ | refine AL.skip ?_ | refine AL.blk ?_)
  refine AL.region follows_Tryz (Nat.le_refl _) (by kernel_rfl) ?_
  simp
  repeat (first | refine AL.seq ?_ | refine AL.block ?_ | refine AL.skip ?_ | refine AL.blk ?_)
  refine AL.loopT (st101 n nb box tok nt) (fun i => i ≤ n) (fun i => n - i) 0 (Nat.zero_le _) (Weaks.mk (Nat.le_refl _) rfl (by simp [ToL, lk]) (by simp [BoxL, lk])) ?_
  rintro i S hi hS
  simp only [st101] at hS
  subst hS
  have hw : IntKind.i64.wrap (↑i + 1) = ((i + 1 : Nat) : Int) := by rw [wrap_in (by omega) (by omega)]; rfl
  repeat (first | refine AL.seq ?_ | refine AL.block ?_ | refine AL.skip ?_ | refine AL.blk ?_)
  refine AL.region follows_Tryz (Nat.le_refl _) (by kernel_rfl) ?_
  simp
  repeat (first | refine AL.seq ?_ | refine AL.block ?_ | refine AL.skip ?_ | refine AL.blk ?_)
  refine AL.cond ?_
  simp
  refine ⟨fun hlt => ?_, fun hge => ?_⟩
  · repeat (first | refine AL.seq ?_ | refine AL.block ?_ | refine AL.skip ?_ | refine AL.blk ?_)
    refine AL.region follows_Tryz (Nat.le_refl _) (by kernel_rfl) ?_
    simp
    repeat (first | refine AL.seq ?_ | refine AL.block ?_ | refine AL.skip ?_ | refine AL.blk ?_)
    refine AL.region follows_Tryz (Nat.le_refl _) (by kernel_rfl) ?_
    simp [hlt, hi]
    repeat (first | refine AL.seq ?_ | refine AL.block ?_ | refine AL.skip ?_ | refine AL.blk ?_)
    refine AL.region follows_Tryz (Nat.le_refl _) (by kernel_rfl) ?_
    simp [hw]
    repeat (first | refine AL.seq ?_ | refine AL.block ?_ | refine AL.skip ?_ | refine AL.blk ?_)
    refine AL.nil ?_
    refine ⟨i + 1, hlt, by omega, Weaks.mk (Nat.le_refl _) rfl (by simp [ToL, lk]) (by simp [BoxL, lk, iota_set hlt])⟩
  · repeat (first | refine AL.seq ?_ | refine AL.block ?_ | refine AL.skip ?_ | refine AL.blk ?_)
    refine AL.exit ?_
    simp only [AU, ↓reduceIte]
    have : i = n := by omega
    subst this
    refine AL.weak (Weaks.frz (l' := [(3, .d (ints (iota i)))]) (loc' := []) 6 1 (rI (iota i)) (Nat.le_refl _) rfl (by simp [lk, rowsI_eq]) (by simp [lk]) (by simp) (by simp [ToL]) (by simp [BoxL])) ?_
    repeat (first | refine AL.seq ?_ | refine AL.block ?_ | refine AL.skip ?_ | refine AL.blk ?_)
    refine AL.region follows_Tryz (Nat.le_refl _) (by kernel_rfl) ?_
    simp
    repeat (first | refine AL.seq ?_ | refine AL.block ?_ | refine AL.skip ?_ | refine AL.blk ?_)
    refine AL.ret ?_
    try simp only [AU]
    refine ⟨by simp, Fin.data (by simp [resAs, resA]; rfl) hbox rfl htok (fun _ h => h) (Nat.le_refl _) ?_⟩
    simp [packA]
end Go.AM
namespace Go.AM
open Go Go.Proofs
set_option linter.unusedSimpArgs false
set_option linter.unusedVariables false

/-! ### Identity -/
def idM (g : Gr) : Mo := ⟨iota g.nodes.length, iota g.edges.length⟩

theorem identity_c (g : Gr) (hg : g.Fit) (hv : validG g = 0) (tok : Nat → Bool) (nt : Nat) : DCall Tryz.prog 121 [g.av] tok nt (.tup [(idM g).av, I 0]) tok nt := by
  intro box nb
  refine ACalls.of_body Tryz.func121 rfl (by kernel_rfl) follows_Tryz (by kernel_rfl) (by simp [Tryz.ntmps121]) ?_
  intro hbox htok
  simp only at hbox htok
  apply AL.start
  repeat (first | refine AL.seq ?_ | refine AL.block ?_ | refine AL.skip ?_ | refine AL.blk ?_)
  refine AL.region follows_Tryz (Nat.le_refl _) (by kernel_rfl) ?_
  simp
  repeat (first | refine AL.seq ?_ | refine AL.block ?_ | refine AL.skip ?_ | refine AL.blk ?_)
  refine AL.region follows_Tryz (Nat.le_refl _) (by kernel_rfl) ?_
  simp
  refine Stop.of_d (graphValid_c g hg _ _) ?_
  simp
  repeat (first | refine AL.seq ?_ | refine AL.block ?_ | refine AL.skip ?_ | refine AL.blk ?_)
  refine AL.region follows_Tryz (Nat.le_refl _) (by kernel_rfl) ?_
  simp [hv]
  repeat (first | refine AL.seq ?_ | refine AL.block ?_ | refine AL.skip ?_ | refine AL.blk ?_)
  refine AL.cond ?_
  simp
  repeat (first | refine AL.seq ?_ | refine AL.block ?_ | refine AL.skip ?_ | refine AL.blk ?_)
  refine AL.region follows_Tryz (Nat.le_refl _) (by kernel_rfl) ?_
  simp
  refine Stop.of_d (numbers_c g.nodes.length hg.n _ _) ?_
  simp
  refine Stop.of_d (numbers_c g.edges.length hg.e _ _) ?_
  simp
  repeat (first | refine AL.seq ?_ | refine AL.block ?_ | refine AL.skip ?_ | refine AL.blk ?_)
  refine AL.ret ?_
  try simp only [AU]
  refine ⟨by simp, Fin.data (by simp [resAs, resA]; rfl) hbox rfl htok (fun _ h => h) (Nat.le_refl _) ?_⟩
  simp [packA, idM]

/-! ### glued, overlap -/
def glueN (an bn l : List Int) : Nat → List Int × List Int
  | 0 => (an, [])
  | i + 1 => if l.getD i 0 < 0 then ((glueN an bn l i).1 ++ [bn.getD i 0], (glueN an bn l i).2 ++ [((glueN an bn l i).1.length : Int)]) else ((glueN an bn l i).1, (glueN an bn l i).2 ++ [l.getD i 0])

def glueE (ae be : List E) (rn l : List Int) : Nat → List E × List Int
  | 0 => (ae, [])
  | i + 1 => if l.getD i 0 < 0 then ((glueE ae be rn l i).1 ++ [⟨(be.getD i default).ty, rn.getD (be.getD i default).fr.toNat 0, rn.getD (be.getD i default).to.toNat 0⟩], (glueE ae be rn l i).2 ++ [((glueE ae be rn l i).1.length : Int)])
    else ((glueE ae be rn l i).1, (glueE ae be rn l i).2 ++ [l.getD i 0])

def glue (a b : Gr) (nodes edges : List Int) : Ov :=
  let n := glueN a.nodes b.nodes nodes nodes.length
  let e := glueE a.edges b.edges n.2 edges edges.length
  ⟨⟨n.1, e.1⟩, idM a, ⟨n.2, e.2⟩⟩

theorem glueN_len (an bn l : List Int) : ∀ i, (glueN an bn l i).1.length ≤ an.length + i ∧ (glueN an bn l i).2.length = i
  | 0 => by simp [glueN]
  | i + 1 => by
    have := glueN_len an bn l i
    simp only [glueN]
    split <;> simp <;> omega

theorem glueE_len (ae be : List E) (rn l : List Int) : ∀ i, (glueE ae be rn l i).1.length ≤ ae.length + i ∧ (glueE ae be rn l i).2.length = i
  | 0 => by simp [glueE]
  | i + 1 => by
    have := glueE_len ae be rn l i
    simp only [glueE]
    split <;> simp <;> omega

structure Acc4 where
  i : Nat
  o1 : Own
  o2 : Own
  o3 : Own
  o4 : Own
  tok : Nat → Bool
  nt : Nat

def st58a (a b : Gr) (l k : List Int) (nb : Nat) (box : Nat → Option (List (List AV))) (x : Acc4) : AState :=
  ⟨tl [(2, .d (ints l)), (3, .d (ints k)), (4, .ptr (nb + 4) 0 0), (5, .ptr (nb + 5) 0 0), (8, .ptr (nb + 8) 0 0), (11, .ptr (nb + 11) 0 0), (31, .d (ints l)), (32, I l.length), (33, I x.i)],
    lb nb box [(4, [[.d (ints a.nodes), .d (AM.edges a.edges)]]), (5, [[.d (ints b.nodes), .d (AM.edges b.edges)]]), (8, [[.bot, .bot, .bot, .bot, .bot, .bot]]),
      (11, [[.osl 1 (rI (glueN a.nodes b.nodes l x.i).1) x.o1, .osl 3 (rE a.edges) x.o2, .d (ints (idM a).nodes), .d (ints (idM a).edges), .osl 1 (rI (glueN a.nodes b.nodes l x.i).2) x.o3, .osl 1 [] x.o4]])], x.tok, x.nt⟩

structure Acc2 where
  i : Nat
  o1 : Own
  o2 : Own
  tok : Nat → Bool
  nt : Nat

def st58b (a b : Gr) (l k : List Int) (nb : Nat) (box : Nat → Option (List (List AV))) (x : Acc2) : AState :=
  ⟨tl [(5, .ptr (nb + 5) 0 0), (8, .ptr (nb + 8) 0 0), (11, .ptr (nb + 11) 0 0), (65, .d (ints k)), (66, I k.length), (67, I x.i)],
    lb nb box [(5, [[.d (ints b.nodes), .d (AM.edges b.edges)]]), (8, [[.bot, .bot, .bot, .bot, .bot, .bot]]),
      (11, [[.d (ints (glueN a.nodes b.nodes l l.length).1), .osl 3 (rE (glueE a.edges b.edges (glueN a.nodes b.nodes l l.length).2 k x.i).1) x.o1, .d (ints (idM a).nodes), .d (ints (idM a).edges), .d (ints (glueN a.nodes b.nodes l l.length).2), .osl 1 (rI (glueE a.edges b.edges (glueN a.nodes b.nodes l l.length).2 k x.i).2) x.o2]])], x.tok, x.nt⟩

theorem glued_c (a b : Gr) (l k : List Int) (ha : a.Fit) (hva : validG a = 0) (hl : l.length ≤ b.nodes.length) (hk : k.length ≤ b.edges.length) (hlb : l.length ≤ 1000000) (hkb : k.length ≤ 1000000)
    (hx : ∀ i (h : i < k.length) (h2 : i < b.edges.length), k[i] < 0 → 0 ≤ b.edges[i].fr ∧ b.edges[i].fr < l.length ∧ 0 ≤ b.edges[i].to ∧ b.edges[i].to < l.length) (tok : Nat → Bool) (nt : Nat) :
    DCall Tryz.prog 113 [a.av, b.av, .d (ints l), .d (ints k)] tok nt (glue a b l k).av tok nt := by
  intro box nb
  have han := ha.n
  have hae := ha.e
  refine ACalls.of_body Tryz.func113 rfl (by kernel_rfl) follows_Tryz (by kernel_rfl) (by simp [Tryz.ntmps113]) ?_
  intro hbox htok
  simp only at hbox htok
  apply AL.start
  repeat (first | refine AL.seq ?_ | refine AL.block ?_ | refine AL.skip ?_ | refine AL.blk ?_)
  refine AL.region follows_Tryz (Nat.le_refl _) (by kernel_rfl) ?_
  simp
  repeat (first | refine AL.seq ?_ | refine AL.block ?_ | refine AL.skip ?_ | refine AL.blk ?_)
  refine AL.region follows_Tryz (Nat.le_refl _) (by kernel_rfl) ?_
  simp
  refine Stop.of_d (identity_c a ha hva _ _) ?_
  simp
  repeat (first | refine AL.seq ?_ | refine AL.block ?_ | refine AL.skip ?_ | refine AL.blk ?_)
  refine AL.region follows_Tryz (Nat.le_refl _) (by kernel_rfl) ?_
  simp
  refine Stop.of_d (clone_c a.nodes han _ _) ?_
  simp
  refine Stop.of_d (cloneE_c a.edges hae _ _) ?_
  simp
  repeat (first | refine AL.seq ?_ | refine AL.block ?_ | refine AL.skip ?_ | refine AL.blk ?_)
  refine AL.region follows_Tryz (Nat.le_refl _) (by kernel_rfl) ?_
  simp
  repeat (first | refine AL.seq ?_ | refine AL.block ?_ | refine AL.skip ?_ | refine AL.blk ?_)
  have htk0 : TK tok nt (upd (upd tok nt true) (nt + 1) true) (nt + 2) [.tok nt, .tok (nt + 1), .full, .full] := ((TK.start htok).full.app.full.app.swap.full.full).perm (List.perm_append_comm (l₁ := [Own.full, Own.full]) (l₂ := [Own.tok nt, Own.tok (nt + 1)]))
  refine AL.loopT (st58a a b l k nb box) (fun x => x.i ≤ l.length ∧ TK tok nt x.tok x.nt [x.o1, x.o2, x.o3, x.o4]) (fun x => l.length - x.i) ⟨0, .tok nt, .tok (nt + 1), .full, .full, _, _⟩ ⟨Nat.zero_le _, htk0⟩ (Weaks.mk htk0.le rfl (by simp [ToL, lk]) (by simp [BoxL, lk, glueN, idM])) ?_
  rintro ⟨i, o1, o2, o3, o4, tok', nt'⟩ S ⟨hi, htk⟩ hS
  simp only [st58a] at hS hi htk
  subst hS
  have hw : IntKind.i64.wrap (↑i + 1) = ((i + 1 : Nat) : Int) := by rw [wrap_in (by omega) (by omega)]; rfl
  have hln := glueN_len a.nodes b.nodes l i
  repeat (first | refine AL.seq ?_ | refine AL.block ?_ | refine AL.skip ?_ | refine AL.blk ?_)
  refine AL.region follows_Tryz (Nat.le_refl _) (by kernel_rfl) ?_
  simp
  repeat (first | refine AL.seq ?_ | refine AL.block ?_ | refine AL.skip ?_ | refine AL.blk ?_)
  refine AL.cond ?_
  simp
  refine ⟨fun hlt => ?_, fun hge => ?_⟩
  · have hlb : i < b.nodes.length := by omega
    repeat (first | refine AL.seq ?_ | refine AL.block ?_ | refine AL.skip ?_ | refine AL.blk ?_)
    refine AL.region follows_Tryz (Nat.le_refl _) (by kernel_rfl) ?_
    simp [hlt]
    repeat (first | refine AL.seq ?_ | refine AL.block ?_ | refine AL.skip ?_ | refine AL.blk ?_)
    refine AL.region follows_Tryz (Nat.le_refl _) (by kernel_rfl) ?_
    simp
    repeat (first | refine AL.seq ?_ | refine AL.block ?_ | refine AL.skip ?_ | refine AL.blk ?_)
    refine AL.cond ?_
    simp
    refine ⟨fun hneg => ?_, fun hpos => ?_⟩
    · repeat (first | refine AL.seq ?_ | refine AL.block ?_ | refine AL.skip ?_ | refine AL.blk ?_)
      refine AL.region follows_Tryz (Nat.le_refl _) (by kernel_rfl) ?_
      simp
      repeat (first | refine AL.seq ?_ | refine AL.block ?_ | refine AL.skip ?_ | refine AL.blk ?_)
      refine AL.region follows_Tryz (Nat.le_refl _) (by kernel_rfl) ?_
      simp [hlb]
      refine ⟨⟨by omega, htk.live⟩, ?_⟩
      have htk1 := htk.app
      repeat (first | refine AL.seq ?_ | refine AL.block ?_ | refine AL.skip ?_ | refine AL.blk ?_)
      refine AL.region follows_Tryz (Nat.le_refl _) (by kernel_rfl) ?_
      simp
      refine ⟨⟨by omega, by simpa using htk1.pick3.live⟩, ?_⟩
      have htk2 := htk1.pick3.app.put3
      repeat (first | refine AL.seq ?_ | refine AL.block ?_ | refine AL.skip ?_ | refine AL.blk ?_)
      refine AL.region follows_Tryz (Nat.le_refl _) (by kernel_rfl) ?_
      simp [hw]
      repeat (first | refine AL.seq ?_ | refine AL.block ?_ | refine AL.skip ?_ | refine AL.blk ?_)
      refine AL.nil ?_
      have hg : l.getD i 0 = l[i] := by simp [hlt]
      have hgb : b.nodes.getD i 0 = b.nodes[i] := by simp [hlb]
      refine ⟨⟨i + 1, _, _, _, _, _, _⟩, ⟨hlt, htk2⟩, by simp; omega, Weaks.mk htk2.le rfl (by simp [ToL, lk]) (by simp [BoxL, lk, glueN, hlt, hlb, hneg])⟩
    · repeat (first | refine AL.seq ?_ | refine AL.block ?_ | refine AL.skip ?_ | refine AL.blk ?_)
      refine AL.region follows_Tryz (Nat.le_refl _) (by kernel_rfl) ?_
      simp
      refine ⟨⟨by omega, htk.pick3.live⟩, ?_⟩
      have htk2 := htk.pick3.app.put3
      repeat (first | refine AL.seq ?_ | refine AL.block ?_ | refine AL.skip ?_ | refine AL.blk ?_)
      refine AL.region follows_Tryz (Nat.le_refl _) (by kernel_rfl) ?_
      simp [hw]
      repeat (first | refine AL.seq ?_ | refine AL.block ?_ | refine AL.skip ?_ | refine AL.blk ?_)
      refine AL.nil ?_
      refine ⟨⟨i + 1, _, _, _, _, _, _⟩, ⟨hlt, htk2⟩, by simp; omega, Weaks.mk htk2.le rfl (by simp [ToL, lk]) (by simp [BoxL, lk, glueN, hlt, hlb, show ¬ l[i] < 0 by omega])⟩
  · repeat (first | refine AL.seq ?_ | refine AL.block ?_ | refine AL.skip ?_ | refine AL.blk ?_)
    refine AL.exit ?_
    simp only [AU, ↓reduceIte]
    have : i = l.length := by omega
    subst this
    repeat (first | refine AL.seq ?_ | refine AL.block ?_ | refine AL.skip ?_ | refine AL.blk ?_)
    refine AL.region follows_Tryz (Nat.le_refl _) (by kernel_rfl) ?_
    simp
    repeat (first | refine AL.seq ?_ | refine AL.block ?_ | refine AL.skip ?_ | refine AL.blk ?_)
    have htk2 := htk.tail.swap.tail
    refine AL.loopT (st58b a b l k nb box) (fun x => x.i ≤ k.length ∧ TK tok nt x.tok x.nt [x.o1, x.o2]) (fun x => k.length - x.i) ⟨0, o2, o4, tok', nt'⟩ ⟨Nat.zero_le _, htk2⟩ (Weaks.mk htk2.le rfl (by simp [ToL, lk]) (by simp [BoxL, lk, glueE])) ?_
    rintro ⟨i, o1, o2, tok', nt'⟩ S ⟨hi, htk⟩ hS
    simp only [st58b] at hS hi htk
    subst hS
    have hw : IntKind.i64.wrap (↑i + 1) = ((i + 1 : Nat) : Int) := by rw [wrap_in (by omega) (by omega)]; rfl
    generalize hrn : (glueN a.nodes b.nodes l l.length).2 = rn at *
    have hrl : rn.length = l.length := hln.2
    have hle := glueE_len a.edges b.edges rn k i
    repeat (first | refine AL.seq ?_ | refine AL.block ?_ | refine AL.skip ?_ | refine AL.blk ?_)
    refine AL.region follows_Tryz (Nat.le_refl _) (by kernel_rfl) ?_
    simp
    repeat (first | refine AL.seq ?_ | refine AL.block ?_ | refine AL.skip ?_ | refine AL.blk ?_)
    refine AL.cond ?_
    simp
    refine ⟨fun hlt => ?_, fun hge => ?_⟩
    · have hlb : i < b.edges.length := by omega
      repeat (first | refine AL.seq ?_ | refine AL.block ?_ | refine AL.skip ?_ | refine AL.blk ?_)
      refine AL.region follows_Tryz (Nat.le_refl _) (by kernel_rfl) ?_
      simp [hlt]
      repeat (first | refine AL.seq ?_ | refine AL.block ?_ | refine AL.skip ?_ | refine AL.blk ?_)
      refine AL.region follows_Tryz (Nat.le_refl _) (by kernel_rfl) ?_
      simp
      repeat (first | refine AL.seq ?_ | refine AL.block ?_ | refine AL.skip ?_ | refine AL.blk ?_)
      refine AL.cond ?_
      simp
      refine ⟨fun hneg => ?_, fun hpos => ?_⟩
      · obtain ⟨x1, x2, x3, x4⟩ := hx i hlt hlb hneg
        have y1 : b.edges[i].fr.toNat < rn.length := by omega
        have y2 : b.edges[i].to.toNat < rn.length := by omega
        repeat (first | refine AL.seq ?_ | refine AL.block ?_ | refine AL.skip ?_ | refine AL.blk ?_)
        refine AL.region follows_Tryz (Nat.le_refl _) (by kernel_rfl) ?_
        simp
        repeat (first | refine AL.seq ?_ | refine AL.block ?_ | refine AL.skip ?_ | refine AL.blk ?_)
        refine AL.region follows_Tryz (Nat.le_refl _) (by kernel_rfl) ?_
        simp [hlb]
        repeat (first | refine AL.seq ?_ | refine AL.block ?_ | refine AL.skip ?_ | refine AL.blk ?_)
        refine AL.region follows_Tryz (Nat.le_refl _) (by kernel_rfl) ?_
        simp [x1, x2, x3, x4, y1, y2, hrl]
        refine ⟨⟨by omega, htk.live⟩, ?_⟩
        have htk1 := htk.app
        repeat (first | refine AL.seq ?_ | refine AL.block ?_ | refine AL.skip ?_ | refine AL.blk ?_)
        refine AL.region follows_Tryz (Nat.le_refl _) (by kernel_rfl) ?_
        simp
        refine ⟨⟨by omega, by simpa using htk1.swap.live⟩, ?_⟩
        have htk2 := htk1.swap.app.swap
        repeat (first | refine AL.seq ?_ | refine AL.block ?_ | refine AL.skip ?_ | refine AL.blk ?_)
        refine AL.region follows_Tryz (Nat.le_refl _) (by kernel_rfl) ?_
        simp [hw]
        repeat (first | refine AL.seq ?_ | refine AL.block ?_ | refine AL.skip ?_ | refine AL.blk ?_)
        refine AL.nil ?_
        have hbd : b.edges.getD i default = b.edges[i] := by simp [hlb]
        refine ⟨⟨i + 1, _, _, _, _⟩, ⟨hlt, htk2⟩, by simp; omega, Weaks.mk htk2.le rfl (by simp [ToL, lk]) (by simp [BoxL, lk, glueE, hrn, hlt, hlb, hneg, y1, y2])⟩
      · repeat (first | refine AL.seq ?_ | refine AL.block ?_ | refine AL.skip ?_ | refine AL.blk ?_)
        refine AL.region follows_Tryz (Nat.le_refl _) (by kernel_rfl) ?_
        simp
        refine ⟨⟨by omega, htk.swap.live⟩, ?_⟩
        have htk2 := htk.swap.app.swap
        repeat (first | refine AL.seq ?_ | refine AL.block ?_ | refine AL.skip ?_ | refine AL.blk ?_)
        refine AL.region follows_Tryz (Nat.le_refl _) (by kernel_rfl) ?_
        simp [hw]
        repeat (first | refine AL.seq ?_ | refine AL.block ?_ | refine AL.skip ?_ | refine AL.blk ?_)
        refine AL.nil ?_
        refine ⟨⟨i + 1, _, _, _, _⟩, ⟨hlt, htk2⟩, by simp; omega, Weaks.mk htk2.le rfl (by simp [ToL, lk]) (by simp [BoxL, lk, glueE, hrn, hlt, hlb, show ¬ k[i] < 0 by omega])⟩
    · repeat (first | refine AL.seq ?_ | refine AL.block ?_ | refine AL.skip ?_ | refine AL.blk ?_)
      refine AL.exit ?_
      simp only [AU, ↓reduceIte]
      have : i = k.length := by omega
      subst this
      repeat (first | refine AL.seq ?_ | refine AL.block ?_ | refine AL.skip ?_ | refine AL.blk ?_)
      refine AL.region follows_Tryz (Nat.le_refl _) (by kernel_rfl) ?_
      simp
      repeat (first | refine AL.seq ?_ | refine AL.block ?_ | refine AL.skip ?_ | refine AL.blk ?_)
      refine AL.ret ?_
      try simp only [AU]
      refine ⟨by simp, Fin.data (by simp [resAs, resA]; rfl) hbox rfl htok htk.old htk.le ?_⟩
      simp [packA, glue, hrn]
end Go.AM
namespace Go.AM
open Go Go.Proofs
set_option linter.unusedSimpArgs false
set_option linter.unusedVariables false

/-! ### ref13.overlap -/
def st61a (a b : Gr) (l k : List Int) (nb : Nat) (box : Nat → Option (List (List AV))) (x : Acc4) : AState :=
  ⟨tl [(2, .d (ints l)), (3, .d (ints k)), (5, .ptr (nb + 5) 0 0), (8, .ptr (nb + 8) 0 0), (9, .ptr (nb + 9) 0 0), (10, I x.i)],
    lb nb box [(5, [[.d (ints b.nodes), .d (AM.edges b.edges)]]), (8, [[.bot, .bot, .bot, .bot, .bot, .bot]]),
      (9, [[.osl 1 (rI (glueN a.nodes b.nodes l x.i).1) x.o1, .osl 3 (rE a.edges) x.o2, .d (ints (idM a).nodes), .d (ints (idM a).edges), .osl 1 (rI (glueN a.nodes b.nodes l x.i).2) x.o3, .osl 1 [] x.o4]])], x.tok, x.nt⟩

def st61b (a b : Gr) (l k : List Int) (nb : Nat) (box : Nat → Option (List (List AV))) (x : Acc2) : AState :=
  ⟨tl [(3, .d (ints k)), (5, .ptr (nb + 5) 0 0), (8, .ptr (nb + 8) 0 0), (9, .ptr (nb + 9) 0 0), (12, I x.i)],
    lb nb box [(5, [[.d (ints b.nodes), .d (AM.edges b.edges)]]), (8, [[.bot, .bot, .bot, .bot, .bot, .bot]]),
      (9, [[.d (ints (glueN a.nodes b.nodes l l.length).1), .osl 3 (rE (glueE a.edges b.edges (glueN a.nodes b.nodes l l.length).2 k x.i).1) x.o1, .d (ints (idM a).nodes), .d (ints (idM a).edges), .d (ints (glueN a.nodes b.nodes l l.length).2), .osl 1 (rI (glueE a.edges b.edges (glueN a.nodes b.nodes l l.length).2 k x.i).2) x.o2]])], x.tok, x.nt⟩

theorem overlap_c (a b : Gr) (l k : List Int) (ha : a.Fit) (hl : l.length ≤ b.nodes.length) (hk : k.length ≤ b.edges.length) (hlb : l.length ≤ 1000000) (hkb : k.length ≤ 1000000)
    (hx : ∀ i (h : i < k.length) (h2 : i < b.edges.length), k[i] < 0 → 0 ≤ b.edges[i].fr ∧ b.edges[i].fr < l.length ∧ 0 ≤ b.edges[i].to ∧ b.edges[i].to < l.length) (tok : Nat → Bool) (nt : Nat) :
    DCall Tryz.prog 101 [a.av, b.av, .d (ints l), .d (ints k)] tok nt (glue a b l k).av tok nt := by
  intro box nb
  have han := ha.n
  have hae := ha.e
  refine ACalls.of_body Tryz.func101 rfl (by kernel_rfl) follows_Tryz (by kernel_rfl) (by simp [Tryz.ntmps101]) ?_
  intro hbox htok
  simp only at hbox htok
  apply AL.start
  repeat (first | refine AL.seq ?_ | refine AL.block ?_ | refine AL.skip ?_ | refine AL.blk ?_)
  refine AL.region follows_Tryz (Nat.le_refl _) (by kernel_rfl) ?_
  simp
  repeat (first | refine AL.seq ?_ | refine AL.block ?_ | refine AL.skip ?_ | refine AL.blk ?_)
  refine AL.region follows_Tryz (Nat.le_refl _) (by kernel_rfl) ?_
  simp
  refine Stop.of_d (copied_c a ha _ _) ?_
  simp
  refine Stop.of_d (of_c a ha _ _) ?_
  simp
  repeat (first | refine AL.seq ?_ | refine AL.block ?_ | refine AL.skip ?_ | refine AL.blk ?_)
  refine AL.region follows_Tryz (Nat.le_refl _) (by kernel_rfl) ?_
  simp
  repeat (first | refine AL.seq ?_ | refine AL.block ?_ | refine AL.skip ?_ | refine AL.blk ?_)
  have htk0 : TK tok nt (upd (upd tok nt true) (nt + 1) true) (nt + 2) [.tok nt, .tok (nt + 1), .full, .full] := ((TK.start htok).full.app.full.app.swap.full.full).perm (List.perm_append_comm (l₁ := [Own.full, Own.full]) (l₂ := [Own.tok nt, Own.tok (nt + 1)]))
  refine AL.loopT (st61a a b l k nb box) (fun x => x.i ≤ l.length ∧ TK tok nt x.tok x.nt [x.o1, x.o2, x.o3, x.o4]) (fun x => l.length - x.i) ⟨0, .tok nt, .tok (nt + 1), .full, .full, _, _⟩ ⟨Nat.zero_le _, htk0⟩ (Weaks.mk htk0.le rfl (by simp [ToL, lk]) (by simp [BoxL, lk, glueN, idM])) ?_
  rintro ⟨i, o1, o2, o3, o4, tok', nt'⟩ S ⟨hi, htk⟩ hS
  simp only [st61a] at hS hi htk
  subst hS
  have hw : IntKind.i64.wrap (↑i + 1) = ((i + 1 : Nat) : Int) := by rw [wrap_in (by omega) (by omega)]; rfl
  have hln := glueN_len a.nodes b.nodes l i
  repeat (first | refine AL.seq ?_ | refine AL.block ?_ | refine AL.skip ?_ | refine AL.blk ?_)
  refine AL.region follows_Tryz (Nat.le_refl _) (by kernel_rfl) ?_
  simp
  repeat (first | refine AL.seq ?_ | refine AL.block ?_ | refine AL.skip ?_ | refine AL.blk ?_)
  refine AL.cond ?_
  simp
  refine ⟨fun hlt => ?_, fun hge => ?_⟩
  · have hlb : i < b.nodes.length := by omega
    repeat (first | refine AL.seq ?_ | refine AL.block ?_ | refine AL.skip ?_ | refine AL.blk ?_)
    refine AL.region follows_Tryz (Nat.le_refl _) (by kernel_rfl) ?_
    simp [hlt]
    repeat (first | refine AL.seq ?_ | refine AL.block ?_ | refine AL.skip ?_ | refine AL.blk ?_)
    refine AL.region follows_Tryz (Nat.le_refl _) (by kernel_rfl) ?_
    simp
    repeat (first | refine AL.seq ?_ | refine AL.block ?_ | refine AL.skip ?_ | refine AL.blk ?_)
    refine AL.cond ?_
    simp
    refine ⟨fun hneg => ?_, fun hpos => ?_⟩
    · repeat (first | refine AL.seq ?_ | refine AL.block ?_ | refine AL.skip ?_ | refine AL.blk ?_)
      refine AL.region follows_Tryz (Nat.le_refl _) (by kernel_rfl) ?_
      simp
      repeat (first | refine AL.seq ?_ | refine AL.block ?_ | refine AL.skip ?_ | refine AL.blk ?_)
      refine AL.region follows_Tryz (Nat.le_refl _) (by kernel_rfl) ?_
      simp [hlb]
      refine ⟨⟨by omega, htk.live⟩, ?_⟩
      have htk1 := htk.app
      repeat (first | refine AL.seq ?_ | refine AL.block ?_ | refine AL.skip ?_ | refine AL.blk ?_)
      refine AL.region follows_Tryz (Nat.le_refl _) (by kernel_rfl) ?_
      simp
      refine ⟨⟨by omega, by simpa using htk1.pick3.live⟩, ?_⟩
      have htk2 := htk1.pick3.app.put3
      repeat (first | refine AL.seq ?_ | refine AL.block ?_ | refine AL.skip ?_ | refine AL.blk ?_)
      refine AL.region follows_Tryz (Nat.le_refl _) (by kernel_rfl) ?_
      simp [hw]
      repeat (first | refine AL.seq ?_ | refine AL.block ?_ | refine AL.skip ?_ | refine AL.blk ?_)
      refine AL.nil ?_
      have hg : l.getD i 0 = l[i] := by simp [hlt]
      have hgb : b.nodes.getD i 0 = b.nodes[i] := by simp [hlb]
      refine ⟨⟨i + 1, _, _, _, _, _, _⟩, ⟨hlt, htk2⟩, by simp; omega, Weaks.mk htk2.le rfl (by simp [ToL, lk]) (by simp [BoxL, lk, glueN, hlt, hlb, hneg])⟩
    · repeat (first | refine AL.seq ?_ | refine AL.block ?_ | refine AL.skip ?_ | refine AL.blk ?_)
      refine AL.region follows_Tryz (Nat.le_refl _) (by kernel_rfl) ?_
      simp
      refine ⟨⟨by omega, htk.pick3.live⟩, ?_⟩
      have htk2 := htk.pick3.app.put3
      repeat (first | refine AL.seq ?_ | refine AL.block ?_ | refine AL.skip ?_ | refine AL.blk ?_)
      refine AL.region follows_Tryz (Nat.le_refl _) (by kernel_rfl) ?_
      simp [hw]
      repeat (first | refine AL.seq ?_ | refine AL.block ?_ | refine AL.skip ?_ | refine AL.blk ?_)
      refine AL.nil ?_
      refine ⟨⟨i + 1, _, _, _, _, _, _⟩, ⟨hlt, htk2⟩, by simp; omega, Weaks.mk htk2.le rfl (by simp [ToL, lk]) (by simp [BoxL, lk, glueN, hlt, hlb, show ¬ l[i] < 0 by omega])⟩
  · repeat (first | refine AL.seq ?_ | refine AL.block ?_ | refine AL.skip ?_ | refine AL.blk ?_)
    refine AL.exit ?_
    simp only [AU, ↓reduceIte]
    have : i = l.length := by omega
    subst this
    repeat (first | refine AL.seq ?_ | refine AL.block ?_ | refine AL.skip ?_ | refine AL.blk ?_)
    refine AL.region follows_Tryz (Nat.le_refl _) (by kernel_rfl) ?_
    simp
    repeat (first | refine AL.seq ?_ | refine AL.block ?_ | refine AL.skip ?_ | refine AL.blk ?_)
    have htk2 := htk.tail.swap.tail
    refine AL.loopT (st61b a b l k nb box) (fun x => x.i ≤ k.length ∧ TK tok nt x.tok x.nt [x.o1, x.o2]) (fun x => k.length - x.i) ⟨0, o2, o4, tok', nt'⟩ ⟨Nat.zero_le _, htk2⟩ (Weaks.mk htk2.le rfl (by simp [ToL, lk]) (by simp [BoxL, lk, glueE])) ?_
    rintro ⟨i, o1, o2, tok', nt'⟩ S ⟨hi, htk⟩ hS
    simp only [st61b] at hS hi htk
    subst hS
    have hw : IntKind.i64.wrap (↑i + 1) = ((i + 1 : Nat) : Int) := by rw [wrap_in (by omega) (by omega)]; rfl
    generalize hrn : (glueN a.nodes b.nodes l l.length).2 = rn at *
    have hrl : rn.length = l.length := hln.2
    have hle := glueE_len a.edges b.edges rn k i
    repeat (first | refine AL.seq ?_ | refine AL.block ?_ | refine AL.skip ?_ | refine AL.blk ?_)
    refine AL.region follows_Tryz (Nat.le_refl _) (by kernel_rfl) ?_
    simp
    repeat (first | refine AL.seq ?_ | refine AL.block ?_ | refine AL.skip ?_ | refine AL.blk ?_)
    refine AL.cond ?_
    simp
    refine ⟨fun hlt => ?_, fun hge => ?_⟩
    · have hlb : i < b.edges.length := by omega
      repeat (first | refine AL.seq ?_ | refine AL.block ?_ | refine AL.skip ?_ | refine AL.blk ?_)
      refine AL.region follows_Tryz (Nat.le_refl _) (by kernel_rfl) ?_
      simp [hlt]
      repeat (first | refine AL.seq ?_ | refine AL.block ?_ | refine AL.skip ?_ | refine AL.blk ?_)
      refine AL.region follows_Tryz (Nat.le_refl _) (by kernel_rfl) ?_
      simp
      repeat (first | refine AL.seq ?_ | refine AL.block ?_ | refine AL.skip ?_ | refine AL.blk ?_)
      refine AL.cond ?_
      simp
      refine ⟨fun hneg => ?_, fun hpos => ?_⟩
      · obtain ⟨x1, x2, x3, x4⟩ := hx i hlt hlb hneg
        have y1 : b.edges[i].fr.toNat < rn.length := by omega
        have y2 : b.edges[i].to.toNat < rn.length := by omega
        repeat (first | refine AL.seq ?_ | refine AL.block ?_ | refine AL.skip ?_ | refine AL.blk ?_)
        refine AL.region follows_Tryz (Nat.le_refl _) (by kernel_rfl) ?_
        simp [hlb]
        repeat (first | refine AL.seq ?_ | refine AL.block ?_ | refine AL.skip ?_ | refine AL.blk ?_)
        refine AL.region follows_Tryz (Nat.le_refl _) (by kernel_rfl) ?_
        simp
        repeat (first | refine AL.seq ?_ | refine AL.block ?_ | refine AL.skip ?_ | refine AL.blk ?_)
        refine AL.region follows_Tryz (Nat.le_refl _) (by kernel_rfl) ?_
        simp [x1, x2, x3, x4, y1, y2, hrl]
        refine ⟨⟨by omega, htk.live⟩, ?_⟩
        have htk1 := htk.app
        repeat (first | refine AL.seq ?_ | refine AL.block ?_ | refine AL.skip ?_ | refine AL.blk ?_)
        refine AL.region follows_Tryz (Nat.le_refl _) (by kernel_rfl) ?_
        simp
        refine ⟨⟨by omega, by simpa using htk1.swap.live⟩, ?_⟩
        have htk2 := htk1.swap.app.swap
        repeat (first | refine AL.seq ?_ | refine AL.block ?_ | refine AL.skip ?_ | refine AL.blk ?_)
        refine AL.region follows_Tryz (Nat.le_refl _) (by kernel_rfl) ?_
        simp [hw]
        repeat (first | refine AL.seq ?_ | refine AL.block ?_ | refine AL.skip ?_ | refine AL.blk ?_)
        refine AL.nil ?_
        have hbd : b.edges.getD i default = b.edges[i] := by simp [hlb]
        refine ⟨⟨i + 1, _, _, _, _⟩, ⟨hlt, htk2⟩, by simp; omega, Weaks.mk htk2.le rfl (by simp [ToL, lk]) (by simp [BoxL, lk, glueE, hrn, hlt, hlb, hneg, y1, y2])⟩
      · repeat (first | refine AL.seq ?_ | refine AL.block ?_ | refine AL.skip ?_ | refine AL.blk ?_)
        refine AL.region follows_Tryz (Nat.le_refl _) (by kernel_rfl) ?_
        simp
        refine ⟨⟨by omega, htk.swap.live⟩, ?_⟩
        have htk2 := htk.swap.app.swap
        repeat (first | refine AL.seq ?_ | refine AL.block ?_ | refine AL.skip ?_ | refine AL.blk ?_)
        refine AL.region follows_Tryz (Nat.le_refl _) (by kernel_rfl) ?_
        simp [hw]
        repeat (first | refine AL.seq ?_ | refine AL.block ?_ | refine AL.skip ?_ | refine AL.blk ?_)
        refine AL.nil ?_
        refine ⟨⟨i + 1, _, _, _, _⟩, ⟨hlt, htk2⟩, by simp; omega, Weaks.mk htk2.le rfl (by simp [ToL, lk]) (by simp [BoxL, lk, glueE, hrn, hlt, hlb, show ¬ k[i] < 0 by omega])⟩
    · repeat (first | refine AL.seq ?_ | refine AL.block ?_ | refine AL.skip ?_ | refine AL.blk ?_)
      refine AL.exit ?_
      simp only [AU, ↓reduceIte]
      have : i = k.length := by omega
      subst this
      repeat (first | refine AL.seq ?_ | refine AL.block ?_ | refine AL.skip ?_ | refine AL.blk ?_)
      refine AL.region follows_Tryz (Nat.le_refl _) (by kernel_rfl) ?_
      simp
      repeat (first | refine AL.seq ?_ | refine AL.block ?_ | refine AL.skip ?_ | refine AL.blk ?_)
      refine AL.ret ?_
      try simp only [AU]
      refine ⟨by simp, Fin.data (by simp [resAs, resA]; rfl) hbox rfl htok htk.old htk.le ?_⟩
      simp [packA, glue, hrn]
end Go.AM
/-
  The abstract machine, twenty-first part: accumulators handed on as data.
-/
namespace Go.AM
open Go
set_option linter.unusedSimpArgs false
set_option linter.unusedVariables false

variable {P : Program}

/-- What an accumulator is to a callee: data. -/
def AV.asD1 : AV → AV
  | .osl sz es _ => .d (.sl sz es)
  | x => x
def AV.asD : AV → AV
  | .osl sz es _ => .d (.sl sz es)
  | .agg cs => .agg (cs.map AV.asD1)
  | x => x

theorem RV.asD1 {G : Gh} {w : World} {x : AV} {v : Value} (h : RV G w x v) : RV G w x.asD1 v := by
  cases h with
  | osl h1 h2 => exact .d h1
  | bot => exact .bot
  | d h1 => exact .d h1
  | ptr h1 => exact .ptr h1
  | cptr a u hc hr => exact .cptr a u hc hr
  | msl h1 h2 h3 => exact .msl h1 h2 h3
  | fn hl h => exact .fn hl h
  | agg hl h h1 => exact .agg hl h h1
  | tup hl h => exact .tup hl h
  | ex h => exact .ex h

theorem RV.asD {G : Gh} {w : World} {x : AV} {v : Value} (h : RV G w x v) : RV G w x.asD v := by
  cases h with
  | osl h1 h2 => exact .d h1
  | bot => exact .bot
  | d h1 => exact .d h1
  | ptr h1 => exact .ptr h1
  | cptr a u hc hr => exact .cptr a u hc hr
  | msl h1 h2 h3 => exact .msl h1 h2 h3
  | fn hl h => exact .fn hl h
  | agg hl h h1 => exact .agg (by simp [hl]) (fun i g1 g2 => by simp only [List.getElem_map]; exact (h i (by simpa using g1) g2).asD1) h1
  | tup hl h => exact .tup hl h
  | ex h => exact .ex h

theorem RVs.asD {G : Gh} {w : World} {xs : List AV} {vs : List Value} (h : RVs G w xs vs) : RVs G w (xs.map AV.asD) vs :=
  ⟨by simp [h.1], fun i g1 g2 => by simp only [List.getElem_map]; exact (h.2 i (by simpa using g1) g2).asD⟩

theorem ACalls.asD {f : FuncId} {args : List AV} {m : AMem} {Q : AV → AMem → Prop} (h : ACalls P f (args.map AV.asD) m Q) : ACalls P f args m Q :=
  ⟨h.1, fun G w vals hm hr => h.2 G w vals hm hr.asD⟩

theorem Stop.data {cx : Cx} {dr : Bool} {fid : FuncId} {args : List AV} {S : AState} {dst : Option Tmp} {K : AState → Prop} (h : Stop P cx dr fid (args.map AV.asD) S dst K) : Stop P cx dr fid args S dst K := by
  cases dr with
  | true =>
    obtain ⟨v, tok', nt', h1, h2⟩ := h
    exact ⟨v, tok', nt', fun box nb he => (h1 box nb he).asD, h2⟩
  | false => exact ACalls.asD h

/-- One slot read as another. -/
def Sub (x y : AV) : Prop := ∀ G w v, RV G w x v → RV G w y v
theorem Sub.refl (x : AV) : Sub x x := fun _ _ _ h => h
theorem Sub.data (sz : Nat) (es : List (List D)) (o : Own) : Sub (.osl sz es o) (.d (.sl sz es)) := fun _ _ _ h => h.asD
theorem Sub.nil (sz sz' : Nat) (o : Own) : Sub (.osl sz [] o) (.d (.sl sz' [])) := fun G w v h => by
  cases h with
  | osl h ho =>
    cases h with
    | sl u hcap hmax hsz hA hc hr => exact .d (.sl (es := []) (fun _ _ => default) hcap hmax (by simp) (by simp) (fun a _ i j hi _ => by simp at hi) (fun i j hi _ => by simp at hi))
def SubL : List AV → List AV → Prop
  | [], [] => True
  | x :: xs, y :: ys => Sub x y ∧ SubL xs ys
  | _, _ => False
theorem SubL.rvs {G : Gh} {w : World} : ∀ {xs ys : List AV} {vs : List Value}, SubL xs ys → RVs G w xs vs → RVs G w ys vs
  | [], [], vs, _, h => h
  | x :: xs, y :: ys, [], _, h => by have := h.1; simp at this
  | x :: xs, y :: ys, v :: vs, hs, h => RVs.cons (hs.1 _ _ _ (h.2 0 (by simp) (by simp))) (hs.2.rvs ⟨by simpa using h.1, fun i h1 h2 => h.2 (i + 1) (by simpa using h1) (by simpa using h2)⟩)
theorem ACalls.sub {f : FuncId} {args args' : List AV} {m : AMem} {Q : AV → AMem → Prop} (hs : SubL args args') (h : ACalls P f args' m Q) : ACalls P f args m Q :=
  ⟨h.1, fun G w vals hm hr => h.2 G w vals hm (hs.rvs hr)⟩
theorem Stop.sub {cx : Cx} {dr : Bool} {fid : FuncId} {args args' : List AV} {S : AState} {dst : Option Tmp} {K : AState → Prop} (hs : SubL args args') (h : Stop P cx dr fid args' S dst K) : Stop P cx dr fid args S dst K := by
  cases dr with
  | true =>
    obtain ⟨v, tok', nt', h1, h2⟩ := h
    exact ⟨v, tok', nt', fun box nb he => (h1 box nb he).sub hs, h2⟩
  | false => exact ACalls.sub hs h

theorem Stop.of_a {cx : Cx} {fid : FuncId} {args : List AV} {S : AState} {dst : Option Tmp} {K : AState → Prop} {Q : AV → AMem → Prop} (h : ACalls P fid args ⟨S.box, cx.nb, S.tok, S.nt⟩ Q)
    (hk : ∀ v m', Q v m' → K ⟨putT S.tmps dst v, m'.box, m'.tok, m'.nt⟩) : Stop P cx false fid args S dst K := h.mono hk

theorem rI_snoc (es : List Int) (v : Int) : rI es ++ [[D.raw (.int .i64 v)]] = rI (es ++ [v]) := by simp [rI]

end Go.AM
namespace Go.AM
open Go Go.Proofs
set_option linter.unusedSimpArgs false
set_option linter.unusedVariables false

/-! ### overlaps.edges, overlaps.nodes -/
/-- What a call does to the tokens, where it appends to one accumulator. -/
structure Adv (tok : Nat → Bool) (nt : Nat) (own : Own) (tok' : Nat → Bool) (nt' : Nat) (own' : Own) : Prop where
  keep : ∀ t, tok t = true → own ≠ .tok t → tok' t = true
  le : nt ≤ nt'
  live : own'.liveP tok'
  new : own' = own ∨ ∃ t, own' = .tok t ∧ nt ≤ t
  lt : ∀ t, tok' t = true → t < nt'

theorem Adv.refl {tok : Nat → Bool} {nt : Nat} {own : Own} (h : own.liveP tok) (hl : ∀ t, tok t = true → t < nt) : Adv tok nt own tok nt own := ⟨fun _ h _ => h, Nat.le_refl _, h, .inl rfl, hl⟩
theorem Adv.trans {t1 t2 t3 : Nat → Bool} {n1 n2 n3 : Nat} {o1 o2 o3 : Own} (hl : ∀ t, t1 t = true → t < n1) (h : Adv t1 n1 o1 t2 n2 o2) (k : Adv t2 n2 o2 t3 n3 o3) : Adv t1 n1 o1 t3 n3 o3 := by
  refine ⟨fun t ht ho => k.keep t (h.keep t ht ho) (fun e => ?_), Nat.le_trans h.le k.le, k.live, ?_, k.lt⟩
  · rcases h.new with e2 | ⟨s, e2, hs⟩
    · exact ho (e2 ▸ e)
    · rw [e2] at e
      cases e
      have := hl _ ht
      omega
  · rcases k.new with e2 | ⟨s, e2, hs⟩
    · rw [e2]; exact h.new
    · exact .inr ⟨s, e2, Nat.le_trans h.le hs⟩
/-- A fresh token, and its end. -/
theorem Adv.fresh {tok : Nat → Bool} {nt : Nat} {own : Own} (h : own.liveP tok) (hl : ∀ t, tok t = true → t < nt) : Adv tok nt own (upd (upd (upd tok nt true) nt false) (nt + 1) true) (nt + 2) own := by
  have key : ∀ t, t < nt → (upd (upd (upd tok nt true) nt false) (nt + 1) true) t = tok t := fun t ht => by
    rw [upd_other _ _ (by omega), upd_other _ _ (by omega), upd_other _ _ (by omega)]
  refine ⟨fun t ht _ => by rw [key t (hl t ht)]; exact ht, by omega, ?_, .inl rfl, fun t ht => ?_⟩
  · cases own with
    | full => trivial
    | tok t => simp only [live_tok] at h ⊢; rw [key t (hl t h)]; exact h
  · by_cases e : t = nt + 1
    · omega
    · rw [upd_other _ _ e] at ht
      by_cases e2 : t = nt
      · omega
      · rw [upd_other _ _ e2, upd_other _ _ e2] at ht
        have := hl t ht
        omega
/-- The accumulator appended to. -/
theorem Adv.app {tok : Nat → Bool} {nt : Nat} {own : Own} (h : own.liveP tok) (hl : ∀ t, tok t = true → t < nt) : Adv tok nt own (upd (own.kill tok) nt true) (nt + 1) (.tok nt) := by
  refine ⟨fun t ht ho => ?_, by omega, by simp [upd_same], .inr ⟨nt, rfl, Nat.le_refl _⟩, fun t ht => ?_⟩
  · have := hl t ht
    rw [upd_other _ _ (by omega)]
    cases own with
    | full => exact ht
    | tok s => simp only [kill_tok]; rw [upd_other _ _ (fun e => ho (by rw [e]))]; exact ht
  · by_cases e : t = nt
    · omega
    · rw [upd_other _ _ e] at ht
      cases own with
      | full => have := hl t ht; omega
      | tok s =>
        simp only [kill_tok] at ht
        by_cases e2 : t = s
        · subst e2; rw [upd_same] at ht; cases ht
        · rw [upd_other _ _ e2] at ht
          have := hl t ht
          omega

theorem upd_upd {α : Type} (f : Nat → α) (k : Nat) (x y : α) : upd (upd f k x) k y = upd f k y := by
  funext j
  simp only [upd]
  split <;> rfl

theorem E.eq_and (x y : E) : (decide (x.ty = y.ty) && (decide (x.fr = y.fr) && decide (x.to = y.to))) = decide (x = y) := by
  cases x; cases y; simp

def wantE (b : Gr) (nodes es : List Int) : E :=
  let x := b.edges.getD es.length default
  ⟨x.ty, nodes.getD x.fr.toNat 0, nodes.getD x.to.toNat 0⟩

def ovE (a b : Gr) (nodes : List Int) : Nat → List Int → List Ov → List Ov
  | 0, es, out => if 2000 < out.length then out else out ++ [glue a b nodes es]
  | n + 1, es, out => if 2000 < out.length then out else
      (List.range a.edges.length).foldl (fun (out : List Ov) (k : Nat) => if a.edges.getD k default = wantE b nodes es ∧ (k : Int) ∉ es then ovE a b nodes n (es ++ [(k : Int)]) out else out) (ovE a b nodes n (es ++ [-1]) out)

structure OvH (a b : Gr) (nodes : List Int) : Prop where
  fa : a.Fit
  va : validG a = 0
  fb : b.Fit
  n : nodes.length = b.nodes.length
  x : ∀ e ∈ b.edges, 0 ≤ e.fr ∧ e.fr < nodes.length ∧ 0 ≤ e.to ∧ e.to < nodes.length

abbrev ovRow (a b : Gr) (out : List Ov) (own : Own) : List AV := [.d (ints a.nodes), .d (AM.edges a.edges), .d (ints b.nodes), .d (AM.edges b.edges), .osl 6 (out.map Ov.cells) own]

def QOv (a b : Gr) (box : Nat → Option (List (List AV))) (nb k : Nat) (tok : Nat → Bool) (nt : Nat) (own : Own) (out : List Ov) (v : AV) (m : AMem) : Prop :=
  v = .tup [] ∧ ∃ own' tok' nt', m = ⟨upd box k (some [ovRow a b out own']), nb, tok', nt'⟩ ∧ Adv tok nt own tok' nt' own'

structure AccO where
  i : Nat
  out : List Ov
  own : Own
  tok : Nat → Bool
  nt : Nat

def ovStep (a b : Gr) (nodes : List Int) (n : Nat) (es : List Int) (out : List Ov) (k : Nat) : List Ov := if a.edges.getD k default = wantE b nodes es ∧ (k : Int) ∉ es then ovE a b nodes n (es ++ [(k : Int)]) out else out

def st83 (a b : Gr) (nodes es : List Int) (nb k : Nat) (box : Nat → Option (List (List AV))) (x : AccO) : AState :=
  ⟨tl [(0, .ptr k 0 0), (1, .d (ints nodes)), (2, .d (ints es)), (7, .ptr (nb + 7) 0 0), (78, .d (AM.edges a.edges)), (79, I a.edges.length), (80, I x.i)],
    lb nb (upd box k (some [ovRow a b x.out x.own])) [(7, [[I (wantE b nodes es).ty, I (wantE b nodes es).fr, I (wantE b nodes es).to]])], x.tok, x.nt⟩

theorem outOk {a b : Gr} {out : List Ov} {own : Own} {box : Nat → Option (List (List AV))} {k base : Nat} {p q : Nat → Prop} (hq : q = fun _ => True) : ∀ k' rows, k' < base → (upd box k (some [ovRow a b out own])) k' = some rows → box k' = some rows ∨ ∀ r ∈ rows, ∀ x ∈ r, OkIn p q x := by
  subst hq
  intro k' rows hk' hr
  by_cases e : k' = k
  · subst e
    rw [upd_same] at hr
    cases hr
    exact .inr (by simp)
  · rw [upd_other _ _ e] at hr
    exact .inl hr

theorem edges_c (a b : Gr) (nodes : List Int) (h : OvH a b nodes) : ∀ (n : Nat) (es : List Int) (out : List Ov) (own : Own) (box : Nat → Option (List (List AV))) (nb k : Nat) (tok : Nat → Bool) (nt : Nat), es.length + n = b.edges.length →
    box k = some [ovRow a b out own] → own.liveP tok → ACalls Tryz.prog 100 [.ptr k 0 0, .d (ints nodes), .d (ints es)] ⟨box, nb, tok, nt⟩ (QOv a b box nb k tok nt own (ovE a b nodes n es out)) := by
  intro n
  induction n with
  | zero =>
    intro es out own box nb k tok nt hes hk hlive
    have hself : box = upd box k (some [ovRow a b out own]) := (upd_self box k _ hk).symm
    refine ACalls.of_body Tryz.func100 rfl (by kernel_rfl) follows_Tryz (by kernel_rfl) (by simp [Tryz.ntmps100]) ?_
    intro hbox htok
    simp only at hbox htok
    apply AL.start
    have hkn := key_lt hbox hk
    repeat (first | refine AL.seq ?_ | refine AL.block ?_ | refine AL.skip ?_ | refine AL.blk ?_)
    refine AL.region follows_Tryz (Nat.le_refl _) (by kernel_rfl) ?_
    simp [lb_out hkn, hk]
    repeat (first | refine AL.seq ?_ | refine AL.block ?_ | refine AL.skip ?_ | refine AL.blk ?_)
    refine AL.cond ?_
    simp
    refine ⟨fun hbig => ?_, fun hsm => ?_⟩
    · repeat (first | refine AL.seq ?_ | refine AL.block ?_ | refine AL.skip ?_ | refine AL.blk ?_)
      refine AL.ret ?_
      try simp only [AU]
      refine ⟨by simp, (Fin.own (vs := []) (av := .tup []) (by simp [resAs, resA]) hbox rfl (Nat.le_refl _) (by simp [packA])).mono fun v m hq => ⟨hq.1, own, tok, nt, ?_, Adv.refl hlive htok⟩⟩
      have hbig' : 2000 < out.length := by omega
      rw [hq.2, ovE, if_pos hbig', ← hself]
    · have hsm' : ¬ 2000 < out.length := by omega
      have hes' : es.length = b.edges.length := by omega
      repeat (first | refine AL.seq ?_ | refine AL.block ?_ | refine AL.skip ?_ | refine AL.blk ?_)
      refine AL.region follows_Tryz (Nat.le_refl _) (by kernel_rfl) ?_
      simp [lb_out hkn, hk]
      repeat (first | refine AL.seq ?_ | refine AL.block ?_ | refine AL.skip ?_ | refine AL.blk ?_)
      refine AL.cond ?_
      simp
      refine ⟨fun _ => ?_, fun hne => absurd (by omega) hne⟩
      have hbe := h.fb.e
      have hbn := h.fb.n
      repeat (first | refine AL.seq ?_ | refine AL.block ?_ | refine AL.skip ?_ | refine AL.blk ?_)
      refine AL.region follows_Tryz (Nat.le_refl _) (by kernel_rfl) ?_
      simp [lb_out hkn, hk]
      refine Stop.of_d (glued_c a b nodes es h.fa h.va (by rw [h.n]; exact Nat.le_refl _) (by omega) (by rw [h.n]; omega) (by omega) (fun i _ h2 _ => h.x _ (List.getElem_mem h2)) _ _) ?_
      simp [lb_out hkn, hk, upd_lb_out hkn]
      refine ⟨⟨by omega, hlive⟩, ?_⟩
      repeat (first | refine AL.seq ?_ | refine AL.block ?_ | refine AL.skip ?_ | refine AL.blk ?_)
      refine AL.ret ?_
      try simp only [AU]
      refine ⟨by simp, (Fin.gen (vs := []) (av := .tup []) (tok' := upd (own.kill tok) nt true) (nt' := nt + 1) (by simp [resAs, resA]) ?_ (by omega) (Nat.le_refl _) (fun t h => ⟨h, .inl rfl⟩) ?_ (by simp [packA])).mono fun v m hq => ⟨hq.1, .tok nt, upd (own.kill tok) nt true, nt + 1, ?_, Adv.app hlive htok⟩⟩
      · rw [← upd_lb_out hkn, hbox]
      · intro k' rows hk' hr
        by_cases e : k' = k
        · subst e
          rw [upd_same] at hr
          cases hr
          exact .inr (by simp)
        · rw [upd_other _ _ e] at hr
          exact .inl hr
      · rw [hq.2, ovE, if_neg hsm']
        simp [ovRow]
  | succ n ih =>
    intro es out own box nb k tok nt hes hk hlive
    have hself : box = upd box k (some [ovRow a b out own]) := (upd_self box k _ hk).symm
    have hae := h.fa.e
    have hbe := h.fb.e
    have hbn := h.fb.n
    have hlt : es.length < b.edges.length := by omega
    obtain ⟨x1, x2, x3, x4⟩ := h.x b.edges[es.length] (List.getElem_mem hlt)
    have y1 : b.edges[es.length].fr.toNat < nodes.length := by omega
    have y2 : b.edges[es.length].to.toNat < nodes.length := by omega
    refine ACalls.of_body Tryz.func100 rfl (by kernel_rfl) follows_Tryz (by kernel_rfl) (by simp [Tryz.ntmps100]) ?_
    intro hbox htok
    simp only at hbox htok
    apply AL.start
    have hkn := key_lt hbox hk
    repeat (first | refine AL.seq ?_ | refine AL.block ?_ | refine AL.skip ?_ | refine AL.blk ?_)
    refine AL.region follows_Tryz (Nat.le_refl _) (by kernel_rfl) ?_
    simp [lb_out hkn, hk]
    repeat (first | refine AL.seq ?_ | refine AL.block ?_ | refine AL.skip ?_ | refine AL.blk ?_)
    refine AL.cond ?_
    simp
    refine ⟨fun hbig => ?_, fun hsm => ?_⟩
    · repeat (first | refine AL.seq ?_ | refine AL.block ?_ | refine AL.skip ?_ | refine AL.blk ?_)
      refine AL.ret ?_
      try simp only [AU]
      refine ⟨by simp, (Fin.own (vs := []) (av := .tup []) (by simp [resAs, resA]) hbox rfl (Nat.le_refl _) (by simp [packA])).mono fun v m hq => ⟨hq.1, own, tok, nt, ?_, Adv.refl hlive htok⟩⟩
      have hbig' : 2000 < out.length := by omega
      rw [hq.2, ovE, if_pos hbig', ← hself]
    · have hsm' : ¬ 2000 < out.length := by omega
      repeat (first | refine AL.seq ?_ | refine AL.block ?_ | refine AL.skip ?_ | refine AL.blk ?_)
      refine AL.region follows_Tryz (Nat.le_refl _) (by kernel_rfl) ?_
      simp [lb_out hkn, hk]
      repeat (first | refine AL.seq ?_ | refine AL.block ?_ | refine AL.skip ?_ | refine AL.blk ?_)
      refine AL.cond ?_
      simp
      refine ⟨fun heq => absurd heq (by omega), fun _ => ?_⟩
      repeat (first | refine AL.seq ?_ | refine AL.block ?_ | refine AL.skip ?_ | refine AL.blk ?_)
      refine AL.region follows_Tryz (Nat.le_refl _) (by kernel_rfl) ?_
      simp [lb_out hkn, hk, hlt]
      repeat (first | refine AL.seq ?_ | refine AL.block ?_ | refine AL.skip ?_ | refine AL.blk ?_)
      refine AL.region follows_Tryz (Nat.le_refl _) (by kernel_rfl) ?_
      simp [lb_out hkn, hk, x1, x2, x3, x4, y1, y2]
      repeat (first | refine AL.seq ?_ | refine AL.block ?_ | refine AL.skip ?_ | refine AL.blk ?_)
      refine AL.region follows_Tryz (Nat.le_refl _) (by kernel_rfl) ?_
      simp [lb_out hkn, hk]
      refine Stop.of_d (clone_c es (by omega) _ _) ?_
      simp
      refine ⟨⟨by omega, by simp [upd_same]⟩, ?_⟩
      refine Stop.data ?_
      simp only [List.map, AV.asD]
      rw [rI_snoc]
      have had := Adv.fresh hlive htok
      refine Stop.of_a (ih (es ++ [-1]) out own _ _ k _ _ (by simp; omega) (by simp only [lb_out hkn, hk]) had.live) ?_
      rintro v m' ⟨rfl, own1, tok1, nt1, rfl, hadv⟩
      simp [upd_lb_out hkn]
      have had1 : Adv tok nt own tok1 nt1 own1 := had.trans htok hadv
      clear hadv had
      repeat (first | refine AL.seq ?_ | refine AL.block ?_ | refine AL.skip ?_ | refine AL.blk ?_)
      refine AL.region follows_Tryz (Nat.le_refl _) (by kernel_rfl) ?_
      simp [lb_out hkn, upd_same]
      repeat (first | refine AL.seq ?_ | refine AL.block ?_ | refine AL.skip ?_ | refine AL.blk ?_)
      have hwant : wantE b nodes es = ⟨b.edges[es.length].ty, nodes[b.edges[es.length].fr.toNat], nodes[b.edges[es.length].to.toNat]⟩ := by simp [wantE, hlt, y1, y2]
      refine AL.loopT (st83 a b nodes es nb k box) (fun x => x.i ≤ a.edges.length ∧ x.out = (List.range x.i).foldl (ovStep a b nodes n es) (ovE a b nodes n (es ++ [-1]) out) ∧ Adv tok nt own x.tok x.nt x.own) (fun x => a.edges.length - x.i)
        ⟨0, ovE a b nodes n (es ++ [-1]) out, own1, tok1, nt1⟩ ⟨Nat.zero_le _, rfl, had1⟩ (Weaks.mk' had1.le (by simp [ToL, lk, hwant]; exact to_ptr (by rw [lb_out hkn, upd_same]; simp)) (by simp [BoxL, lk, hwant]) (outOk rfl)) ?_
      rintro ⟨i, out2, own2, tok2, nt2⟩ S ⟨hi, hout, hadv2⟩ hS
      simp only [st83] at hS hi hout hadv2
      subst hS
      have hw : IntKind.i64.wrap (↑i + 1) = ((i + 1 : Nat) : Int) := by rw [wrap_in (by omega) (by omega)]; rfl
      repeat (first | refine AL.seq ?_ | refine AL.block ?_ | refine AL.skip ?_ | refine AL.blk ?_)
      refine AL.region follows_Tryz (Nat.le_refl _) (by kernel_rfl) ?_
      simp
      repeat (first | refine AL.seq ?_ | refine AL.block ?_ | refine AL.skip ?_ | refine AL.blk ?_)
      refine AL.cond ?_
      simp
      refine ⟨fun hli => ?_, fun hge => ?_⟩
      · repeat (first | refine AL.seq ?_ | refine AL.block ?_ | refine AL.skip ?_ | refine AL.blk ?_)
        refine AL.region follows_Tryz (Nat.le_refl _) (by kernel_rfl) ?_
        simp [hli]
        repeat (first | refine AL.seq ?_ | refine AL.block ?_ | refine AL.skip ?_ | refine AL.blk ?_)
        refine AL.region follows_Tryz (Nat.le_refl _) (by kernel_rfl) ?_
        simp [lb_out hkn, upd_same]
        have hfold : (List.range (i + 1)).foldl (ovStep a b nodes n es) (ovE a b nodes n (es ++ [-1]) out) = ovStep a b nodes n es out2 i := by
          rw [List.range_succ, List.foldl_append, ← hout]; rfl
        have hgi : a.edges.getD i default = a.edges[i] := by simp [hli]
        simp only [E.eq_and]
        first | refine Gd.dt (fun hE => ?_) (fun hE => ?_) | refine Gd.df (fun hE => ?_) (fun hE => ?_) | refine Gd.t (fun hE => ?_) (fun hE => ?_) | refine Gd.f (fun hE => ?_) (fun hE => ?_)
        · simp [hE]
          refine Stop.of_d (contains_c es i (by omega) _ _) ?_
          simp [hE]
          repeat (first | refine AL.seq ?_ | refine AL.block ?_ | refine AL.skip ?_ | refine AL.blk ?_)
          refine AL.cond ?_
          simp
          refine ⟨fun hni => ?_, fun hin => ?_⟩
          · repeat (first | refine AL.seq ?_ | refine AL.block ?_ | refine AL.skip ?_ | refine AL.blk ?_)
            refine AL.region follows_Tryz (Nat.le_refl _) (by kernel_rfl) ?_
            simp [lb_out hkn, upd_same]
            refine Stop.of_d (clone_c es (by omega) _ _) ?_
            simp
            refine ⟨⟨by omega, by simp [upd_same]⟩, ?_⟩
            refine Stop.data ?_
            simp only [List.map, AV.asD]
            rw [rI_snoc]
            have had := Adv.fresh hadv2.live hadv2.lt
            refine Stop.of_a (ih (es ++ [(i : Int)]) out2 own2 _ _ k _ _ (by simp; omega) (by simp only [lb_out hkn, upd_same]) had.live) ?_
            rintro v m' ⟨rfl, own3, tok3, nt3, rfl, hadv⟩
            simp [upd_lb_out hkn, upd_upd]
            have had3 : Adv tok nt own tok3 nt3 own3 := hadv2.trans htok (had.trans hadv2.lt hadv)
            clear hadv had
            repeat (first | refine AL.seq ?_ | refine AL.block ?_ | refine AL.skip ?_ | refine AL.blk ?_)
            refine AL.region follows_Tryz (Nat.le_refl _) (by kernel_rfl) ?_
            simp [hw]
            repeat (first | refine AL.seq ?_ | refine AL.block ?_ | refine AL.skip ?_ | refine AL.blk ?_)
            refine AL.nil ?_
            refine ⟨⟨i + 1, ovE a b nodes n (es ++ [(i : Int)]) out2, own3, tok3, nt3⟩, ⟨hli, ?_, had3⟩, by simp; omega, Weaks.mk' had3.le (by simp [ToL, lk]; exact to_ptr (by rw [lb_out hkn, upd_same]; simp)) (by simp [BoxL, lk]) (outOk rfl)⟩
            rw [hfold, ovStep, if_pos ⟨by rw [hgi, hE], hni⟩]
          · repeat (first | refine AL.seq ?_ | refine AL.block ?_ | refine AL.skip ?_ | refine AL.blk ?_)
            refine AL.region follows_Tryz (Nat.le_refl _) (by kernel_rfl) ?_
            simp [hw]
            repeat (first | refine AL.seq ?_ | refine AL.block ?_ | refine AL.skip ?_ | refine AL.blk ?_)
            refine AL.nil ?_
            refine ⟨⟨i + 1, out2, own2, tok2, nt2⟩, ⟨hli, ?_, hadv2⟩, by simp; omega, Weaks.mk' hadv2.le (by simp [ToL, lk]; exact to_ptr (by rw [lb_out hkn, upd_same]; simp)) (by simp [BoxL, lk]) (outOk rfl)⟩
            rw [hfold, ovStep, if_neg (fun hh => hh.2 hin)]
        · simp [hE]
          repeat (first | refine AL.seq ?_ | refine AL.block ?_ | refine AL.skip ?_ | refine AL.blk ?_)
          refine AL.cond ?_
          simp
          repeat (first | refine AL.seq ?_ | refine AL.block ?_ | refine AL.skip ?_ | refine AL.blk ?_)
          refine AL.region follows_Tryz (Nat.le_refl _) (by kernel_rfl) ?_
          simp [hw]
          repeat (first | refine AL.seq ?_ | refine AL.block ?_ | refine AL.skip ?_ | refine AL.blk ?_)
          refine AL.nil ?_
          refine ⟨⟨i + 1, out2, own2, tok2, nt2⟩, ⟨hli, ?_, hadv2⟩, by simp; omega, Weaks.mk' hadv2.le (by simp [ToL, lk]; exact to_ptr (by rw [lb_out hkn, upd_same]; simp)) (by simp [BoxL, lk]) (outOk rfl)⟩
          rw [hfold, ovStep, if_neg (fun hh => hE (by rw [← hgi, hh.1]))]
      · repeat (first | refine AL.seq ?_ | refine AL.block ?_ | refine AL.skip ?_ | refine AL.blk ?_)
        refine AL.exit ?_
        simp only [AU, ↓reduceIte]
        have hin : i = a.edges.length := by omega
        subst hin
        repeat (first | refine AL.seq ?_ | refine AL.block ?_ | refine AL.skip ?_ | refine AL.blk ?_)
        refine AL.nil ?_
        refine ⟨by simp, (Fin.gen (vs := []) (av := .tup []) (tok' := tok2) (nt' := nt2) (by simp [resAs, resA]) ?_ hadv2.le (Nat.le_refl _) (fun t h => ⟨h, .inl rfl⟩) (outOk (by simp)) (by simp [packA])).mono fun v m hq => ⟨hq.1, own2, tok2, nt2, ?_, hadv2⟩⟩
        · rw [← upd_lb_out hkn, hbox]
        · rw [hq.2, ovE, if_neg hsm', hout]; rfl
end Go.AM
namespace Go.AM
open Go Go.Proofs
set_option linter.unusedSimpArgs false
set_option linter.unusedVariables false

theorem beqD (x y : Int) : (x == y) = decide (x = y) := by by_cases h : x = y <;> simp [h]

/-! ### overlaps.nodes -/
def ovStepN (a b : Gr) (rec : List Int → List Ov → List Ov) (l : List Int) (out : List Ov) (k : Nat) : List Ov := if a.nodes.getD k 0 = b.nodes.getD l.length 0 ∧ (k : Int) ∉ l then rec (l ++ [(k : Int)]) out else out

def ovN (a b : Gr) : Nat → List Int → List Ov → List Ov
  | 0, l, out => if 2000 < out.length then out else ovE a b l b.edges.length [] out
  | n + 1, l, out => if 2000 < out.length then out else (List.range a.nodes.length).foldl (ovStepN a b (ovN a b n) l) (ovN a b n (l ++ [-1]) out)

structure NoH (a b : Gr) : Prop where
  fa : a.Fit
  va : validG a = 0
  fb : b.Fit
  x : ∀ e ∈ b.edges, 0 ≤ e.fr ∧ e.fr < b.nodes.length ∧ 0 ≤ e.to ∧ e.to < b.nodes.length

def st43 (a b : Gr) (l : List Int) (nb k : Nat) (box : Nat → Option (List (List AV))) (x : AccO) : AState :=
  ⟨tl [(0, .ptr k 0 0), (1, .d (ints l)), (34, .d (ints a.nodes)), (35, I a.nodes.length), (36, I x.i)],
    lb nb (upd box k (some [ovRow a b x.out x.own])) [], x.tok, x.nt⟩

theorem nodes_c (a b : Gr) (h : NoH a b) : ∀ (n : Nat) (l : List Int) (out : List Ov) (own : Own) (box : Nat → Option (List (List AV))) (nb k : Nat) (tok : Nat → Bool) (nt : Nat), l.length + n = b.nodes.length →
    box k = some [ovRow a b out own] → own.liveP tok → ACalls Tryz.prog 93 [.ptr k 0 0, .d (ints l)] ⟨box, nb, tok, nt⟩ (QOv a b box nb k tok nt own (ovN a b n l out)) := by
  intro n
  induction n with
  | zero =>
    intro l out own box nb k tok nt hl hk hlive
    have hself : box = upd box k (some [ovRow a b out own]) := (upd_self box k _ hk).symm
    refine ACalls.of_body Tryz.func93 rfl (by kernel_rfl) follows_Tryz (by kernel_rfl) (by simp [Tryz.ntmps93]) ?_
    intro hbox htok
    simp only at hbox htok
    apply AL.start
    have hkn := key_lt hbox hk
    repeat (first | refine AL.seq ?_ | refine AL.block ?_ | refine AL.skip ?_ | refine AL.blk ?_)
    refine AL.region follows_Tryz (Nat.le_refl _) (by kernel_rfl) ?_
    simp [lb_out hkn, hk]
    repeat (first | refine AL.seq ?_ | refine AL.block ?_ | refine AL.skip ?_ | refine AL.blk ?_)
    refine AL.cond ?_
    simp
    refine ⟨fun hbig => ?_, fun hsm => ?_⟩
    · repeat (first | refine AL.seq ?_ | refine AL.block ?_ | refine AL.skip ?_ | refine AL.blk ?_)
      refine AL.ret ?_
      try simp only [AU]
      refine ⟨by simp, (Fin.own (vs := []) (av := .tup []) (by simp [resAs, resA]) hbox rfl (Nat.le_refl _) (by simp [packA])).mono fun v m hq => ⟨hq.1, own, tok, nt, ?_, Adv.refl hlive htok⟩⟩
      have hbig' : 2000 < out.length := by omega
      rw [hq.2, ovN, if_pos hbig', ← hself]
    · have hsm' : ¬ 2000 < out.length := by omega
      have hl' : l.length = b.nodes.length := by omega
      repeat (first | refine AL.seq ?_ | refine AL.block ?_ | refine AL.skip ?_ | refine AL.blk ?_)
      refine AL.region follows_Tryz (Nat.le_refl _) (by kernel_rfl) ?_
      simp [lb_out hkn, hk]
      repeat (first | refine AL.seq ?_ | refine AL.block ?_ | refine AL.skip ?_ | refine AL.blk ?_)
      refine AL.cond ?_
      simp
      refine ⟨fun _ => ?_, fun hne => absurd (by omega) hne⟩
      have hbe := h.fb.e
      have hbn := h.fb.n
      repeat (first | refine AL.seq ?_ | refine AL.block ?_ | refine AL.skip ?_ | refine AL.blk ?_)
      refine AL.region follows_Tryz (Nat.le_refl _) (by kernel_rfl) ?_
      simp [lb_out hkn, hk]
      refine Stop.sub (args' := [.ptr k 0 0, .d (ints l), .d (ints [])]) ⟨Sub.refl _, Sub.refl _, Sub.nil _ _ _, trivial⟩ ?_
      refine Stop.of_a (edges_c a b l ⟨h.fa, h.va, h.fb, hl', by rw [hl']; exact h.x⟩ b.edges.length [] out own _ _ k _ _ (by simp) (by simp only [lb_out hkn, hk]) hlive) ?_
      rintro v m' ⟨rfl, own1, tok1, nt1, rfl, hadv⟩
      simp [upd_lb_out hkn]
      repeat (first | refine AL.seq ?_ | refine AL.block ?_ | refine AL.skip ?_ | refine AL.blk ?_)
      refine AL.ret ?_
      try simp only [AU]
      refine ⟨by simp, (Fin.gen (vs := []) (av := .tup []) (tok' := tok1) (nt' := nt1) (by simp [resAs, resA]) ?_ hadv.le (Nat.le_refl _) (fun t h => ⟨h, .inl rfl⟩) (outOk (by simp)) (by simp [packA])).mono fun v m hq => ⟨hq.1, own1, tok1, nt1, ?_, hadv⟩⟩
      · rw [← upd_lb_out hkn, hbox]
      · rw [hq.2, ovN, if_neg hsm']
  | succ n ih =>
    intro l out own box nb k tok nt hl hk hlive
    have hself : box = upd box k (some [ovRow a b out own]) := (upd_self box k _ hk).symm
    have han := h.fa.n
    have hbn := h.fb.n
    have hlt : l.length < b.nodes.length := by omega
    refine ACalls.of_body Tryz.func93 rfl (by kernel_rfl) follows_Tryz (by kernel_rfl) (by simp [Tryz.ntmps93]) ?_
    intro hbox htok
    simp only at hbox htok
    apply AL.start
    have hkn := key_lt hbox hk
    repeat (first | refine AL.seq ?_ | refine AL.block ?_ | refine AL.skip ?_ | refine AL.blk ?_)
    refine AL.region follows_Tryz (Nat.le_refl _) (by kernel_rfl) ?_
    simp [lb_out hkn, hk]
    repeat (first | refine AL.seq ?_ | refine AL.block ?_ | refine AL.skip ?_ | refine AL.blk ?_)
    refine AL.cond ?_
    simp
    refine ⟨fun hbig => ?_, fun hsm => ?_⟩
    · repeat (first | refine AL.seq ?_ | refine AL.block ?_ | refine AL.skip ?_ | refine AL.blk ?_)
      refine AL.ret ?_
      try simp only [AU]
      refine ⟨by simp, (Fin.own (vs := []) (av := .tup []) (by simp [resAs, resA]) hbox rfl (Nat.le_refl _) (by simp [packA])).mono fun v m hq => ⟨hq.1, own, tok, nt, ?_, Adv.refl hlive htok⟩⟩
      have hbig' : 2000 < out.length := by omega
      rw [hq.2, ovN, if_pos hbig', ← hself]
    · have hsm' : ¬ 2000 < out.length := by omega
      repeat (first | refine AL.seq ?_ | refine AL.block ?_ | refine AL.skip ?_ | refine AL.blk ?_)
      refine AL.region follows_Tryz (Nat.le_refl _) (by kernel_rfl) ?_
      simp [lb_out hkn, hk]
      repeat (first | refine AL.seq ?_ | refine AL.block ?_ | refine AL.skip ?_ | refine AL.blk ?_)
      refine AL.cond ?_
      simp
      refine ⟨fun heq => absurd heq (by omega), fun _ => ?_⟩
      repeat (first | refine AL.seq ?_ | refine AL.block ?_ | refine AL.skip ?_ | refine AL.blk ?_)
      refine AL.region follows_Tryz (Nat.le_refl _) (by kernel_rfl) ?_
      simp [lb_out hkn, hk]
      refine Stop.of_d (clone_c l (by omega) _ _) ?_
      simp
      refine ⟨⟨by omega, by simp [upd_same]⟩, ?_⟩
      refine Stop.data ?_
      simp only [List.map, AV.asD]
      rw [rI_snoc]
      have had := Adv.fresh hlive htok
      refine Stop.of_a (ih (l ++ [-1]) out own _ _ k _ _ (by simp; omega) (by simp only [lb_out hkn, hk]) had.live) ?_
      rintro v m' ⟨rfl, own1, tok1, nt1, rfl, hadv⟩
      simp [upd_lb_out hkn]
      have had1 : Adv tok nt own tok1 nt1 own1 := had.trans htok hadv
      clear hadv had
      repeat (first | refine AL.seq ?_ | refine AL.block ?_ | refine AL.skip ?_ | refine AL.blk ?_)
      refine AL.region follows_Tryz (Nat.le_refl _) (by kernel_rfl) ?_
      simp [lb_out hkn, upd_same]
      repeat (first | refine AL.seq ?_ | refine AL.block ?_ | refine AL.skip ?_ | refine AL.blk ?_)
      refine AL.loopT (st43 a b l nb k box) (fun x => x.i ≤ a.nodes.length ∧ x.out = (List.range x.i).foldl (ovStepN a b (ovN a b n) l) (ovN a b n (l ++ [-1]) out) ∧ Adv tok nt own x.tok x.nt x.own) (fun x => a.nodes.length - x.i)
        ⟨0, ovN a b n (l ++ [-1]) out, own1, tok1, nt1⟩ ⟨Nat.zero_le _, rfl, had1⟩ (Weaks.mk' had1.le (by simp [ToL, lk]; exact to_ptr (by rw [lb_out hkn, upd_same]; simp)) (by simp [BoxL, lk]) (outOk rfl)) ?_
      rintro ⟨i, out2, own2, tok2, nt2⟩ S ⟨hi, hout, hadv2⟩ hS
      simp only [st43] at hS hi hout hadv2
      subst hS
      have hw : IntKind.i64.wrap (↑i + 1) = ((i + 1 : Nat) : Int) := by rw [wrap_in (by omega) (by omega)]; rfl
      repeat (first | refine AL.seq ?_ | refine AL.block ?_ | refine AL.skip ?_ | refine AL.blk ?_)
      refine AL.region follows_Tryz (Nat.le_refl _) (by kernel_rfl) ?_
      simp
      repeat (first | refine AL.seq ?_ | refine AL.block ?_ | refine AL.skip ?_ | refine AL.blk ?_)
      refine AL.cond ?_
      simp
      refine ⟨fun hli => ?_, fun hge => ?_⟩
      · repeat (first | refine AL.seq ?_ | refine AL.block ?_ | refine AL.skip ?_ | refine AL.blk ?_)
        refine AL.region follows_Tryz (Nat.le_refl _) (by kernel_rfl) ?_
        simp [hli]
        repeat (first | refine AL.seq ?_ | refine AL.block ?_ | refine AL.skip ?_ | refine AL.blk ?_)
        refine AL.region follows_Tryz (Nat.le_refl _) (by kernel_rfl) ?_
        simp [lb_out hkn, upd_same, hlt]
        have hfold : (List.range (i + 1)).foldl (ovStepN a b (ovN a b n) l) (ovN a b n (l ++ [-1]) out) = ovStepN a b (ovN a b n) l out2 i := by
          rw [List.range_succ, List.foldl_append, ← hout]; rfl
        have hgi : a.nodes.getD i 0 = a.nodes[i] := by simp [hli]
        have hgl : b.nodes.getD l.length 0 = b.nodes[l.length] := by simp [hlt]
        simp only [beqD]
        first | refine Gd.dt (fun hE => ?_) (fun hE => ?_) | refine Gd.df (fun hE => ?_) (fun hE => ?_) | refine Gd.t (fun hE => ?_) (fun hE => ?_) | refine Gd.f (fun hE => ?_) (fun hE => ?_)
        · simp [hE]
          refine Stop.of_d (contains_c l i (by omega) _ _) ?_
          simp [hE]
          repeat (first | refine AL.seq ?_ | refine AL.block ?_ | refine AL.skip ?_ | refine AL.blk ?_)
          refine AL.cond ?_
          simp
          refine ⟨fun hni => ?_, fun hin => ?_⟩
          · repeat (first | refine AL.seq ?_ | refine AL.block ?_ | refine AL.skip ?_ | refine AL.blk ?_)
            refine AL.region follows_Tryz (Nat.le_refl _) (by kernel_rfl) ?_
            simp [lb_out hkn, upd_same]
            refine Stop.of_d (clone_c l (by omega) _ _) ?_
            simp
            refine ⟨⟨by omega, by simp [upd_same]⟩, ?_⟩
            refine Stop.data ?_
            simp only [List.map, AV.asD]
            rw [rI_snoc]
            have had := Adv.fresh hadv2.live hadv2.lt
            refine Stop.of_a (ih (l ++ [(i : Int)]) out2 own2 _ _ k _ _ (by simp; omega) (by simp only [lb_out hkn, upd_same]) had.live) ?_
            rintro v m' ⟨rfl, own3, tok3, nt3, rfl, hadv⟩
            simp [upd_lb_out hkn, upd_upd]
            have had3 : Adv tok nt own tok3 nt3 own3 := hadv2.trans htok (had.trans hadv2.lt hadv)
            clear hadv had
            repeat (first | refine AL.seq ?_ | refine AL.block ?_ | refine AL.skip ?_ | refine AL.blk ?_)
            refine AL.region follows_Tryz (Nat.le_refl _) (by kernel_rfl) ?_
            simp [hw]
            repeat (first | refine AL.seq ?_ | refine AL.block ?_ | refine AL.skip ?_ | refine AL.blk ?_)
            refine AL.nil ?_
            refine ⟨⟨i + 1, ovN a b n (l ++ [(i : Int)]) out2, own3, tok3, nt3⟩, ⟨hli, ?_, had3⟩, by simp; omega, Weaks.mk' had3.le (by simp [ToL, lk]; exact to_ptr (by rw [lb_out hkn, upd_same]; simp)) (by simp [BoxL, lk]) (outOk rfl)⟩
            rw [hfold, ovStepN, if_pos ⟨by rw [hgi, hgl, hE], hni⟩]
          · repeat (first | refine AL.seq ?_ | refine AL.block ?_ | refine AL.skip ?_ | refine AL.blk ?_)
            refine AL.region follows_Tryz (Nat.le_refl _) (by kernel_rfl) ?_
            simp [hw]
            repeat (first | refine AL.seq ?_ | refine AL.block ?_ | refine AL.skip ?_ | refine AL.blk ?_)
            refine AL.nil ?_
            refine ⟨⟨i + 1, out2, own2, tok2, nt2⟩, ⟨hli, ?_, hadv2⟩, by simp; omega, Weaks.mk' hadv2.le (by simp [ToL, lk]; exact to_ptr (by rw [lb_out hkn, upd_same]; simp)) (by simp [BoxL, lk]) (outOk rfl)⟩
            rw [hfold, ovStepN, if_neg (fun hh => hh.2 hin)]
        · simp [hE]
          repeat (first | refine AL.seq ?_ | refine AL.block ?_ | refine AL.skip ?_ | refine AL.blk ?_)
          refine AL.cond ?_
          simp
          repeat (first | refine AL.seq ?_ | refine AL.block ?_ | refine AL.skip ?_ | refine AL.blk ?_)
          refine AL.region follows_Tryz (Nat.le_refl _) (by kernel_rfl) ?_
          simp [hw]
          repeat (first | refine AL.seq ?_ | refine AL.block ?_ | refine AL.skip ?_ | refine AL.blk ?_)
          refine AL.nil ?_
          refine ⟨⟨i + 1, out2, own2, tok2, nt2⟩, ⟨hli, ?_, hadv2⟩, by simp; omega, Weaks.mk' hadv2.le (by simp [ToL, lk]; exact to_ptr (by rw [lb_out hkn, upd_same]; simp)) (by simp [BoxL, lk]) (outOk rfl)⟩
          rw [hfold, ovStepN, if_neg (fun hh => hE (by rw [← hgi, hh.1, hgl]))]
      · repeat (first | refine AL.seq ?_ | refine AL.block ?_ | refine AL.skip ?_ | refine AL.blk ?_)
        refine AL.exit ?_
        simp only [AU, ↓reduceIte]
        have hin : i = a.nodes.length := by omega
        subst hin
        repeat (first | refine AL.seq ?_ | refine AL.block ?_ | refine AL.skip ?_ | refine AL.blk ?_)
        refine AL.nil ?_
        refine ⟨by simp, (Fin.gen (vs := []) (av := .tup []) (tok' := tok2) (nt' := nt2) (by simp [resAs, resA]) ?_ hadv2.le (Nat.le_refl _) (fun t h => ⟨h, .inl rfl⟩) (outOk (by simp)) (by simp [packA])).mono fun v m hq => ⟨hq.1, own2, tok2, nt2, ?_, hadv2⟩⟩
        · rw [← upd_lb_out hkn, hbox]
        · rw [hq.2, ovN, if_neg hsm', hout]
end Go.AM
namespace Go.AM
open Go Go.Proofs
set_option linter.unusedSimpArgs false
set_option linter.unusedVariables false

theorem E.eq_and3 (x : E) (p q r : Int) : (decide (x.ty = p) && (decide (x.fr = q) && decide (x.to = r))) = decide (x = ⟨p, q, r⟩) := E.eq_and x ⟨p, q, r⟩

/-! ### ref13.overlaps.edges -/
/-- What has been listed when the loop from -1 stands at i - 1. -/
def accE (a b : Gr) (nodes : List Int) (n : Nat) (es : List Int) (out : List Ov) : Nat → List Ov
  | 0 => out
  | i + 1 => (List.range i).foldl (ovStep a b nodes n es) (ovE a b nodes n (es ++ [-1]) out)

structure AccR where
  i : Nat
  out : List Ov
  own : Own
  tok : Nat → Bool
  nt : Nat

def st85 (a b : Gr) (nodes es : List Int) (nb k : Nat) (box : Nat → Option (List (List AV))) (x : AccR) : AState :=
  ⟨tl [(0, .ptr k 0 0), (1, .d (ints nodes)), (2, .d (ints es)), (7, .ptr (nb + 7) 0 0), (8, I (x.i - 1))],
    lb nb (upd box k (some [ovRow a b x.out x.own])) [(7, [[I (b.edges.getD es.length default).ty, I (b.edges.getD es.length default).fr, I (b.edges.getD es.length default).to]])], x.tok, x.nt⟩

theorem edges13_c (a b : Gr) (nodes : List Int) (h : OvH a b nodes) : ∀ (n : Nat) (es : List Int) (out : List Ov) (own : Own) (box : Nat → Option (List (List AV))) (nb k : Nat) (tok : Nat → Bool) (nt : Nat), es.length + n = b.edges.length →
    box k = some [ovRow a b out own] → own.liveP tok → ACalls Tryz.prog 94 [.ptr k 0 0, .d (ints nodes), .d (ints es)] ⟨box, nb, tok, nt⟩ (QOv a b box nb k tok nt own (ovE a b nodes n es out)) := by
  intro n
  induction n with
  | zero =>
    intro es out own box nb k tok nt hes hk hlive
    have hself : box = upd box k (some [ovRow a b out own]) := (upd_self box k _ hk).symm
    refine ACalls.of_body Tryz.func94 rfl (by kernel_rfl) follows_Tryz (by kernel_rfl) (by simp [Tryz.ntmps94]) ?_
    intro hbox htok
    simp only at hbox htok
    apply AL.start
    have hkn := key_lt hbox hk
    repeat (first | refine AL.seq ?_ | refine AL.block ?_ | refine AL.skip ?_ | refine AL.blk ?_)
    refine AL.region follows_Tryz (Nat.le_refl _) (by kernel_rfl) ?_
    simp [lb_out hkn, hk]
    repeat (first | refine AL.seq ?_ | refine AL.block ?_ | refine AL.skip ?_ | refine AL.blk ?_)
    refine AL.cond ?_
    simp
    refine ⟨fun hbig => ?_, fun hsm => ?_⟩
    · repeat (first | refine AL.seq ?_ | refine AL.block ?_ | refine AL.skip ?_ | refine AL.blk ?_)
      refine AL.ret ?_
      try simp only [AU]
      refine ⟨by simp, (Fin.own (vs := []) (av := .tup []) (by simp [resAs, resA]) hbox rfl (Nat.le_refl _) (by simp [packA])).mono fun v m hq => ⟨hq.1, own, tok, nt, ?_, Adv.refl hlive htok⟩⟩
      have hbig' : 2000 < out.length := by omega
      rw [hq.2, ovE, if_pos hbig', ← hself]
    · have hsm' : ¬ 2000 < out.length := by omega
      have hes' : es.length = b.edges.length := by omega
      repeat (first | refine AL.seq ?_ | refine AL.block ?_ | refine AL.skip ?_ | refine AL.blk ?_)
      refine AL.region follows_Tryz (Nat.le_refl _) (by kernel_rfl) ?_
      simp [lb_out hkn, hk]
      repeat (first | refine AL.seq ?_ | refine AL.block ?_ | refine AL.skip ?_ | refine AL.blk ?_)
      refine AL.region follows_Tryz (Nat.le_refl _) (by kernel_rfl) ?_
      simp [lb_out hkn, hk]
      repeat (first | refine AL.seq ?_ | refine AL.block ?_ | refine AL.skip ?_ | refine AL.blk ?_)
      refine AL.cond ?_
      simp
      refine ⟨fun _ => ?_, fun hne => absurd (by omega) hne⟩
      have hbe := h.fb.e
      have hbn := h.fb.n
      repeat (first | refine AL.seq ?_ | refine AL.block ?_ | refine AL.skip ?_ | refine AL.blk ?_)
      refine AL.region follows_Tryz (Nat.le_refl _) (by kernel_rfl) ?_
      simp [lb_out hkn, hk]
      refine Stop.of_d (overlap_c a b nodes es h.fa (by rw [h.n]; exact Nat.le_refl _) (by omega) (by rw [h.n]; omega) (by omega) (fun i _ h2 _ => h.x _ (List.getElem_mem h2)) _ _) ?_
      simp [lb_out hkn, hk, upd_lb_out hkn]
      refine ⟨⟨by omega, hlive⟩, ?_⟩
      repeat (first | refine AL.seq ?_ | refine AL.block ?_ | refine AL.skip ?_ | refine AL.blk ?_)
      refine AL.ret ?_
      try simp only [AU]
      refine ⟨by simp, (Fin.gen (vs := []) (av := .tup []) (tok' := upd (own.kill tok) nt true) (nt' := nt + 1) (by simp [resAs, resA]) ?_ (by omega) (Nat.le_refl _) (fun t h => ⟨h, .inl rfl⟩) ?_ (by simp [packA])).mono fun v m hq => ⟨hq.1, .tok nt, upd (own.kill tok) nt true, nt + 1, ?_, Adv.app hlive htok⟩⟩
      · rw [← upd_lb_out hkn, hbox]
      · intro k' rows hk' hr
        by_cases e : k' = k
        · subst e
          rw [upd_same] at hr
          cases hr
          exact .inr (by simp)
        · rw [upd_other _ _ e] at hr
          exact .inl hr
      · rw [hq.2, ovE, if_neg hsm']
        simp [ovRow]
  | succ n ih =>
    intro es out own box nb k tok nt hes hk hlive
    have hself : box = upd box k (some [ovRow a b out own]) := (upd_self box k _ hk).symm
    have hae := h.fa.e
    have hbe := h.fb.e
    have hbn := h.fb.n
    have hlt : es.length < b.edges.length := by omega
    obtain ⟨x1, x2, x3, x4⟩ := h.x b.edges[es.length] (List.getElem_mem hlt)
    have y1 : b.edges[es.length].fr.toNat < nodes.length := by omega
    have y2 : b.edges[es.length].to.toNat < nodes.length := by omega
    refine ACalls.of_body Tryz.func94 rfl (by kernel_rfl) follows_Tryz (by kernel_rfl) (by simp [Tryz.ntmps94]) ?_
    intro hbox htok
    simp only at hbox htok
    apply AL.start
    have hkn := key_lt hbox hk
    repeat (first | refine AL.seq ?_ | refine AL.block ?_ | refine AL.skip ?_ | refine AL.blk ?_)
    refine AL.region follows_Tryz (Nat.le_refl _) (by kernel_rfl) ?_
    simp [lb_out hkn, hk]
    repeat (first | refine AL.seq ?_ | refine AL.block ?_ | refine AL.skip ?_ | refine AL.blk ?_)
    refine AL.cond ?_
    simp
    refine ⟨fun hbig => ?_, fun hsm => ?_⟩
    · repeat (first | refine AL.seq ?_ | refine AL.block ?_ | refine AL.skip ?_ | refine AL.blk ?_)
      refine AL.ret ?_
      try simp only [AU]
      refine ⟨by simp, (Fin.own (vs := []) (av := .tup []) (by simp [resAs, resA]) hbox rfl (Nat.le_refl _) (by simp [packA])).mono fun v m hq => ⟨hq.1, own, tok, nt, ?_, Adv.refl hlive htok⟩⟩
      have hbig' : 2000 < out.length := by omega
      rw [hq.2, ovE, if_pos hbig', ← hself]
    · have hsm' : ¬ 2000 < out.length := by omega
      repeat (first | refine AL.seq ?_ | refine AL.block ?_ | refine AL.skip ?_ | refine AL.blk ?_)
      refine AL.region follows_Tryz (Nat.le_refl _) (by kernel_rfl) ?_
      simp [lb_out hkn, hk]
      repeat (first | refine AL.seq ?_ | refine AL.block ?_ | refine AL.skip ?_ | refine AL.blk ?_)
      refine AL.region follows_Tryz (Nat.le_refl _) (by kernel_rfl) ?_
      simp [lb_out hkn, hk]
      repeat (first | refine AL.seq ?_ | refine AL.block ?_ | refine AL.skip ?_ | refine AL.blk ?_)
      refine AL.cond ?_
      simp
      refine ⟨fun heq => absurd heq (by omega), fun _ => ?_⟩
      repeat (first | refine AL.seq ?_ | refine AL.block ?_ | refine AL.skip ?_ | refine AL.blk ?_)
      refine AL.region follows_Tryz (Nat.le_refl _) (by kernel_rfl) ?_
      simp [lb_out hkn, hk, hlt]
      repeat (first | refine AL.seq ?_ | refine AL.block ?_ | refine AL.skip ?_ | refine AL.blk ?_)
      refine AL.region follows_Tryz (Nat.le_refl _) (by kernel_rfl) ?_
      simp [lb_out hkn, hk]
      repeat (first | refine AL.seq ?_ | refine AL.block ?_ | refine AL.skip ?_ | refine AL.blk ?_)
      have hlb : ∀ loc, lb nb box loc = lb nb (upd box k (some [ovRow a b out own])) loc := fun loc => by rw [← hself]
      rw [hlb]
      have hwant : wantE b nodes es = ⟨b.edges[es.length].ty, nodes[b.edges[es.length].fr.toNat], nodes[b.edges[es.length].to.toNat]⟩ := by simp [wantE, hlt, y1, y2]
      refine AL.loopT (st85 a b nodes es nb k box) (fun x => x.i ≤ a.edges.length + 1 ∧ x.out = accE a b nodes n es out x.i ∧ Adv tok nt own x.tok x.nt x.own) (fun x => a.edges.length + 1 - x.i)
        ⟨0, out, own, tok, nt⟩ ⟨Nat.zero_le _, rfl, Adv.refl hlive htok⟩ (Weaks.mk' (Nat.le_refl _) (by simp [ToL, lk, hlt]; exact to_ptr (by rw [lb_out hkn, upd_same]; simp)) (by simp [BoxL, lk, hlt]) (outOk rfl)) ?_
      rintro ⟨i, out2, own2, tok2, nt2⟩ S ⟨hi, hout, hadv2⟩ hS
      simp only [st85] at hS hi hout hadv2
      subst hS
      have hw : IntKind.i64.wrap (↑i - 1 + 1) = ((i + 1 : Nat) : Int) - 1 := by rw [wrap_in (by omega) (by omega)]; omega
      repeat (first | refine AL.seq ?_ | refine AL.block ?_ | refine AL.skip ?_ | refine AL.blk ?_)
      refine AL.region follows_Tryz (Nat.le_refl _) (by kernel_rfl) ?_
      simp [lb_out hkn, upd_same]
      repeat (first | refine AL.seq ?_ | refine AL.block ?_ | refine AL.skip ?_ | refine AL.blk ?_)
      refine AL.cond ?_
      simp
      refine ⟨fun hli => ?_, fun hge => ?_⟩
      · cases i with
        | zero =>
          repeat (first | refine AL.seq ?_ | refine AL.block ?_ | refine AL.skip ?_ | refine AL.blk ?_)
          refine AL.region follows_Tryz (Nat.le_refl _) (by kernel_rfl) ?_
          simp [lb_out hkn, upd_same]
          repeat (first | refine AL.seq ?_ | refine AL.block ?_ | refine AL.skip ?_ | refine AL.blk ?_)
          refine AL.cond ?_
          simp
          repeat (first | refine AL.seq ?_ | refine AL.block ?_ | refine AL.skip ?_ | refine AL.blk ?_)
          refine AL.region follows_Tryz (Nat.le_refl _) (by kernel_rfl) ?_
          simp [lb_out hkn, upd_same]
          refine ⟨by omega, by omega, ?_⟩
          refine Stop.data ?_
          simp only [List.map, AV.asD]
          rw [rI_snoc]
          have had := Adv.fresh hadv2.live hadv2.lt
          refine Stop.of_a (ih (es ++ [-1]) out2 own2 _ _ k _ _ (by simp; omega) (by simp only [lb_out hkn, upd_same]) had.live) ?_
          rintro v m' ⟨rfl, own3, tok3, nt3, rfl, hadv⟩
          simp [upd_lb_out hkn, upd_upd]
          have had3 : Adv tok nt own tok3 nt3 own3 := hadv2.trans htok (had.trans hadv2.lt hadv)
          clear hadv had
          repeat (first | refine AL.seq ?_ | refine AL.block ?_ | refine AL.skip ?_ | refine AL.blk ?_)
          refine AL.region follows_Tryz (Nat.le_refl _) (by kernel_rfl) ?_
          simp [show IntKind.i64.wrap 0 = 0 from rfl]
          repeat (first | refine AL.seq ?_ | refine AL.block ?_ | refine AL.skip ?_ | refine AL.blk ?_)
          refine AL.nil ?_
          refine ⟨⟨1, ovE a b nodes n (es ++ [-1]) out2, own3, tok3, nt3⟩, ⟨by simp, ?_, had3⟩, by simp, Weaks.mk' had3.le (by simp [ToL, lk]; exact to_ptr (by rw [lb_out hkn, upd_same]; simp)) (by simp [BoxL, lk, hlt]) (outOk rfl)⟩
          rw [hout]; rfl
        | succ i =>
          have hli' : i < a.edges.length := by omega
          have hneg : ¬ (i : Int) < 0 := by omega
          have hw' : IntKind.i64.wrap (↑i + 1) = (i : Int) + 1 := by rw [wrap_in (by omega) (by omega)]
          have hfold : accE a b nodes n es out (i + 1 + 1) = ovStep a b nodes n es out2 i := by
            rw [hout, accE, accE, List.range_succ, List.foldl_append]; rfl
          have hgi : a.edges.getD i default = a.edges[i] := by simp [hli']
          repeat (first | refine AL.seq ?_ | refine AL.block ?_ | refine AL.skip ?_ | refine AL.blk ?_)
          refine AL.region follows_Tryz (Nat.le_refl _) (by kernel_rfl) ?_
          simp [lb_out hkn, upd_same, hneg]
          refine Stop.of_d (in_c es i (by omega) _ _) ?_
          simp [lb_out hkn, upd_same, hneg]
          by_cases hin : (i : Int) ∈ es
          · simp [hin]
            repeat (first | refine AL.seq ?_ | refine AL.block ?_ | refine AL.skip ?_ | refine AL.blk ?_)
            refine AL.cond ?_
            simp
            repeat (first | refine AL.seq ?_ | refine AL.block ?_ | refine AL.skip ?_ | refine AL.blk ?_)
            refine AL.region follows_Tryz (Nat.le_refl _) (by kernel_rfl) ?_
            simp [hw']
            repeat (first | refine AL.seq ?_ | refine AL.block ?_ | refine AL.skip ?_ | refine AL.blk ?_)
            refine AL.nil ?_
            refine ⟨⟨i + 1 + 1, out2, own2, tok2, nt2⟩, ⟨by simp; omega, ?_, hadv2⟩, by simp; omega, Weaks.mk' hadv2.le (by simp [ToL, lk]; exact to_ptr (by rw [lb_out hkn, upd_same]; simp)) (by simp [BoxL, lk, hlt]) (outOk rfl)⟩
            rw [hfold, ovStep, if_neg (fun hh => hh.2 hin)]
          · simp [hin, lb_out hkn, upd_same, hli', hlt, x1, x2, x3, x4, y1, y2]
            simp only [E.eq_and3]
            repeat (first | refine AL.seq ?_ | refine AL.block ?_ | refine AL.skip ?_ | refine AL.blk ?_)
            refine AL.cond ?_
            simp
            refine ⟨fun hE => ?_, fun hE => ?_⟩
            · repeat (first | refine AL.seq ?_ | refine AL.block ?_ | refine AL.skip ?_ | refine AL.blk ?_)
              refine AL.region follows_Tryz (Nat.le_refl _) (by kernel_rfl) ?_
              simp [lb_out hkn, upd_same]
              refine ⟨by omega, by omega, ?_⟩
              refine Stop.data ?_
              simp only [List.map, AV.asD]
              rw [rI_snoc]
              have had := Adv.fresh hadv2.live hadv2.lt
              refine Stop.of_a (ih (es ++ [(i : Int)]) out2 own2 _ _ k _ _ (by simp; omega) (by simp only [lb_out hkn, upd_same]) had.live) ?_
              rintro v m' ⟨rfl, own3, tok3, nt3, rfl, hadv⟩
              simp [upd_lb_out hkn, upd_upd]
              have had3 : Adv tok nt own tok3 nt3 own3 := hadv2.trans htok (had.trans hadv2.lt hadv)
              clear hadv had
              repeat (first | refine AL.seq ?_ | refine AL.block ?_ | refine AL.skip ?_ | refine AL.blk ?_)
              refine AL.region follows_Tryz (Nat.le_refl _) (by kernel_rfl) ?_
              simp [hw']
              repeat (first | refine AL.seq ?_ | refine AL.block ?_ | refine AL.skip ?_ | refine AL.blk ?_)
              refine AL.nil ?_
              refine ⟨⟨i + 1 + 1, ovE a b nodes n (es ++ [(i : Int)]) out2, own3, tok3, nt3⟩, ⟨by simp; omega, ?_, had3⟩, by simp; omega, Weaks.mk' had3.le (by simp [ToL, lk]; exact to_ptr (by rw [lb_out hkn, upd_same]; simp)) (by simp [BoxL, lk, hlt]) (outOk rfl)⟩
              rw [hfold, ovStep, if_pos ⟨by rw [hgi, hwant, hE], hin⟩]
            · repeat (first | refine AL.seq ?_ | refine AL.block ?_ | refine AL.skip ?_ | refine AL.blk ?_)
              refine AL.region follows_Tryz (Nat.le_refl _) (by kernel_rfl) ?_
              simp [hw']
              repeat (first | refine AL.seq ?_ | refine AL.block ?_ | refine AL.skip ?_ | refine AL.blk ?_)
              refine AL.nil ?_
              refine ⟨⟨i + 1 + 1, out2, own2, tok2, nt2⟩, ⟨by simp; omega, ?_, hadv2⟩, by simp; omega, Weaks.mk' hadv2.le (by simp [ToL, lk]; exact to_ptr (by rw [lb_out hkn, upd_same]; simp)) (by simp [BoxL, lk, hlt]) (outOk rfl)⟩
              rw [hfold, ovStep, if_neg (fun hh => hE (by rw [← hgi, hh.1, hwant]))]
      · repeat (first | refine AL.seq ?_ | refine AL.block ?_ | refine AL.skip ?_ | refine AL.blk ?_)
        refine AL.exit ?_
        simp only [AU, ↓reduceIte]
        have hin : i = a.edges.length + 1 := by omega
        subst hin
        repeat (first | refine AL.seq ?_ | refine AL.block ?_ | refine AL.skip ?_ | refine AL.blk ?_)
        refine AL.nil ?_
        refine ⟨by simp, (Fin.gen (vs := []) (av := .tup []) (tok' := tok2) (nt' := nt2) (by simp [resAs, resA]) ?_ hadv2.le (Nat.le_refl _) (fun t h => ⟨h, .inl rfl⟩) (outOk (by simp)) (by simp [packA])).mono fun v m hq => ⟨hq.1, own2, tok2, nt2, ?_, hadv2⟩⟩
        · rw [← upd_lb_out hkn, hbox]
        · rw [hq.2, ovE, if_neg hsm', hout]; rfl
end Go.AM
namespace Go.AM
open Go Go.Proofs
set_option linter.unusedSimpArgs false
set_option linter.unusedVariables false

/-! ### ref13.overlaps.nodes -/
def accN (a b : Gr) (n : Nat) (l : List Int) (out : List Ov) : Nat → List Ov
  | 0 => out
  | i + 1 => (List.range i).foldl (ovStepN a b (ovN a b n) l) (ovN a b n (l ++ [-1]) out)

def st44 (a b : Gr) (l : List Int) (nb k : Nat) (box : Nat → Option (List (List AV))) (x : AccR) : AState :=
  ⟨tl [(0, .ptr k 0 0), (1, .d (ints l)), (4, I l.length), (5, I (x.i - 1))],
    lb nb (upd box k (some [ovRow a b x.out x.own])) [], x.tok, x.nt⟩

theorem nodes13_c (a b : Gr) (h : NoH a b) : ∀ (n : Nat) (l : List Int) (out : List Ov) (own : Own) (box : Nat → Option (List (List AV))) (nb k : Nat) (tok : Nat → Bool) (nt : Nat), l.length + n = b.nodes.length →
    box k = some [ovRow a b out own] → own.liveP tok → ACalls Tryz.prog 78 [.ptr k 0 0, .d (ints l)] ⟨box, nb, tok, nt⟩ (QOv a b box nb k tok nt own (ovN a b n l out)) := by
  intro n
  induction n with
  | zero =>
    intro l out own box nb k tok nt hl hk hlive
    have hself : box = upd box k (some [ovRow a b out own]) := (upd_self box k _ hk).symm
    refine ACalls.of_body Tryz.func78 rfl (by kernel_rfl) follows_Tryz (by kernel_rfl) (by simp [Tryz.ntmps78]) ?_
    intro hbox htok
    simp only at hbox htok
    apply AL.start
    have hkn := key_lt hbox hk
    repeat (first | refine AL.seq ?_ | refine AL.block ?_ | refine AL.skip ?_ | refine AL.blk ?_)
    refine AL.region follows_Tryz (Nat.le_refl _) (by kernel_rfl) ?_
    simp [lb_out hkn, hk]
    repeat (first | refine AL.seq ?_ | refine AL.block ?_ | refine AL.skip ?_ | refine AL.blk ?_)
    refine AL.cond ?_
    simp
    refine ⟨fun hbig => ?_, fun hsm => ?_⟩
    · repeat (first | refine AL.seq ?_ | refine AL.block ?_ | refine AL.skip ?_ | refine AL.blk ?_)
      refine AL.ret ?_
      try simp only [AU]
      refine ⟨by simp, (Fin.own (vs := []) (av := .tup []) (by simp [resAs, resA]) hbox rfl (Nat.le_refl _) (by simp [packA])).mono fun v m hq => ⟨hq.1, own, tok, nt, ?_, Adv.refl hlive htok⟩⟩
      have hbig' : 2000 < out.length := by omega
      rw [hq.2, ovN, if_pos hbig', ← hself]
    · have hsm' : ¬ 2000 < out.length := by omega
      have hl' : l.length = b.nodes.length := by omega
      repeat (first | refine AL.seq ?_ | refine AL.block ?_ | refine AL.skip ?_ | refine AL.blk ?_)
      refine AL.region follows_Tryz (Nat.le_refl _) (by kernel_rfl) ?_
      simp [lb_out hkn, hk]
      repeat (first | refine AL.seq ?_ | refine AL.block ?_ | refine AL.skip ?_ | refine AL.blk ?_)
      refine AL.region follows_Tryz (Nat.le_refl _) (by kernel_rfl) ?_
      simp [lb_out hkn, hk]
      repeat (first | refine AL.seq ?_ | refine AL.block ?_ | refine AL.skip ?_ | refine AL.blk ?_)
      refine AL.cond ?_
      simp
      refine ⟨fun _ => ?_, fun hne => absurd (by omega) hne⟩
      have hbe := h.fb.e
      have hbn := h.fb.n
      repeat (first | refine AL.seq ?_ | refine AL.block ?_ | refine AL.skip ?_ | refine AL.blk ?_)
      refine AL.region follows_Tryz (Nat.le_refl _) (by kernel_rfl) ?_
      simp [lb_out hkn, hk]
      refine Stop.sub (args' := [.ptr k 0 0, .d (ints l), .d (ints [])]) ⟨Sub.refl _, Sub.refl _, Sub.nil _ _ _, trivial⟩ ?_
      refine Stop.of_a (edges13_c a b l ⟨h.fa, h.va, h.fb, hl', by rw [hl']; exact h.x⟩ b.edges.length [] out own _ _ k _ _ (by simp) (by simp only [lb_out hkn, hk]) hlive) ?_
      rintro v m' ⟨rfl, own1, tok1, nt1, rfl, hadv⟩
      simp [upd_lb_out hkn]
      repeat (first | refine AL.seq ?_ | refine AL.block ?_ | refine AL.skip ?_ | refine AL.blk ?_)
      refine AL.ret ?_
      try simp only [AU]
      refine ⟨by simp, (Fin.gen (vs := []) (av := .tup []) (tok' := tok1) (nt' := nt1) (by simp [resAs, resA]) ?_ hadv.le (Nat.le_refl _) (fun t h => ⟨h, .inl rfl⟩) (outOk (by simp)) (by simp [packA])).mono fun v m hq => ⟨hq.1, own1, tok1, nt1, ?_, hadv⟩⟩
      · rw [← upd_lb_out hkn, hbox]
      · rw [hq.2, ovN, if_neg hsm']
  | succ n ih =>
    intro l out own box nb k tok nt hl hk hlive
    have hself : box = upd box k (some [ovRow a b out own]) := (upd_self box k _ hk).symm
    have han := h.fa.n
    have hbn := h.fb.n
    have hlt : l.length < b.nodes.length := by omega
    refine ACalls.of_body Tryz.func78 rfl (by kernel_rfl) follows_Tryz (by kernel_rfl) (by simp [Tryz.ntmps78]) ?_
    intro hbox htok
    simp only at hbox htok
    apply AL.start
    have hkn := key_lt hbox hk
    repeat (first | refine AL.seq ?_ | refine AL.block ?_ | refine AL.skip ?_ | refine AL.blk ?_)
    refine AL.region follows_Tryz (Nat.le_refl _) (by kernel_rfl) ?_
    simp [lb_out hkn, hk]
    repeat (first | refine AL.seq ?_ | refine AL.block ?_ | refine AL.skip ?_ | refine AL.blk ?_)
    refine AL.cond ?_
    simp
    refine ⟨fun hbig => ?_, fun hsm => ?_⟩
    · repeat (first | refine AL.seq ?_ | refine AL.block ?_ | refine AL.skip ?_ | refine AL.blk ?_)
      refine AL.ret ?_
      try simp only [AU]
      refine ⟨by simp, (Fin.own (vs := []) (av := .tup []) (by simp [resAs, resA]) hbox rfl (Nat.le_refl _) (by simp [packA])).mono fun v m hq => ⟨hq.1, own, tok, nt, ?_, Adv.refl hlive htok⟩⟩
      have hbig' : 2000 < out.length := by omega
      rw [hq.2, ovN, if_pos hbig', ← hself]
    · have hsm' : ¬ 2000 < out.length := by omega
      repeat (first | refine AL.seq ?_ | refine AL.block ?_ | refine AL.skip ?_ | refine AL.blk ?_)
      refine AL.region follows_Tryz (Nat.le_refl _) (by kernel_rfl) ?_
      simp [lb_out hkn, hk]
      repeat (first | refine AL.seq ?_ | refine AL.block ?_ | refine AL.skip ?_ | refine AL.blk ?_)
      refine AL.region follows_Tryz (Nat.le_refl _) (by kernel_rfl) ?_
      simp [lb_out hkn, hk]
      repeat (first | refine AL.seq ?_ | refine AL.block ?_ | refine AL.skip ?_ | refine AL.blk ?_)
      refine AL.cond ?_
      simp
      refine ⟨fun heq => absurd heq (by omega), fun _ => ?_⟩
      repeat (first | refine AL.seq ?_ | refine AL.block ?_ | refine AL.skip ?_ | refine AL.blk ?_)
      refine AL.region follows_Tryz (Nat.le_refl _) (by kernel_rfl) ?_
      simp
      repeat (first | refine AL.seq ?_ | refine AL.block ?_ | refine AL.skip ?_ | refine AL.blk ?_)
      have hlb : ∀ loc, lb nb box loc = lb nb (upd box k (some [ovRow a b out own])) loc := fun loc => by rw [← hself]
      rw [hlb]
      refine AL.loopT (st44 a b l nb k box) (fun x => x.i ≤ a.nodes.length + 1 ∧ x.out = accN a b n l out x.i ∧ Adv tok nt own x.tok x.nt x.own) (fun x => a.nodes.length + 1 - x.i)
        ⟨0, out, own, tok, nt⟩ ⟨Nat.zero_le _, rfl, Adv.refl hlive htok⟩ (Weaks.mk' (Nat.le_refl _) (by simp [ToL, lk]; exact to_ptr (by rw [lb_out hkn, upd_same]; simp)) (by simp [BoxL, lk]) (outOk rfl)) ?_
      rintro ⟨i, out2, own2, tok2, nt2⟩ S ⟨hi, hout, hadv2⟩ hS
      simp only [st44] at hS hi hout hadv2
      subst hS
      repeat (first | refine AL.seq ?_ | refine AL.block ?_ | refine AL.skip ?_ | refine AL.blk ?_)
      refine AL.region follows_Tryz (Nat.le_refl _) (by kernel_rfl) ?_
      simp [lb_out hkn, upd_same]
      repeat (first | refine AL.seq ?_ | refine AL.block ?_ | refine AL.skip ?_ | refine AL.blk ?_)
      refine AL.cond ?_
      simp
      refine ⟨fun hli => ?_, fun hge => ?_⟩
      · cases i with
        | zero =>
          repeat (first | refine AL.seq ?_ | refine AL.block ?_ | refine AL.skip ?_ | refine AL.blk ?_)
          refine AL.region follows_Tryz (Nat.le_refl _) (by kernel_rfl) ?_
          simp [lb_out hkn, upd_same]
          repeat (first | refine AL.seq ?_ | refine AL.block ?_ | refine AL.skip ?_ | refine AL.blk ?_)
          refine AL.cond ?_
          simp
          repeat (first | refine AL.seq ?_ | refine AL.block ?_ | refine AL.skip ?_ | refine AL.blk ?_)
          refine AL.region follows_Tryz (Nat.le_refl _) (by kernel_rfl) ?_
          simp [lb_out hkn, upd_same]
          refine ⟨by omega, by omega, ?_⟩
          refine Stop.data ?_
          simp only [List.map, AV.asD]
          rw [rI_snoc]
          have had := Adv.fresh hadv2.live hadv2.lt
          refine Stop.of_a (ih (l ++ [-1]) out2 own2 _ _ k _ _ (by simp; omega) (by simp only [lb_out hkn, upd_same]) had.live) ?_
          rintro v m' ⟨rfl, own3, tok3, nt3, rfl, hadv⟩
          simp [upd_lb_out hkn, upd_upd]
          have had3 : Adv tok nt own tok3 nt3 own3 := hadv2.trans htok (had.trans hadv2.lt hadv)
          clear hadv had
          repeat (first | refine AL.seq ?_ | refine AL.block ?_ | refine AL.skip ?_ | refine AL.blk ?_)
          refine AL.region follows_Tryz (Nat.le_refl _) (by kernel_rfl) ?_
          simp [show IntKind.i64.wrap 0 = 0 from rfl]
          repeat (first | refine AL.seq ?_ | refine AL.block ?_ | refine AL.skip ?_ | refine AL.blk ?_)
          refine AL.nil ?_
          refine ⟨⟨1, ovN a b n (l ++ [-1]) out2, own3, tok3, nt3⟩, ⟨by simp, ?_, had3⟩, by simp, Weaks.mk' had3.le (by simp [ToL, lk]; exact to_ptr (by rw [lb_out hkn, upd_same]; simp)) (by simp [BoxL, lk]) (outOk rfl)⟩
          rw [hout]; rfl
        | succ i =>
          have hli' : i < a.nodes.length := by omega
          have hneg : ¬ (i : Int) < 0 := by omega
          have hw' : IntKind.i64.wrap (↑i + 1) = (i : Int) + 1 := by rw [wrap_in (by omega) (by omega)]
          have hfold : accN a b n l out (i + 1 + 1) = ovStepN a b (ovN a b n) l out2 i := by
            rw [hout, accN, accN, List.range_succ, List.foldl_append]; rfl
          have hgi : a.nodes.getD i 0 = a.nodes[i] := by simp [hli']
          have hgl : b.nodes.getD l.length 0 = b.nodes[l.length] := by simp [hlt]
          repeat (first | refine AL.seq ?_ | refine AL.block ?_ | refine AL.skip ?_ | refine AL.blk ?_)
          refine AL.region follows_Tryz (Nat.le_refl _) (by kernel_rfl) ?_
          simp [lb_out hkn, upd_same, hneg]
          refine Stop.of_d (in_c l i (by omega) _ _) ?_
          simp [lb_out hkn, upd_same, hneg]
          by_cases hin : (i : Int) ∈ l
          · simp [hin]
            repeat (first | refine AL.seq ?_ | refine AL.block ?_ | refine AL.skip ?_ | refine AL.blk ?_)
            refine AL.cond ?_
            simp
            repeat (first | refine AL.seq ?_ | refine AL.block ?_ | refine AL.skip ?_ | refine AL.blk ?_)
            refine AL.region follows_Tryz (Nat.le_refl _) (by kernel_rfl) ?_
            simp [hw']
            repeat (first | refine AL.seq ?_ | refine AL.block ?_ | refine AL.skip ?_ | refine AL.blk ?_)
            refine AL.nil ?_
            refine ⟨⟨i + 1 + 1, out2, own2, tok2, nt2⟩, ⟨by simp; omega, ?_, hadv2⟩, by simp; omega, Weaks.mk' hadv2.le (by simp [ToL, lk]; exact to_ptr (by rw [lb_out hkn, upd_same]; simp)) (by simp [BoxL, lk]) (outOk rfl)⟩
            rw [hfold, ovStepN, if_neg (fun hh => hh.2 hin)]
          · simp [hin, lb_out hkn, upd_same, hli', hlt]
            repeat (first | refine AL.seq ?_ | refine AL.block ?_ | refine AL.skip ?_ | refine AL.blk ?_)
            refine AL.cond ?_
            simp
            refine ⟨fun hE => ?_, fun hE => ?_⟩
            · repeat (first | refine AL.seq ?_ | refine AL.block ?_ | refine AL.skip ?_ | refine AL.blk ?_)
              refine AL.region follows_Tryz (Nat.le_refl _) (by kernel_rfl) ?_
              simp [lb_out hkn, upd_same]
              refine ⟨by omega, by omega, ?_⟩
              refine Stop.data ?_
              simp only [List.map, AV.asD]
              rw [rI_snoc]
              have had := Adv.fresh hadv2.live hadv2.lt
              refine Stop.of_a (ih (l ++ [(i : Int)]) out2 own2 _ _ k _ _ (by simp; omega) (by simp only [lb_out hkn, upd_same]) had.live) ?_
              rintro v m' ⟨rfl, own3, tok3, nt3, rfl, hadv⟩
              simp [upd_lb_out hkn, upd_upd]
              have had3 : Adv tok nt own tok3 nt3 own3 := hadv2.trans htok (had.trans hadv2.lt hadv)
              clear hadv had
              repeat (first | refine AL.seq ?_ | refine AL.block ?_ | refine AL.skip ?_ | refine AL.blk ?_)
              refine AL.region follows_Tryz (Nat.le_refl _) (by kernel_rfl) ?_
              simp [hw']
              repeat (first | refine AL.seq ?_ | refine AL.block ?_ | refine AL.skip ?_ | refine AL.blk ?_)
              refine AL.nil ?_
              refine ⟨⟨i + 1 + 1, ovN a b n (l ++ [(i : Int)]) out2, own3, tok3, nt3⟩, ⟨by simp; omega, ?_, had3⟩, by simp; omega, Weaks.mk' had3.le (by simp [ToL, lk]; exact to_ptr (by rw [lb_out hkn, upd_same]; simp)) (by simp [BoxL, lk]) (outOk rfl)⟩
              rw [hfold, ovStepN, if_pos ⟨by rw [hgi, hgl, hE], hin⟩]
            · repeat (first | refine AL.seq ?_ | refine AL.block ?_ | refine AL.skip ?_ | refine AL.blk ?_)
              refine AL.region follows_Tryz (Nat.le_refl _) (by kernel_rfl) ?_
              simp [hw']
              repeat (first | refine AL.seq ?_ | refine AL.block ?_ | refine AL.skip ?_ | refine AL.blk ?_)
              refine AL.nil ?_
              refine ⟨⟨i + 1 + 1, out2, own2, tok2, nt2⟩, ⟨by simp; omega, ?_, hadv2⟩, by simp; omega, Weaks.mk' hadv2.le (by simp [ToL, lk]; exact to_ptr (by rw [lb_out hkn, upd_same]; simp)) (by simp [BoxL, lk]) (outOk rfl)⟩
              rw [hfold, ovStepN, if_neg (fun hh => hE (by rw [← hgi, hh.1, hgl]))]
      · repeat (first | refine AL.seq ?_ | refine AL.block ?_ | refine AL.skip ?_ | refine AL.blk ?_)
        refine AL.exit ?_
        simp only [AU, ↓reduceIte]
        have hin : i = a.nodes.length + 1 := by omega
        subst hin
        repeat (first | refine AL.seq ?_ | refine AL.block ?_ | refine AL.skip ?_ | refine AL.blk ?_)
        refine AL.nil ?_
        refine ⟨by simp, (Fin.gen (vs := []) (av := .tup []) (tok' := tok2) (nt' := nt2) (by simp [resAs, resA]) ?_ hadv2.le (Nat.le_refl _) (fun t h => ⟨h, .inl rfl⟩) (outOk (by simp)) (by simp [packA])).mono fun v m hq => ⟨hq.1, own2, tok2, nt2, ?_, hadv2⟩⟩
        · rw [← upd_lb_out hkn, hbox]
        · rw [hq.2, ovN, if_neg hsm', hout]; rfl
end Go.AM
namespace Go.AM
open Go Go.Proofs
set_option linter.unusedSimpArgs false
set_option linter.unusedVariables false

/-! ### Overlaps -/
theorem Conv.sub {v v' : AV} {m : AMem} (h : Sub v v') : Conv v m v' m := ⟨rfl, rfl, fun G w u h1 h2 => ⟨G, h1, h _ _ _ h2, Le.refl G w, fun _ h => h⟩⟩
theorem Sub.tup {xs ys : List AV} (h : SubL xs ys) : Sub (.tup xs) (.tup ys) := fun G w v r => by
  cases r with
  | tup hl hh => have := h.rvs ⟨hl, hh⟩; exact .tup this.1 this.2

def overlapsR (a b : Gr) : List Ov × Int :=
  if validG a ≠ 0 then ([], validG a) else if validG b ≠ 0 then ([], validG b) else if 40 < a.nodes.length + b.nodes.length ∨ 80 < a.edges.length + b.edges.length then ([], 3)
  else if 2000 < (ovN a b b.nodes.length [] []).length then ([], 3) else (ovN a b b.nodes.length [] [], 0)

theorem validG_edges {g : Gr} (h : validG g = 0) : ∀ e ∈ g.edges, 0 ≤ e.fr ∧ e.fr < g.nodes.length ∧ 0 ≤ e.to ∧ e.to < g.nodes.length := by
  intro e he
  unfold validG at h
  split at h
  · cases h
  · split at h
    · cases h
    · split at h
      · cases h
      · rename_i h3
        have := List.any_eq_false.1 (Bool.not_eq_true _ ▸ h3) e he
        simp [fitsB, withinB] at this
        omega

theorem overlaps13_c (a b : Gr) (ha : a.Fit) (hb : b.Fit) (tok : Nat → Bool) (nt : Nat) : DCall Tryz.prog 57 [a.av, b.av] tok nt (.tup [.d (ovs (overlapsR a b).1), I (overlapsR a b).2]) tok nt := by
  intro box nb
  have han := ha.n
  have hae := ha.e
  have hbn := hb.n
  have hbe := hb.e
  have main : ACalls Tryz.prog 57 [a.av, b.av] ⟨box, nb, tok, nt⟩ fun v m => (v = .tup [.d (ovs (overlapsR a b).1), I (overlapsR a b).2] ∨ (overlapsR a b).1 = [] ∧ v = .tup [.osl 0 [] .full, I (overlapsR a b).2]) ∧ m = ⟨box, nb, tok, nt⟩ := by
    refine ACalls.of_body Tryz.func57 rfl (by kernel_rfl) follows_Tryz (by kernel_rfl) (by simp [Tryz.ntmps57]) ?_
    intro hbox htok
    simp only at hbox htok
    apply AL.start
    repeat (first | refine AL.seq ?_ | refine AL.block ?_ | refine AL.skip ?_ | refine AL.blk ?_)
    refine AL.region follows_Tryz (Nat.le_refl _) (by kernel_rfl) ?_
    simp
    repeat (first | refine AL.seq ?_ | refine AL.block ?_ | refine AL.skip ?_ | refine AL.blk ?_)
    refine AL.region follows_Tryz (Nat.le_refl _) (by kernel_rfl) ?_
    simp
    refine Stop.of_d (valid05_c a ha _ _) ?_
    simp
    by_cases hva : validG a = 0
    · repeat (first | refine AL.seq ?_ | refine AL.block ?_ | refine AL.skip ?_ | refine AL.blk ?_)
      refine AL.region follows_Tryz (Nat.le_refl _) (by kernel_rfl) ?_
      simp [hva]
      repeat (first | refine AL.seq ?_ | refine AL.block ?_ | refine AL.skip ?_ | refine AL.blk ?_)
      refine AL.cond ?_
      simp
      repeat (first | refine AL.seq ?_ | refine AL.block ?_ | refine AL.skip ?_ | refine AL.blk ?_)
      refine AL.region follows_Tryz (Nat.le_refl _) (by kernel_rfl) ?_
      simp
      refine Stop.of_d (valid05_c b hb _ _) ?_
      simp
      by_cases hvb : validG b = 0
      · repeat (first | refine AL.seq ?_ | refine AL.block ?_ | refine AL.skip ?_ | refine AL.blk ?_)
        refine AL.region follows_Tryz (Nat.le_refl _) (by kernel_rfl) ?_
        simp [hvb]
        repeat (first | refine AL.seq ?_ | refine AL.block ?_ | refine AL.skip ?_ | refine AL.blk ?_)
        refine AL.cond ?_
        simp
        have hw1 : IntKind.i64.wrap (↑a.nodes.length + ↑b.nodes.length) = (a.nodes.length : Int) + b.nodes.length := wrap_in (by omega) (by omega)
        have hw2 : IntKind.i64.wrap (↑a.edges.length + ↑b.edges.length) = (a.edges.length : Int) + b.edges.length := wrap_in (by omega) (by omega)
        have big : (40 < a.nodes.length + b.nodes.length ∨ 80 < a.edges.length + b.edges.length) → ∀ {l loc}, Fin Tryz.prog ⟨nb, nb + 53, 53, box⟩ nt [ResultVar.tmp 4, ResultVar.tmp 5] (fun v m => (v = .tup [.d (ovs (overlapsR a b).1), I (overlapsR a b).2] ∨ (overlapsR a b).1 = [] ∧ v = .tup [.osl 0 [] .full, I (overlapsR a b).2]) ∧ m = ⟨box, nb, tok, nt⟩)
            ⟨tl ((5, I 3) :: (4, .osl 0 [] .full) :: l), lb nb box loc, tok, nt⟩ := fun hbig {l loc} => by
          have hR : overlapsR a b = ([], 3) := by simp [overlapsR, hva, hvb, hbig]
          exact (Fin.data (av := .tup [.osl 0 [] .full, I 3]) (by simp [resAs, resA]; rfl) hbox rfl htok (fun _ h => h) (Nat.le_refl _) (by simp [packA])).mono fun v m hq => ⟨.inr ⟨by rw [hR], by rw [hR, hq.1]⟩, hq.2⟩
        repeat (first | refine AL.seq ?_ | refine AL.block ?_ | refine AL.skip ?_ | refine AL.blk ?_)
        refine AL.region follows_Tryz (Nat.le_refl _) (by kernel_rfl) ?_
        simp [hw1, hw2]
        first | refine Gd.dt (fun hs1 => ?_) (fun hs1 => ?_) | refine Gd.df (fun hs1 => ?_) (fun hs1 => ?_) | refine Gd.t (fun hs1 => ?_) (fun hs1 => ?_) | refine Gd.f (fun hs1 => ?_) (fun hs1 => ?_)
        · simp [hs1, hw1, hw2]
          repeat (first | refine AL.seq ?_ | refine AL.block ?_ | refine AL.skip ?_ | refine AL.blk ?_)
          refine AL.cond ?_
          simp
          repeat (first | refine AL.seq ?_ | refine AL.block ?_ | refine AL.skip ?_ | refine AL.blk ?_)
          refine AL.region follows_Tryz (Nat.le_refl _) (by kernel_rfl) ?_
          simp
          repeat (first | refine AL.seq ?_ | refine AL.block ?_ | refine AL.skip ?_ | refine AL.blk ?_)
          refine AL.ret ?_
          try simp only [AU]
          exact ⟨by simp, big (by omega)⟩
        · simp [hs1, hw1, hw2]
          repeat (first | refine AL.seq ?_ | refine AL.block ?_ | refine AL.skip ?_ | refine AL.blk ?_)
          refine AL.cond ?_
          simp
          refine ⟨fun hs2 => ?_, fun hs2 => ?_⟩
          · repeat (first | refine AL.seq ?_ | refine AL.block ?_ | refine AL.skip ?_ | refine AL.blk ?_)
            refine AL.region follows_Tryz (Nat.le_refl _) (by kernel_rfl) ?_
            simp
            repeat (first | refine AL.seq ?_ | refine AL.block ?_ | refine AL.skip ?_ | refine AL.blk ?_)
            refine AL.ret ?_
            try simp only [AU]
            exact ⟨by simp, big (by omega)⟩
          · have hsm : ¬ (40 < a.nodes.length + b.nodes.length ∨ 80 < a.edges.length + b.edges.length) := by omega
            repeat (first | refine AL.seq ?_ | refine AL.block ?_ | refine AL.skip ?_ | refine AL.blk ?_)
            refine AL.region follows_Tryz (Nat.le_refl _) (by kernel_rfl) ?_
            simp
            refine AL.weak (Weaks.mk (l' := [(8, .ptr (nb + 40) 0 0)]) (loc' := [(40, [ovRow a b [] .full])]) (Nat.le_refl _) rfl (by simp [ToL, lk]) (by simp [BoxL, lk])) ?_
            repeat (first | refine AL.seq ?_ | refine AL.block ?_ | refine AL.skip ?_ | refine AL.blk ?_)
            refine AL.region follows_Tryz (Nat.le_refl _) (by kernel_rfl) ?_
            simp
            refine Stop.sub (args' := [.ptr (nb + 40) 0 0, .d (ints [])]) ⟨Sub.refl _, Sub.nil _ _ _, trivial⟩ ?_
            refine Stop.of_a (nodes13_c a b ⟨ha, hva, hb, validG_edges hvb⟩ b.nodes.length [] [] .full _ _ (nb + 40) _ _ (by simp) (by simp) trivial) ?_
            rintro v m' ⟨rfl, own1, tok1, nt1, rfl, hadv⟩
            simp
            repeat (first | refine AL.seq ?_ | refine AL.block ?_ | refine AL.skip ?_ | refine AL.blk ?_)
            refine AL.region follows_Tryz (Nat.le_refl _) (by kernel_rfl) ?_
            simp
            repeat (first | refine AL.seq ?_ | refine AL.block ?_ | refine AL.skip ?_ | refine AL.blk ?_)
            refine AL.cond ?_
            simp
            have hkeep : ∀ t, tok t = true → tok1 t = true := fun t ht => hadv.keep t ht (by simp)
            refine ⟨fun hmany => ?_, fun hfew => ?_⟩
            · have hR : overlapsR a b = ([], 3) := by
                have : 2000 < (ovN a b b.nodes.length [] []).length := by omega
                simp [overlapsR, hva, hvb, hsm, this]
              repeat (first | refine AL.seq ?_ | refine AL.block ?_ | refine AL.skip ?_ | refine AL.blk ?_)
              refine AL.region follows_Tryz (Nat.le_refl _) (by kernel_rfl) ?_
              simp
              repeat (first | refine AL.seq ?_ | refine AL.block ?_ | refine AL.skip ?_ | refine AL.blk ?_)
              refine AL.ret ?_
              try simp only [AU]
              exact ⟨by simp, (Fin.data (av := .tup [.osl 0 [] .full, I 3]) (by simp [resAs, resA]; rfl) hbox rfl htok hkeep hadv.le (by simp [packA])).mono fun v m hq => ⟨.inr ⟨by rw [hR], by rw [hR, hq.1]⟩, hq.2⟩⟩
            · have hR : overlapsR a b = (ovN a b b.nodes.length [] [], 0) := by
                have : ¬ 2000 < (ovN a b b.nodes.length [] []).length := by omega
                simp [overlapsR, hva, hvb, hsm, this]
              repeat (first | refine AL.seq ?_ | refine AL.block ?_ | refine AL.skip ?_ | refine AL.blk ?_)
              refine AL.region follows_Tryz (Nat.le_refl _) (by kernel_rfl) ?_
              simp
              repeat (first | refine AL.seq ?_ | refine AL.block ?_ | refine AL.skip ?_ | refine AL.blk ?_)
              refine AL.ret ?_
              try simp only [AU]
              exact ⟨by simp, (Fin.data (av := .tup [.d (ovs (ovN a b b.nodes.length [] [])), I 0]) (by simp [resAs, resA]; rfl) hbox rfl htok hkeep hadv.le (by simp [packA])).mono fun v m hq => ⟨.inl (by rw [hR, hq.1]), hq.2⟩⟩
      · repeat (first | refine AL.seq ?_ | refine AL.block ?_ | refine AL.skip ?_ | refine AL.blk ?_)
        refine AL.region follows_Tryz (Nat.le_refl _) (by kernel_rfl) ?_
        simp
        repeat (first | refine AL.seq ?_ | refine AL.block ?_ | refine AL.skip ?_ | refine AL.blk ?_)
        refine AL.cond ?_
        simp [hvb]
        repeat (first | refine AL.seq ?_ | refine AL.block ?_ | refine AL.skip ?_ | refine AL.blk ?_)
        refine AL.region follows_Tryz (Nat.le_refl _) (by kernel_rfl) ?_
        simp
        have hR : overlapsR a b = ([], validG b) := by simp [overlapsR, hva, hvb]
        repeat (first | refine AL.seq ?_ | refine AL.block ?_ | refine AL.skip ?_ | refine AL.blk ?_)
        refine AL.ret ?_
        try simp only [AU]
        refine ⟨by simp, (Fin.data (av := .tup [.osl 0 [] .full, I (validG b)]) (by simp [resAs, resA]; rfl) hbox rfl htok (fun _ h => h) (Nat.le_refl _) (by simp [packA])).mono fun v m hq => ⟨.inr ⟨by rw [hR], by rw [hR, hq.1]⟩, hq.2⟩⟩
    · repeat (first | refine AL.seq ?_ | refine AL.block ?_ | refine AL.skip ?_ | refine AL.blk ?_)
      refine AL.region follows_Tryz (Nat.le_refl _) (by kernel_rfl) ?_
      simp
      repeat (first | refine AL.seq ?_ | refine AL.block ?_ | refine AL.skip ?_ | refine AL.blk ?_)
      refine AL.cond ?_
      simp [hva]
      repeat (first | refine AL.seq ?_ | refine AL.block ?_ | refine AL.skip ?_ | refine AL.blk ?_)
      refine AL.region follows_Tryz (Nat.le_refl _) (by kernel_rfl) ?_
      simp
      have hR : overlapsR a b = ([], validG a) := by simp [overlapsR, hva]
      repeat (first | refine AL.seq ?_ | refine AL.block ?_ | refine AL.skip ?_ | refine AL.blk ?_)
      refine AL.ret ?_
      try simp only [AU]
      refine ⟨by simp, (Fin.data (av := .tup [.osl 0 [] .full, I (validG a)]) (by simp [resAs, resA]; rfl) hbox rfl htok (fun _ h => h) (Nat.le_refl _) (by simp [packA])).mono fun v m hq => ⟨.inr ⟨by rw [hR], by rw [hR, hq.1]⟩, hq.2⟩⟩
  refine main.conv fun v m h => ?_
  obtain ⟨rfl | ⟨h1, rfl⟩, rfl⟩ := h
  · exact ⟨_, _, Conv.refl _ _, rfl, rfl⟩
  · refine ⟨_, _, Conv.sub (v' := .tup [.d (ovs (overlapsR a b).1), I (overlapsR a b).2]) (Sub.tup ⟨?_, Sub.refl _, trivial⟩), rfl, rfl⟩
    rw [h1]
    exact Sub.nil _ _ _
end Go.AM
