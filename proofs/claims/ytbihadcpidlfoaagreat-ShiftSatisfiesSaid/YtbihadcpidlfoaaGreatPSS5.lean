import Derived.Test.YtbihadcpidlfoaaGreatPSS4
namespace Go.AM
open Go Go.Proofs
set_option linter.unusedSimpArgs false
set_option linter.unusedVariables false

/-! ### graph.Valid, ref05.Valid, Few, Small, Copied -/
def validG (g : Gr) : Int := if 40 < g.nodes.length ∨ 80 < g.edges.length then 3 else if anyB (fun n => !withinB n 99) g.nodes then 6 else if anyB (fun e => !fitsB e g.nodes.length) g.edges then 6 else 0

structure Gr.Fit (g : Gr) : Prop where
  n : g.nodes.length ≤ 1000000
  e : g.edges.length ≤ 1000000

theorem graphValid_c (g : Gr) (hg : g.Fit) (tok : Nat → Bool) (nt : Nat) : DCall Tryz.prog 38 [g.av] tok nt (I (validG g)) tok nt := by
  intro box nb
  have hn := hg.n
  have he := hg.e
  refine ACalls.of_body Tryz.func38 rfl (by kernel_rfl) follows_Tryz (by kernel_rfl) (by simp [Tryz.ntmps38]) ?_
  intro hbox htok
  simp only at hbox htok
  apply AL.start
  repeat (first | refine AL.seq ?_ | refine AL.block ?_ | refine AL.skip ?_ | refine AL.blk ?_)
  refine AL.region follows_Tryz (Nat.le_refl _) (by kernel_rfl) ?_
  simp
  repeat (first | refine AL.seq ?_ | refine AL.block ?_ | refine AL.skip ?_ | refine AL.blk ?_)
  refine AL.region follows_Tryz (Nat.le_refl _) (by kernel_rfl) ?_
  simp
  first | refine Gd.dt (fun h1 => ?_) (fun h1 => ?_) | refine Gd.df (fun h1 => ?_) (fun h1 => ?_) | refine Gd.t (fun h1 => ?_) (fun h1 => ?_) | refine Gd.f (fun h1 => ?_) (fun h1 => ?_)
  · simp [h1]
    repeat (first | refine AL.seq ?_ | refine AL.block ?_ | refine AL.skip ?_ | refine AL.blk ?_)
    refine AL.cond ?_
    simp
    repeat (first | refine AL.seq ?_ | refine AL.block ?_ | refine AL.skip ?_ | refine AL.blk ?_)
    refine AL.region follows_Tryz (Nat.le_refl _) (by kernel_rfl) ?_
    simp
    repeat (first | refine AL.seq ?_ | refine AL.block ?_ | refine AL.skip ?_ | refine AL.blk ?_)
    refine AL.ret ?_
    try simp only [AU]
    refine ⟨by simp, Fin.data (by simp [resAs, resA]; rfl) hbox rfl htok (fun _ h => h) (Nat.le_refl _) ?_⟩
    simp [packA, validG, show 40 < g.nodes.length by omega]
  · simp [h1]
    repeat (first | refine AL.seq ?_ | refine AL.block ?_ | refine AL.skip ?_ | refine AL.blk ?_)
    refine AL.cond ?_
    simp
    refine ⟨fun h2 => ?_, fun h2 => ?_⟩
    · repeat (first | refine AL.seq ?_ | refine AL.block ?_ | refine AL.skip ?_ | refine AL.blk ?_)
      refine AL.region follows_Tryz (Nat.le_refl _) (by kernel_rfl) ?_
      simp
      repeat (first | refine AL.seq ?_ | refine AL.block ?_ | refine AL.skip ?_ | refine AL.blk ?_)
      refine AL.ret ?_
      try simp only [AU]
      refine ⟨by simp, Fin.data (by simp [resAs, resA]; rfl) hbox rfl htok (fun _ h => h) (Nat.le_refl _) ?_⟩
      simp [packA, validG, show 80 < g.edges.length by omega]
    · have hn1 : ¬ 40 < g.nodes.length := by omega
      have hn2 : ¬ 80 < g.edges.length := by omega
      repeat (first | refine AL.seq ?_ | refine AL.block ?_ | refine AL.skip ?_ | refine AL.blk ?_)
      refine AL.region follows_Tryz (Nat.le_refl _) (by kernel_rfl) ?_
      simp
      refine Stop.of_b (containsFunc_c g.nodes 62 [] (fun n => !withinB n 99) hn _ _ _ _ (by simp) (fun x _ box' nb' _ => valid1_c x _ _ box' nb')) ?_
      simp
      repeat (first | refine AL.seq ?_ | refine AL.block ?_ | refine AL.skip ?_ | refine AL.blk ?_)
      refine AL.cond ?_
      simp
      refine ⟨fun h3 => ?_, fun h3 => ?_⟩
      · repeat (first | refine AL.seq ?_ | refine AL.block ?_ | refine AL.skip ?_ | refine AL.blk ?_)
        refine AL.region follows_Tryz (Nat.le_refl _) (by kernel_rfl) ?_
        simp
        repeat (first | refine AL.seq ?_ | refine AL.block ?_ | refine AL.skip ?_ | refine AL.blk ?_)
        refine AL.ret ?_
        try simp only [AU]
        refine ⟨by simp, Fin.data (by simp [resAs, resA]; rfl) hbox rfl htok (fun _ h => h) (Nat.le_refl _) ?_⟩
        simp [packA, validG, hn1, hn2, h3]
      · repeat (first | refine AL.seq ?_ | refine AL.block ?_ | refine AL.skip ?_ | refine AL.blk ?_)
        refine AL.region follows_Tryz (Nat.le_refl _) (by kernel_rfl) ?_
        simp
        refine Stop.of_b (containsFuncE_c g.edges 65 [.ptr (nb + 1) 0 0] (fun e => !fitsB e g.nodes.length) he _ _ _ _ (by simp [lb_at, lk]) (fun x _ box' nb' hx => valid2_c x g hn _ _ box' nb' (nb + 1) (hx _ _ (by simp [lb_at, lk])))) ?_
        simp
        repeat (first | refine AL.seq ?_ | refine AL.block ?_ | refine AL.skip ?_ | refine AL.blk ?_)
        refine AL.cond ?_
        simp
        refine ⟨fun h4 => ?_, fun h4 => ?_⟩
        · repeat (first | refine AL.seq ?_ | refine AL.block ?_ | refine AL.skip ?_ | refine AL.blk ?_)
          refine AL.region follows_Tryz (Nat.le_refl _) (by kernel_rfl) ?_
          simp
          repeat (first | refine AL.seq ?_ | refine AL.block ?_ | refine AL.skip ?_ | refine AL.blk ?_)
          refine AL.ret ?_
          try simp only [AU]
          refine ⟨by simp, Fin.data (by simp [resAs, resA]; rfl) hbox rfl htok (fun _ h => h) (Nat.le_refl _) ?_⟩
          simp [packA, validG, hn1, hn2, h3, h4]
        · repeat (first | refine AL.seq ?_ | refine AL.block ?_ | refine AL.skip ?_ | refine AL.blk ?_)
          refine AL.region follows_Tryz (Nat.le_refl _) (by kernel_rfl) ?_
          simp
          repeat (first | refine AL.seq ?_ | refine AL.block ?_ | refine AL.skip ?_ | refine AL.blk ?_)
          refine AL.ret ?_
          try simp only [AU]
          refine ⟨by simp, Fin.data (by simp [resAs, resA]; rfl) hbox rfl htok (fun _ h => h) (Nat.le_refl _) ?_⟩
          simp [packA, validG, hn1, hn2, h3, h4]
end Go.AM
namespace Go.AM
open Go Go.Proofs
set_option linter.unusedSimpArgs false
set_option linter.unusedVariables false

/-! ### ref05: kind, right, Valid, Few, Copied; ref13: Small -/
theorem kind_c (n : Int) (tok : Nat → Bool) (nt : Nat) : DCall Tryz.prog 26 [I n] tok nt (B (withinB n 99)) tok nt := by
  intro box nb
  refine ACalls.of_body Tryz.func26 rfl (by kernel_rfl) follows_Tryz (by kernel_rfl) (by simp [Tryz.ntmps26]) ?_
  intro hbox htok
  simp only at hbox htok
  apply AL.start
  repeat (first | refine AL.seq ?_ | refine AL.block ?_ | refine AL.skip ?_ | refine AL.blk ?_)
  refine AL.region follows_Tryz (Nat.le_refl _) (by kernel_rfl) ?_
  simp
  repeat (first | refine AL.seq ?_ | refine AL.block ?_ | refine AL.skip ?_ | refine AL.blk ?_)
  refine AL.region follows_Tryz (Nat.le_refl _) (by kernel_rfl) ?_
  simp
  first | refine Gd.dt (fun h => ?_) (fun h => ?_) | refine Gd.df (fun h => ?_) (fun h => ?_) | refine Gd.t (fun h => ?_) (fun h => ?_) | refine Gd.f (fun h => ?_) (fun h => ?_)
  · simp [h]
    repeat (first | refine AL.seq ?_ | refine AL.block ?_ | refine AL.skip ?_ | refine AL.blk ?_)
    refine AL.ret ?_
    try simp only [AU]
    refine ⟨by simp, Fin.data (by simp [resAs, resA]; rfl) hbox rfl htok (fun _ h => h) (Nat.le_refl _) ?_⟩
    simp [packA, withinB, h]
  · simp [h]
    repeat (first | refine AL.seq ?_ | refine AL.block ?_ | refine AL.skip ?_ | refine AL.blk ?_)
    refine AL.ret ?_
    try simp only [AU]
    refine ⟨by simp, Fin.data (by simp [resAs, resA]; rfl) hbox rfl htok (fun _ h => h) (Nat.le_refl _) ?_⟩
    simp [packA, withinB, h]

theorem right_c (e : E) (nodes : Int) (tok : Nat → Bool) (nt : Nat) : DCall Tryz.prog 27 [.agg [I e.ty, I e.fr, I e.to], I nodes] tok nt (B (fitsB e nodes)) tok nt := by
  intro box nb
  refine ACalls.of_body Tryz.func27 rfl (by kernel_rfl) follows_Tryz (by kernel_rfl) (by simp [Tryz.ntmps27]) ?_
  intro hbox htok
  simp only at hbox htok
  apply AL.start
  repeat (first | refine AL.seq ?_ | refine AL.block ?_ | refine AL.skip ?_ | refine AL.blk ?_)
  refine AL.region follows_Tryz (Nat.le_refl _) (by kernel_rfl) ?_
  simp
  repeat (first | refine AL.seq ?_ | refine AL.block ?_ | refine AL.skip ?_ | refine AL.blk ?_)
  refine AL.region follows_Tryz (Nat.le_refl _) (by kernel_rfl) ?_
  simp
  refine Stop.of_d (kind_c _ _ _) ?_
  simp
  first | refine Gd.dt (fun h1 => ?_) (fun h1 => ?_) | refine Gd.df (fun h1 => ?_) (fun h1 => ?_) | refine Gd.t (fun h1 => ?_) (fun h1 => ?_) | refine Gd.f (fun h1 => ?_) (fun h1 => ?_)
  · simp [h1]
    first | refine Gd.dt (fun h2 => ?_) (fun h2 => ?_) | refine Gd.df (fun h2 => ?_) (fun h2 => ?_) | refine Gd.t (fun h2 => ?_) (fun h2 => ?_) | refine Gd.f (fun h2 => ?_) (fun h2 => ?_)
    · simp [h1, h2]
      first | refine Gd.dt (fun h3 => ?_) (fun h3 => ?_) | refine Gd.df (fun h3 => ?_) (fun h3 => ?_) | refine Gd.t (fun h3 => ?_) (fun h3 => ?_) | refine Gd.f (fun h3 => ?_) (fun h3 => ?_)
      · simp [h1, h2, h3]
        first | refine Gd.dt (fun h4 => ?_) (fun h4 => ?_) | refine Gd.df (fun h4 => ?_) (fun h4 => ?_) | refine Gd.t (fun h4 => ?_) (fun h4 => ?_) | refine Gd.f (fun h4 => ?_) (fun h4 => ?_)
        · simp [h1, h2, h3, h4]
          have k1 : e.fr ≤ nodes - 1 := by omega
          have k2 : (e.to < nodes) ↔ (e.to ≤ nodes - 1) := by omega
          repeat (first | refine AL.seq ?_ | refine AL.block ?_ | refine AL.skip ?_ | refine AL.blk ?_)
          refine AL.ret ?_
          try simp only [AU]
          refine ⟨by simp, Fin.data (by simp [resAs, resA]; rfl) hbox rfl htok (fun _ h => h) (Nat.le_refl _) ?_⟩
          simp [packA, fitsB, h1, h2, h3, h4, withinB, k1, k2]
          simp [withinB] at h1
          simp [h1]
        · simp [h1, h2, h3, h4]
          repeat (first | refine AL.seq ?_ | refine AL.block ?_ | refine AL.skip ?_ | refine AL.blk ?_)
          refine AL.ret ?_
          try simp only [AU]
          refine ⟨by simp, Fin.data (by simp [resAs, resA]; rfl) hbox rfl htok (fun _ h => h) (Nat.le_refl _) ?_⟩
          simp [packA, fitsB, h1, h2, h3, h4, withinB]
      · simp [h1, h2, h3]
        have k1 : ¬ e.fr ≤ nodes - 1 := by omega
        repeat (first | refine AL.seq ?_ | refine AL.block ?_ | refine AL.skip ?_ | refine AL.blk ?_)
        refine AL.ret ?_
        try simp only [AU]
        refine ⟨by simp, Fin.data (by simp [resAs, resA]; rfl) hbox rfl htok (fun _ h => h) (Nat.le_refl _) ?_⟩
        simp [packA, fitsB, h1, h2, h3, withinB, k1]
    · simp [h1, h2]
      repeat (first | refine AL.seq ?_ | refine AL.block ?_ | refine AL.skip ?_ | refine AL.blk ?_)
      refine AL.ret ?_
      try simp only [AU]
      refine ⟨by simp, Fin.data (by simp [resAs, resA]; rfl) hbox rfl htok (fun _ h => h) (Nat.le_refl _) ?_⟩
      simp [packA, fitsB, h1, h2, withinB]
  · simp [h1]
    repeat (first | refine AL.seq ?_ | refine AL.block ?_ | refine AL.skip ?_ | refine AL.blk ?_)
    refine AL.ret ?_
    try simp only [AU]
    refine ⟨by simp, Fin.data (by simp [resAs, resA]; rfl) hbox rfl htok (fun _ h => h) (Nat.le_refl _) ?_⟩
    simp [packA, fitsB, h1]

def st41a (g : Gr) (nb : Nat) (box : Nat → Option (List (List AV))) (tok : Nat → Bool) (nt : Nat) (i : Nat) : AState := ⟨tl [(1, .ptr (nb + 1) 0 0), (3, I i)], lb nb box [(1, [[.d (ints g.nodes), .d (AM.edges g.edges)]])], tok, nt⟩
def st41b (g : Gr) (nb : Nat) (box : Nat → Option (List (List AV))) (tok : Nat → Bool) (nt : Nat) (i : Nat) : AState := ⟨tl [(1, .ptr (nb + 1) 0 0), (4, I i)], lb nb box [(1, [[.d (ints g.nodes), .d (AM.edges g.edges)]])], tok, nt⟩

theorem anyB_take {α : Type} {p : α → Bool} {xs : List α} {i : Nat} (h : i < xs.length) (h2 : p xs[i] = true) : anyB p xs = true := List.any_eq_true.2 ⟨_, List.getElem_mem h, h2⟩
theorem anyB_all {α : Type} {p : α → Bool} {xs : List α} {i : Nat} (h : xs.length ≤ i) (h2 : ∀ x ∈ xs.take i, p x = false) : anyB p xs = false := by
  rw [List.take_of_length_le h] at h2
  exact List.any_eq_false.2 fun x hx => by simp [h2 x hx]
theorem anyB_step {α : Type} {p : α → Bool} {xs : List α} {i : Nat} (h : i < xs.length) (h1 : ∀ x ∈ xs.take i, p x = false) (h2 : p xs[i] = false) : ∀ x ∈ xs.take (i + 1), p x = false := by
  intro x hx
  rw [List.take_succ_eq_append_getElem h] at hx
  rcases List.mem_append.1 hx with hx | hx
  · exact h1 x hx
  · simp at hx; rw [hx]; exact h2

theorem valid05_c (g : Gr) (hg : g.Fit) (tok : Nat → Bool) (nt : Nat) : DCall Tryz.prog 9 [g.av] tok nt (I (validG g)) tok nt := by
  intro box nb
  have hn := hg.n
  have he := hg.e
  refine ACalls.of_body Tryz.func9 rfl (by kernel_rfl) follows_Tryz (by kernel_rfl) (by simp [Tryz.ntmps9]) ?_
  intro hbox htok
  simp only at hbox htok
  apply AL.start
  repeat (first | refine AL.seq ?_ | refine AL.block ?_ | refine AL.skip ?_ | refine AL.blk ?_)
  refine AL.region follows_Tryz (Nat.le_refl _) (by kernel_rfl) ?_
  simp
  repeat (first | refine AL.seq ?_ | refine AL.block ?_ | refine AL.skip ?_ | refine AL.blk ?_)
  refine AL.region follows_Tryz (Nat.le_refl _) (by kernel_rfl) ?_
  simp
  first | refine Gd.dt (fun h1 => ?_) (fun h1 => ?_) | refine Gd.df (fun h1 => ?_) (fun h1 => ?_) | refine Gd.t (fun h1 => ?_) (fun h1 => ?_) | refine Gd.f (fun h1 => ?_) (fun h1 => ?_)
  · simp [h1]
    repeat (first | refine AL.seq ?_ | refine AL.block ?_ | refine AL.skip ?_ | refine AL.blk ?_)
    refine AL.cond ?_
    simp
    repeat (first | refine AL.seq ?_ | refine AL.block ?_ | refine AL.skip ?_ | refine AL.blk ?_)
    refine AL.region follows_Tryz (Nat.le_refl _) (by kernel_rfl) ?_
    simp
    repeat (first | refine AL.seq ?_ | refine AL.block ?_ | refine AL.skip ?_ | refine AL.blk ?_)
    refine AL.ret ?_
    try simp only [AU]
    refine ⟨by simp, Fin.data (by simp [resAs, resA]; rfl) hbox rfl htok (fun _ h => h) (Nat.le_refl _) ?_⟩
    simp [packA, validG, show 40 < g.nodes.length by omega]
  · simp [h1]
    repeat (first | refine AL.seq ?_ | refine AL.block ?_ | refine AL.skip ?_ | refine AL.blk ?_)
    refine AL.cond ?_
    simp
    refine ⟨fun h2 => ?_, fun h2 => ?_⟩
    · repeat (first | refine AL.seq ?_ | refine AL.block ?_ | refine AL.skip ?_ | refine AL.blk ?_)
      refine AL.region follows_Tryz (Nat.le_refl _) (by kernel_rfl) ?_
      simp
      repeat (first | refine AL.seq ?_ | refine AL.block ?_ | refine AL.skip ?_ | refine AL.blk ?_)
      refine AL.ret ?_
      try simp only [AU]
      refine ⟨by simp, Fin.data (by simp [resAs, resA]; rfl) hbox rfl htok (fun _ h => h) (Nat.le_refl _) ?_⟩
      simp [packA, validG, show 80 < g.edges.length by omega]
    · have hn1 : ¬ 40 < g.nodes.length := by omega
      have hn2 : ¬ 80 < g.edges.length := by omega
      repeat (first | refine AL.seq ?_ | refine AL.block ?_ | refine AL.skip ?_ | refine AL.blk ?_)
      refine AL.region follows_Tryz (Nat.le_refl _) (by kernel_rfl) ?_
      simp
      repeat (first | refine AL.seq ?_ | refine AL.block ?_ | refine AL.skip ?_ | refine AL.blk ?_)
      refine AL.loopT (st41a g nb box tok nt) (fun i => i ≤ g.nodes.length ∧ ∀ x ∈ g.nodes.take i, (!withinB x 99) = false) (fun i => g.nodes.length - i) 0 ⟨Nat.zero_le _, by simp⟩ (Weaks.mk (Nat.le_refl _) rfl (by simp [ToL, lk]) (by simp [BoxL, lk])) ?_
      rintro i S ⟨hi, htk⟩ hS
      simp only [st41a] at hS
      subst hS
      have hw : IntKind.i64.wrap (↑i + 1) = ((i + 1 : Nat) : Int) := by rw [wrap_in (by omega) (by omega)]; rfl
      repeat (first | refine AL.seq ?_ | refine AL.block ?_ | refine AL.skip ?_ | refine AL.blk ?_)
      refine AL.region follows_Tryz (Nat.le_refl _) (by kernel_rfl) ?_
      simp
      repeat (first | refine AL.seq ?_ | refine AL.block ?_ | refine AL.skip ?_ | refine AL.blk ?_)
      refine AL.cond ?_
      simp
      refine ⟨fun hlt => ?_, fun hge => ?_⟩
      · repeat (first | refine AL.seq ?_ | refine AL.block ?_ | refine AL.skip ?_ | refine AL.blk ?_)
        refine AL.region follows_Tryz (Nat.le_refl _) (by kernel_rfl) ?_
        simp [hlt]
        refine Stop.of_d (kind_c _ _ _) ?_
        simp
        repeat (first | refine AL.seq ?_ | refine AL.block ?_ | refine AL.skip ?_ | refine AL.blk ?_)
        refine AL.cond ?_
        simp
        refine ⟨fun hb => ?_, fun hb => ?_⟩
        · repeat (first | refine AL.seq ?_ | refine AL.block ?_ | refine AL.skip ?_ | refine AL.blk ?_)
          refine AL.region follows_Tryz (Nat.le_refl _) (by kernel_rfl) ?_
          simp
          have h3 : anyB (fun n => !withinB n 99) g.nodes = true := anyB_take hlt (by simp [hb])
          repeat (first | refine AL.seq ?_ | refine AL.block ?_ | refine AL.skip ?_ | refine AL.blk ?_)
          refine AL.ret ?_
          try simp only [AU]
          refine ⟨by simp, Fin.data (by simp [resAs, resA]; rfl) hbox rfl htok (fun _ h => h) (Nat.le_refl _) ?_⟩
          simp [packA, validG, hn1, hn2, h3]
        · repeat (first | refine AL.seq ?_ | refine AL.block ?_ | refine AL.skip ?_ | refine AL.blk ?_)
          refine AL.region follows_Tryz (Nat.le_refl _) (by kernel_rfl) ?_
          simp [hw]
          repeat (first | refine AL.seq ?_ | refine AL.block ?_ | refine AL.skip ?_ | refine AL.blk ?_)
          refine AL.nil ?_
          refine ⟨i + 1, ⟨hlt, ?_⟩, by omega, Weaks.mk (Nat.le_refl _) rfl (by simp [ToL, lk]) (by simp [BoxL, lk])⟩
          have := anyB_step (p := fun n => !withinB n 99) hlt (by simpa using htk) (by simp [hb])
          simpa using this
      · repeat (first | refine AL.seq ?_ | refine AL.block ?_ | refine AL.skip ?_ | refine AL.blk ?_)
        refine AL.exit ?_
        simp only [AU, ↓reduceIte]
        have h3 : anyB (fun n => !withinB n 99) g.nodes = false := anyB_all hge (by simpa using htk)
        repeat (first | refine AL.seq ?_ | refine AL.block ?_ | refine AL.skip ?_ | refine AL.blk ?_)
        refine AL.region follows_Tryz (Nat.le_refl _) (by kernel_rfl) ?_
        simp
        repeat (first | refine AL.seq ?_ | refine AL.block ?_ | refine AL.skip ?_ | refine AL.blk ?_)
        refine AL.loopT (st41b g nb box tok nt) (fun i => i ≤ g.edges.length ∧ ∀ x ∈ g.edges.take i, (!fitsB x g.nodes.length) = false) (fun i => g.edges.length - i) 0 ⟨Nat.zero_le _, by simp⟩ (Weaks.mk (Nat.le_refl _) rfl (by simp [ToL, lk]) (by simp [BoxL, lk])) ?_
        rintro i S ⟨hi, htk⟩ hS
        simp only [st41b] at hS
        subst hS
        have hw : IntKind.i64.wrap (↑i + 1) = ((i + 1 : Nat) : Int) := by rw [wrap_in (by omega) (by omega)]; rfl
        repeat (first | refine AL.seq ?_ | refine AL.block ?_ | refine AL.skip ?_ | refine AL.blk ?_)
        refine AL.region follows_Tryz (Nat.le_refl _) (by kernel_rfl) ?_
        simp
        repeat (first | refine AL.seq ?_ | refine AL.block ?_ | refine AL.skip ?_ | refine AL.blk ?_)
        refine AL.cond ?_
        simp
        refine ⟨fun hlt => ?_, fun hge => ?_⟩
        · repeat (first | refine AL.seq ?_ | refine AL.block ?_ | refine AL.skip ?_ | refine AL.blk ?_)
          refine AL.region follows_Tryz (Nat.le_refl _) (by kernel_rfl) ?_
          simp [hlt]
          refine Stop.of_d (right_c g.edges[i] _ _ _) ?_
          simp
          repeat (first | refine AL.seq ?_ | refine AL.block ?_ | refine AL.skip ?_ | refine AL.blk ?_)
          refine AL.cond ?_
          simp
          refine ⟨fun hb => ?_, fun hb => ?_⟩
          · repeat (first | refine AL.seq ?_ | refine AL.block ?_ | refine AL.skip ?_ | refine AL.blk ?_)
            refine AL.region follows_Tryz (Nat.le_refl _) (by kernel_rfl) ?_
            simp
            have h4 : anyB (fun e => !fitsB e g.nodes.length) g.edges = true := anyB_take hlt (by simp [hb])
            repeat (first | refine AL.seq ?_ | refine AL.block ?_ | refine AL.skip ?_ | refine AL.blk ?_)
            refine AL.ret ?_
            try simp only [AU]
            refine ⟨by simp, Fin.data (by simp [resAs, resA]; rfl) hbox rfl htok (fun _ h => h) (Nat.le_refl _) ?_⟩
            simp [packA, validG, hn1, hn2, h3, h4]
          · repeat (first | refine AL.seq ?_ | refine AL.block ?_ | refine AL.skip ?_ | refine AL.blk ?_)
            refine AL.region follows_Tryz (Nat.le_refl _) (by kernel_rfl) ?_
            simp [hw]
            repeat (first | refine AL.seq ?_ | refine AL.block ?_ | refine AL.skip ?_ | refine AL.blk ?_)
            refine AL.nil ?_
            refine ⟨i + 1, ⟨hlt, ?_⟩, by omega, Weaks.mk (Nat.le_refl _) rfl (by simp [ToL, lk]) (by simp [BoxL, lk])⟩
            have := anyB_step (p := fun e => !fitsB e g.nodes.length) hlt (by simpa using htk) (by simp [hb])
            simpa using this
        · repeat (first | refine AL.seq ?_ | refine AL.block ?_ | refine AL.skip ?_ | refine AL.blk ?_)
          refine AL.exit ?_
          simp only [AU, ↓reduceIte]
          have h4 : anyB (fun e => !fitsB e g.nodes.length) g.edges = false := anyB_all hge (by simpa using htk)
          repeat (first | refine AL.seq ?_ | refine AL.block ?_ | refine AL.skip ?_ | refine AL.blk ?_)
          refine AL.region follows_Tryz (Nat.le_refl _) (by kernel_rfl) ?_
          simp
          repeat (first | refine AL.seq ?_ | refine AL.block ?_ | refine AL.skip ?_ | refine AL.blk ?_)
          refine AL.ret ?_
          try simp only [AU]
          refine ⟨by simp, Fin.data (by simp [resAs, resA]; rfl) hbox rfl htok (fun _ h => h) (Nat.le_refl _) ?_⟩
          simp [packA, validG, hn1, hn2, h3, h4]

def fewG (g : Gr) : Bool := decide ((g.nodes.length : Int) ≤ 45) && decide ((g.edges.length : Int) ≤ 90)

theorem few05_c (g : Gr) (tok : Nat → Bool) (nt : Nat) : DCall Tryz.prog 16 [g.av] tok nt (B (fewG g)) tok nt := by
  intro box nb
  refine ACalls.of_body Tryz.func16 rfl (by kernel_rfl) follows_Tryz (by kernel_rfl) (by simp [Tryz.ntmps16]) ?_
  intro hbox htok
  simp only at hbox htok
  apply AL.start
  repeat (first | refine AL.seq ?_ | refine AL.block ?_ | refine AL.skip ?_ | refine AL.blk ?_)
  refine AL.region follows_Tryz (Nat.le_refl _) (by kernel_rfl) ?_
  simp
  repeat (first | refine AL.seq ?_ | refine AL.block ?_ | refine AL.skip ?_ | refine AL.blk ?_)
  refine AL.region follows_Tryz (Nat.le_refl _) (by kernel_rfl) ?_
  simp
  first | refine Gd.dt (fun h1 => ?_) (fun h1 => ?_) | refine Gd.df (fun h1 => ?_) (fun h1 => ?_) | refine Gd.t (fun h1 => ?_) (fun h1 => ?_) | refine Gd.f (fun h1 => ?_) (fun h1 => ?_)
  · simp [h1]
    repeat (first | refine AL.seq ?_ | refine AL.block ?_ | refine AL.skip ?_ | refine AL.blk ?_)
    refine AL.ret ?_
    try simp only [AU]
    refine ⟨by simp, Fin.data (by simp [resAs, resA]; rfl) hbox rfl htok (fun _ h => h) (Nat.le_refl _) ?_⟩
    simp [packA, fewG, h1]
  · simp [h1]
    repeat (first | refine AL.seq ?_ | refine AL.block ?_ | refine AL.skip ?_ | refine AL.blk ?_)
    refine AL.ret ?_
    try simp only [AU]
    refine ⟨by simp, Fin.data (by simp [resAs, resA]; rfl) hbox rfl htok (fun _ h => h) (Nat.le_refl _) ?_⟩
    simp [packA, fewG, h1]

theorem fewG_fit {g : Gr} (h : fewG g = true) : g.Fit := by
  simp [fewG] at h
  exact ⟨by omega, by omega⟩

end Go.AM
namespace Go.AM
open Go Go.Proofs
set_option linter.unusedSimpArgs false
set_option linter.unusedVariables false

/-! ### Overlaps and quotients as data -/
structure Ov where
  g : Gr
  l : Mo
  r : Mo
  deriving DecidableEq, Inhabited

abbrev Ov.cells (o : Ov) : List D := [ints o.g.nodes, AM.edges o.g.edges, ints o.l.nodes, ints o.l.edges, ints o.r.nodes, ints o.r.edges]
abbrev Ov.av (o : Ov) : AV := .agg [.d (ints o.g.nodes), .d (AM.edges o.g.edges), .d (ints o.l.nodes), .d (ints o.l.edges), .d (ints o.r.nodes), .d (ints o.r.edges)]
abbrev ovs (l : List Ov) : D := .sl 6 (l.map Ov.cells)
structure Mo.Fit (m : Mo) : Prop where
  n : m.nodes.length ≤ 1000000
  e : m.edges.length ≤ 1000000

/-! ### SameInts, Same, SameOverlap -/

structure Ov.Fit (o : Ov) : Prop where
  g : o.g.Fit
  l : o.l.Fit
  r : o.r.Fit

end Go.AM
namespace Go.AM
open Go Go.Proofs
set_option linter.unusedSimpArgs false
set_option linter.unusedVariables false

/-! ### SameOverlaps, SameQuotients -/
/-! ### in -/
end Go.AM
namespace Go.AM
open Go Go.Proofs
set_option linter.unusedSimpArgs false
set_option linter.unusedVariables false

/-! ### Finest, Of, Copied; numbers, Identity -/
def iota (n : Nat) : List Int := (List.range n).map fun (i : Nat) => (i : Int)
theorem iota_succ (n : Nat) : iota (n + 1) = iota n ++ [(n : Int)] := by simp [iota, List.range_succ]
@[simp] theorem iota_length (n : Nat) : (iota n).length = n := by simp [iota]
@[simp] theorem iota_zero : iota 0 = [] := rfl

structure Acc where
  i : Nat
  own : Own
  tok : Nat → Bool
  nt : Nat

def st72 (n : Nat) (nb : Nat) (box : Nat → Option (List (List AV))) (a : Acc) : AState := ⟨tl [(0, I n), (3, .osl 1 (rI (iota a.i)) a.own), (4, I a.i)], lb nb box [], a.tok, a.nt⟩

theorem finest_c (n : Nat) (hn : n ≤ 1000000) (tok : Nat → Bool) (nt : Nat) : DCall Tryz.prog 123 [I n] tok nt (.d (ints (iota n))) tok nt := by
  intro box nb
  refine ACalls.of_body Tryz.func123 rfl (by kernel_rfl) follows_Tryz (by kernel_rfl) (by simp [Tryz.ntmps123]) ?_
  intro hbox htok
  simp only at hbox htok
  apply AL.start
  repeat (first | refine AL.seq ?_ | refine AL.block ?_ | refine AL.skip ?_ | refine AL.blk ?_)
  refine AL.region follows_Tryz (Nat.le_refl _) (by kernel_rfl) ?_
  simp
  repeat (first | refine AL.seq ?_ | refine AL.block ?_ | refine AL.skip ?_ | refine AL.blk ?_)
  refine AL.region follows_Tryz (Nat.le_refl _) (by kernel_rfl) ?_
  simp
  repeat (first | refine AL.seq ?_ | refine AL.block ?_ | refine AL.skip ?_ | refine AL.blk ?_)
  refine AL.region follows_Tryz (Nat.le_refl _) (by kernel_rfl) ?_
  simp
  repeat (first | refine AL.seq ?_ | refine AL.block ?_ | refine AL.skip ?_ | refine AL.blk ?_)
  refine AL.loopT (st72 n nb box) (fun a => a.i ≤ n ∧ TK tok nt a.tok a.nt [a.own]) (fun a => n - a.i) ⟨0, .full, tok, nt⟩ ⟨Nat.zero_le _, (TK.start htok).full⟩ (Weaks.mk (Nat.le_refl _) rfl (by simp [ToL]) trivial) ?_
  rintro ⟨i, own, tok', nt'⟩ S ⟨hi, htk⟩ hS
  simp only [st72] at hS hi htk
  subst hS
  have hw : IntKind.i64.wrap (↑i + 1) = ((i + 1 : Nat) : Int) := by rw [wrap_in (by omega) (by omega)]; rfl
  repeat (first | refine AL.seq ?_ | refine AL.block ?_ | refine AL.skip ?_ | refine AL.blk ?_)
  refine AL.region follows_Tryz (Nat.le_refl _) (by kernel_rfl) ?_
  simp
  repeat (first | refine AL.seq ?_ | refine AL.block ?_ | refine AL.skip ?_ | refine AL.blk ?_)
  refine AL.cond ?_
  simp
  refine ⟨fun hlt => ?_, fun hge => ?_⟩
  · repeat (first | refine AL.seq ?_ | refine AL.block ?_ | refine AL.skip ?_ | refine AL.blk ?_)
    refine AL.region follows_Tryz (Nat.le_refl _) (by kernel_rfl) ?_
    simp
    refine ⟨⟨by omega, htk.live⟩, ?_⟩
    repeat (first | refine AL.seq ?_ | refine AL.block ?_ | refine AL.skip ?_ | refine AL.blk ?_)
    refine AL.region follows_Tryz (Nat.le_refl _) (by kernel_rfl) ?_
    simp [hw]
    repeat (first | refine AL.seq ?_ | refine AL.block ?_ | refine AL.skip ?_ | refine AL.blk ?_)
    refine AL.nil ?_
    refine ⟨⟨i + 1, _, _, _⟩, ⟨hlt, htk.app⟩, by simp; omega, Weaks.mk htk.app.le rfl (by simp [ToL, iota_succ]) trivial⟩
  · repeat (first | refine AL.seq ?_ | refine AL.block ?_ | refine AL.skip ?_ | refine AL.blk ?_)
    refine AL.exit ?_
    simp only [AU, ↓reduceIte]
    repeat (first | refine AL.seq ?_ | refine AL.block ?_ | refine AL.skip ?_ | refine AL.blk ?_)
    refine AL.region follows_Tryz (Nat.le_refl _) (by kernel_rfl) ?_
    simp
    have : i = n := by omega
    subst this
    repeat (first | refine AL.seq ?_ | refine AL.block ?_ | refine AL.skip ?_ | refine AL.blk ?_)
    refine AL.ret ?_
    try simp only [AU]
    refine ⟨by simp, Fin.data (by simp [resAs, resA]; rfl) hbox rfl htok htk.old htk.le ?_⟩
    simp [packA, ]

theorem copied_c (g : Gr) (hg : g.Fit) (tok : Nat → Bool) (nt : Nat) : DCall Tryz.prog 11 [g.av] tok nt (.agg [.osl 1 (rI g.nodes) (.tok nt), .osl 3 (rE g.edges) (.tok (nt + 1))]) (upd (upd tok nt true) (nt + 1) true) (nt + 2) := by
  intro box nb
  have h1 := hg.n
  have h2 := hg.e
  refine ACalls.of_body Tryz.func11 rfl (by kernel_rfl) follows_Tryz (by kernel_rfl) (by simp [Tryz.ntmps11]) ?_
  intro hbox htok
  simp only at hbox htok
  apply AL.start
  repeat (first | refine AL.seq ?_ | refine AL.block ?_ | refine AL.skip ?_ | refine AL.blk ?_)
  refine AL.region follows_Tryz (Nat.le_refl _) (by kernel_rfl) ?_
  simp
  repeat (first | refine AL.seq ?_ | refine AL.block ?_ | refine AL.skip ?_ | refine AL.blk ?_)
  refine AL.region follows_Tryz (Nat.le_refl _) (by kernel_rfl) ?_
  simp
  refine ⟨by omega, by omega, ?_⟩
  repeat (first | refine AL.seq ?_ | refine AL.block ?_ | refine AL.skip ?_ | refine AL.blk ?_)
  refine AL.ret ?_
  try simp only [AU]
  refine ⟨by simp, Fin.own (by simp [resAs, resA]; rfl) hbox rfl (by simp) ?_⟩
  simp [packA]

def upto (n i : Nat) : List Int := iota i ++ List.replicate (n - i) 0
@[simp] theorem upto_length {n i : Nat} (h : i ≤ n) : (upto n i).length = n := by simp [upto]; omega
@[simp] theorem upto_zero (n : Nat) : upto n 0 = List.replicate n 0 := by simp [upto]
@[simp] theorem upto_all (n : Nat) : upto n n = iota n := by simp [upto]

def st101 (n : Nat) (nb : Nat) (box : Nat → Option (List (List AV))) (tok : Nat → Bool) (nt : Nat) (i : Nat) : AState := ⟨tl [(3, .msl (nb + 6) 0 n 1), (8, I n), (9, I i)], lb nb box [(6, rowsI (upto n i))], tok, nt⟩

theorem iota_set {n i : Nat} (h : i < n) : (upto n i).set i (i : Int) = upto n (i + 1) := by
  unfold upto
  rw [List.set_append]
  simp only [iota_length, Nat.lt_irrefl, ↓reduceIte, Nat.sub_self, iota_succ, List.append_assoc]
  have : n - i = (n - (i + 1)) + 1 := by omega
  rw [this, List.replicate_succ]
  simp

theorem numbers_c (n : Nat) (hn : n ≤ 1000000) (tok : Nat → Bool) (nt : Nat) : DCall Tryz.prog 125 [I n] tok nt (.d (ints (iota n))) tok nt := by
  intro box nb
  refine ACalls.of_body Tryz.func125 rfl (by kernel_rfl) follows_Tryz (by kernel_rfl) (by simp [Tryz.ntmps125]) ?_
  intro hbox htok
  simp only at hbox htok
  apply AL.start
  repeat (first | refine AL.seq ?_ | refine AL.block ?_ | refine AL.skip ?_ | refine AL.blk ?_)
  refine AL.region follows_Tryz (Nat.le_refl _) (by kernel_rfl) ?_
  simp
  repeat (first | refine AL.seq ?_ | refine AL.block ?_ | refine AL.skip ?_ | refine AL.blk ?_)
  refine AL.region follows_Tryz (Nat.le_refl _) (by kernel_rfl) ?_
  simp
  refine ⟨by omega, ?_⟩
  repeat (first | refine AL.seq ?_ | refine AL.block ?_ | refine AL.skip ?_ | refine AL.blk ?_)
  refine AL.region follows_Tryz (Nat.le_refl _) (by kernel_rfl) ?_
  simp
  repeat (first | refine AL.seq ?_ | refine AL.block ?_ | refine AL.skip ?_ | refine AL.blk ?_)
  refine AL.loopT (st101 n nb box tok nt) (fun i => i ≤ n) (fun i => n - i) 0 (Nat.zero_le _) (Weaks.mk (Nat.le_refl _) rfl (by simp [ToL, lk]) (by simp [BoxL, lk])) ?_
  rintro i S hi hS
  simp only [st101] at hS
  subst hS
  have hw : IntKind.i64.wrap (↑i + 1) = ((i + 1 : Nat) : Int) := by rw [wrap_in (by omega) (by omega)]; rfl
  repeat (first | refine AL.seq ?_ | refine AL.block ?_ | refine AL.skip ?_ | refine AL.blk ?_)
  refine AL.region follows_Tryz (Nat.le_refl _) (by kernel_rfl) ?_
  simp
  repeat (first | refine AL.seq ?_ | refine AL.block ?_ | refine AL.skip ?_ | refine AL.blk ?_)
  refine AL.cond ?_
  simp
  refine ⟨fun hlt => ?_, fun hge => ?_⟩
  · repeat (first | refine AL.seq ?_ | refine AL.block ?_ | refine AL.skip ?_ | refine AL.blk ?_)
    refine AL.region follows_Tryz (Nat.le_refl _) (by kernel_rfl) ?_
    simp
    repeat (first | refine AL.seq ?_ | refine AL.block ?_ | refine AL.skip ?_ | refine AL.blk ?_)
    refine AL.region follows_Tryz (Nat.le_refl _) (by kernel_rfl) ?_
    simp [hlt, hi]
    repeat (first | refine AL.seq ?_ | refine AL.block ?_ | refine AL.skip ?_ | refine AL.blk ?_)
    refine AL.region follows_Tryz (Nat.le_refl _) (by kernel_rfl) ?_
    simp [hw]
    repeat (first | refine AL.seq ?_ | refine AL.block ?_ | refine AL.skip ?_ | refine AL.blk ?_)
    refine AL.nil ?_
    refine ⟨i + 1, hlt, by omega, Weaks.mk (Nat.le_refl _) rfl (by simp [ToL, lk]) (by simp [BoxL, lk, iota_set hlt])⟩
  · repeat (first | refine AL.seq ?_ | refine AL.block ?_ | refine AL.skip ?_ | refine AL.blk ?_)
    refine AL.exit ?_
    simp only [AU, ↓reduceIte]
    have : i = n := by omega
    subst this
    refine AL.weak (Weaks.frz (l' := [(3, .d (ints (iota i)))]) (loc' := []) 6 1 (rI (iota i)) (Nat.le_refl _) rfl (by simp [lk, rowsI_eq]) (by simp [lk]) (by simp) (by simp [ToL]) (by simp [BoxL])) ?_
    repeat (first | refine AL.seq ?_ | refine AL.block ?_ | refine AL.skip ?_ | refine AL.blk ?_)
    refine AL.region follows_Tryz (Nat.le_refl _) (by kernel_rfl) ?_
    simp
    repeat (first | refine AL.seq ?_ | refine AL.block ?_ | refine AL.skip ?_ | refine AL.blk ?_)
    refine AL.ret ?_
    try simp only [AU]
    refine ⟨by simp, Fin.data (by simp [resAs, resA]; rfl) hbox rfl htok (fun _ h => h) (Nat.le_refl _) ?_⟩
    simp [packA]
end Go.AM
namespace Go.AM
open Go Go.Proofs
set_option linter.unusedSimpArgs false
set_option linter.unusedVariables false

/-! ### Identity -/
def idM (g : Gr) : Mo := ⟨iota g.nodes.length, iota g.edges.length⟩

theorem identity_c (g : Gr) (hg : g.Fit) (hv : validG g = 0) (tok : Nat → Bool) (nt : Nat) : DCall Tryz.prog 121 [g.av] tok nt (.tup [(idM g).av, I 0]) tok nt := by
  intro box nb
  refine ACalls.of_body Tryz.func121 rfl (by kernel_rfl) follows_Tryz (by kernel_rfl) (by simp [Tryz.ntmps121]) ?_
  intro hbox htok
  simp only at hbox htok
  apply AL.start
  repeat (first | refine AL.seq ?_ | refine AL.block ?_ | refine AL.skip ?_ | refine AL.blk ?_)
  refine AL.region follows_Tryz (Nat.le_refl _) (by kernel_rfl) ?_
  simp
  repeat (first | refine AL.seq ?_ | refine AL.block ?_ | refine AL.skip ?_ | refine AL.blk ?_)
  refine AL.region follows_Tryz (Nat.le_refl _) (by kernel_rfl) ?_
  simp
  refine Stop.of_d (graphValid_c g hg _ _) ?_
  simp
  repeat (first | refine AL.seq ?_ | refine AL.block ?_ | refine AL.skip ?_ | refine AL.blk ?_)
  refine AL.region follows_Tryz (Nat.le_refl _) (by kernel_rfl) ?_
  simp [hv]
  repeat (first | refine AL.seq ?_ | refine AL.block ?_ | refine AL.skip ?_ | refine AL.blk ?_)
  refine AL.cond ?_
  simp
  repeat (first | refine AL.seq ?_ | refine AL.block ?_ | refine AL.skip ?_ | refine AL.blk ?_)
  refine AL.region follows_Tryz (Nat.le_refl _) (by kernel_rfl) ?_
  simp
  refine Stop.of_d (numbers_c g.nodes.length hg.n _ _) ?_
  simp
  refine Stop.of_d (numbers_c g.edges.length hg.e _ _) ?_
  simp
  repeat (first | refine AL.seq ?_ | refine AL.block ?_ | refine AL.skip ?_ | refine AL.blk ?_)
  refine AL.ret ?_
  try simp only [AU]
  refine ⟨by simp, Fin.data (by simp [resAs, resA]; rfl) hbox rfl htok (fun _ h => h) (Nat.le_refl _) ?_⟩
  simp [packA, idM]

/-! ### glued, overlap -/
def glueN (an bn l : List Int) : Nat → List Int × List Int
  | 0 => (an, [])
  | i + 1 => if l.getD i 0 < 0 then ((glueN an bn l i).1 ++ [bn.getD i 0], (glueN an bn l i).2 ++ [((glueN an bn l i).1.length : Int)]) else ((glueN an bn l i).1, (glueN an bn l i).2 ++ [l.getD i 0])

def glueE (ae be : List E) (rn l : List Int) : Nat → List E × List Int
  | 0 => (ae, [])
  | i + 1 => if l.getD i 0 < 0 then ((glueE ae be rn l i).1 ++ [⟨(be.getD i default).ty, rn.getD (be.getD i default).fr.toNat 0, rn.getD (be.getD i default).to.toNat 0⟩], (glueE ae be rn l i).2 ++ [((glueE ae be rn l i).1.length : Int)])
    else ((glueE ae be rn l i).1, (glueE ae be rn l i).2 ++ [l.getD i 0])

def glue (a b : Gr) (nodes edges : List Int) : Ov :=
  let n := glueN a.nodes b.nodes nodes nodes.length
  let e := glueE a.edges b.edges n.2 edges edges.length
  ⟨⟨n.1, e.1⟩, idM a, ⟨n.2, e.2⟩⟩

theorem glueN_len (an bn l : List Int) : ∀ i, (glueN an bn l i).1.length ≤ an.length + i ∧ (glueN an bn l i).2.length = i
  | 0 => by simp [glueN]
  | i + 1 => by
    have := glueN_len an bn l i
    simp only [glueN]
    split <;> simp <;> omega

theorem glueE_len (ae be : List E) (rn l : List Int) : ∀ i, (glueE ae be rn l i).1.length ≤ ae.length + i ∧ (glueE ae be rn l i).2.length = i
  | 0 => by simp [glueE]
  | i + 1 => by
    have := glueE_len ae be rn l i
    simp only [glueE]
    split <;> simp <;> omega

structure Acc4 where
  i : Nat
  o1 : Own
  o2 : Own
  o3 : Own
  o4 : Own
  tok : Nat → Bool
  nt : Nat

def st58a (a b : Gr) (l k : List Int) (nb : Nat) (box : Nat → Option (List (List AV))) (x : Acc4) : AState :=
  ⟨tl [(2, .d (ints l)), (3, .d (ints k)), (4, .ptr (nb + 4) 0 0), (5, .ptr (nb + 5) 0 0), (8, .ptr (nb + 8) 0 0), (11, .ptr (nb + 11) 0 0), (31, .d (ints l)), (32, I l.length), (33, I x.i)],
    lb nb box [(4, [[.d (ints a.nodes), .d (AM.edges a.edges)]]), (5, [[.d (ints b.nodes), .d (AM.edges b.edges)]]), (8, [[.bot, .bot, .bot, .bot, .bot, .bot]]),
      (11, [[.osl 1 (rI (glueN a.nodes b.nodes l x.i).1) x.o1, .osl 3 (rE a.edges) x.o2, .d (ints (idM a).nodes), .d (ints (idM a).edges), .osl 1 (rI (glueN a.nodes b.nodes l x.i).2) x.o3, .osl 1 [] x.o4]])], x.tok, x.nt⟩

structure Acc2 where
  i : Nat
  o1 : Own
  o2 : Own
  tok : Nat → Bool
  nt : Nat

def st58b (a b : Gr) (l k : List Int) (nb : Nat) (box : Nat → Option (List (List AV))) (x : Acc2) : AState :=
  ⟨tl [(5, .ptr (nb + 5) 0 0), (8, .ptr (nb + 8) 0 0), (11, .ptr (nb + 11) 0 0), (65, .d (ints k)), (66, I k.length), (67, I x.i)],
    lb nb box [(5, [[.d (ints b.nodes), .d (AM.edges b.edges)]]), (8, [[.bot, .bot, .bot, .bot, .bot, .bot]]),
      (11, [[.d (ints (glueN a.nodes b.nodes l l.length).1), .osl 3 (rE (glueE a.edges b.edges (glueN a.nodes b.nodes l l.length).2 k x.i).1) x.o1, .d (ints (idM a).nodes), .d (ints (idM a).edges), .d (ints (glueN a.nodes b.nodes l l.length).2), .osl 1 (rI (glueE a.edges b.edges (glueN a.nodes b.nodes l l.length).2 k x.i).2) x.o2]])], x.tok, x.nt⟩

theorem glued_c (a b : Gr) (l k : List Int) (ha : a.Fit) (hva : validG a = 0) (hl : l.length ≤ b.nodes.length) (hk : k.length ≤ b.edges.length) (hlb : l.length ≤ 1000000) (hkb : k.length ≤ 1000000)
    (hx : ∀ i (h : i < k.length) (h2 : i < b.edges.length), k[i] < 0 → 0 ≤ b.edges[i].fr ∧ b.edges[i].fr < l.length ∧ 0 ≤ b.edges[i].to ∧ b.edges[i].to < l.length) (tok : Nat → Bool) (nt : Nat) :
    DCall Tryz.prog 113 [a.av, b.av, .d (ints l), .d (ints k)] tok nt (glue a b l k).av tok nt := by
  intro box nb
  have han := ha.n
  have hae := ha.e
  refine ACalls.of_body Tryz.func113 rfl (by kernel_rfl) follows_Tryz (by kernel_rfl) (by simp [Tryz.ntmps113]) ?_
  intro hbox htok
  simp only at hbox htok
  apply AL.start
  repeat (first | refine AL.seq ?_ | refine AL.block ?_ | refine AL.skip ?_ | refine AL.blk ?_)
  refine AL.region follows_Tryz (Nat.le_refl _) (by kernel_rfl) ?_
  simp
  repeat (first | refine AL.seq ?_ | refine AL.block ?_ | refine AL.skip ?_ | refine AL.blk ?_)
  refine AL.region follows_Tryz (Nat.le_refl _) (by kernel_rfl) ?_
  simp
  refine Stop.of_d (identity_c a ha hva _ _) ?_
  simp
  repeat (first | refine AL.seq ?_ | refine AL.block ?_ | refine AL.skip ?_ | refine AL.blk ?_)
  refine AL.region follows_Tryz (Nat.le_refl _) (by kernel_rfl) ?_
  simp
  refine Stop.of_d (clone_c a.nodes han _ _) ?_
  simp
  refine Stop.of_d (cloneE_c a.edges hae _ _) ?_
  simp
  repeat (first | refine AL.seq ?_ | refine AL.block ?_ | refine AL.skip ?_ | refine AL.blk ?_)
  refine AL.region follows_Tryz (Nat.le_refl _) (by kernel_rfl) ?_
  simp
  repeat (first | refine AL.seq ?_ | refine AL.block ?_ | refine AL.skip ?_ | refine AL.blk ?_)
  have htk0 : TK tok nt (upd (upd tok nt true) (nt + 1) true) (nt + 2) [.tok nt, .tok (nt + 1), .full, .full] := ((TK.start htok).full.app.full.app.swap.full.full).perm (List.perm_append_comm (l₁ := [Own.full, Own.full]) (l₂ := [Own.tok nt, Own.tok (nt + 1)]))
  refine AL.loopT (st58a a b l k nb box) (fun x => x.i ≤ l.length ∧ TK tok nt x.tok x.nt [x.o1, x.o2, x.o3, x.o4]) (fun x => l.length - x.i) ⟨0, .tok nt, .tok (nt + 1), .full, .full, _, _⟩ ⟨Nat.zero_le _, htk0⟩ (Weaks.mk htk0.le rfl (by simp [ToL, lk]) (by simp [BoxL, lk, glueN, idM])) ?_
  rintro ⟨i, o1, o2, o3, o4, tok', nt'⟩ S ⟨hi, htk⟩ hS
  simp only [st58a] at hS hi htk
  subst hS
  have hw : IntKind.i64.wrap (↑i + 1) = ((i + 1 : Nat) : Int) := by rw [wrap_in (by omega) (by omega)]; rfl
  have hln := glueN_len a.nodes b.nodes l i
  repeat (first | refine AL.seq ?_ | refine AL.block ?_ | refine AL.skip ?_ | refine AL.blk ?_)
  refine AL.region follows_Tryz (Nat.le_refl _) (by kernel_rfl) ?_
  simp
  repeat (first | refine AL.seq ?_ | refine AL.block ?_ | refine AL.skip ?_ | refine AL.blk ?_)
  refine AL.cond ?_
  simp
  refine ⟨fun hlt => ?_, fun hge => ?_⟩
  · have hlb : i < b.nodes.length := by omega
    repeat (first | refine AL.seq ?_ | refine AL.block ?_ | refine AL.skip ?_ | refine AL.blk ?_)
    refine AL.region follows_Tryz (Nat.le_refl _) (by kernel_rfl) ?_
    simp [hlt]
    repeat (first | refine AL.seq ?_ | refine AL.block ?_ | refine AL.skip ?_ | refine AL.blk ?_)
    refine AL.region follows_Tryz (Nat.le_refl _) (by kernel_rfl) ?_
    simp
    repeat (first | refine AL.seq ?_ | refine AL.block ?_ | refine AL.skip ?_ | refine AL.blk ?_)
    refine AL.cond ?_
    simp
    refine ⟨fun hneg => ?_, fun hpos => ?_⟩
    · repeat (first | refine AL.seq ?_ | refine AL.block ?_ | refine AL.skip ?_ | refine AL.blk ?_)
      refine AL.region follows_Tryz (Nat.le_refl _) (by kernel_rfl) ?_
      simp
      repeat (first | refine AL.seq ?_ | refine AL.block ?_ | refine AL.skip ?_ | refine AL.blk ?_)
      refine AL.region follows_Tryz (Nat.le_refl _) (by kernel_rfl) ?_
      simp [hlb]
      refine ⟨⟨by omega, htk.live⟩, ?_⟩
      have htk1 := htk.app
      repeat (first | refine AL.seq ?_ | refine AL.block ?_ | refine AL.skip ?_ | refine AL.blk ?_)
      refine AL.region follows_Tryz (Nat.le_refl _) (by kernel_rfl) ?_
      simp
      refine ⟨⟨by omega, by simpa using htk1.pick3.live⟩, ?_⟩
      have htk2 := htk1.pick3.app.put3
      repeat (first | refine AL.seq ?_ | refine AL.block ?_ | refine AL.skip ?_ | refine AL.blk ?_)
      refine AL.region follows_Tryz (Nat.le_refl _) (by kernel_rfl) ?_
      simp [hw]
      repeat (first | refine AL.seq ?_ | refine AL.block ?_ | refine AL.skip ?_ | refine AL.blk ?_)
      refine AL.nil ?_
      have hg : l.getD i 0 = l[i] := by simp [hlt]
      have hgb : b.nodes.getD i 0 = b.nodes[i] := by simp [hlb]
      refine ⟨⟨i + 1, _, _, _, _, _, _⟩, ⟨hlt, htk2⟩, by simp; omega, Weaks.mk htk2.le rfl (by simp [ToL, lk]) (by simp [BoxL, lk, glueN, hlt, hlb, hneg])⟩
    · repeat (first | refine AL.seq ?_ | refine AL.block ?_ | refine AL.skip ?_ | refine AL.blk ?_)
      refine AL.region follows_Tryz (Nat.le_refl _) (by kernel_rfl) ?_
      simp
      refine ⟨⟨by omega, htk.pick3.live⟩, ?_⟩
      have htk2 := htk.pick3.app.put3
      repeat (first | refine AL.seq ?_ | refine AL.block ?_ | refine AL.skip ?_ | refine AL.blk ?_)
      refine AL.region follows_Tryz (Nat.le_refl _) (by kernel_rfl) ?_
      simp [hw]
      repeat (first | refine AL.seq ?_ | refine AL.block ?_ | refine AL.skip ?_ | refine AL.blk ?_)
      refine AL.nil ?_
      refine ⟨⟨i + 1, _, _, _, _, _, _⟩, ⟨hlt, htk2⟩, by simp; omega, Weaks.mk htk2.le rfl (by simp [ToL, lk]) (by simp [BoxL, lk, glueN, hlt, hlb, show ¬ l[i] < 0 by omega])⟩
  · repeat (first | refine AL.seq ?_ | refine AL.block ?_ | refine AL.skip ?_ | refine AL.blk ?_)
    refine AL.exit ?_
    simp only [AU, ↓reduceIte]
    have : i = l.length := by omega
    subst this
    repeat (first | refine AL.seq ?_ | refine AL.block ?_ | refine AL.skip ?_ | refine AL.blk ?_)
    refine AL.region follows_Tryz (Nat.le_refl _) (by kernel_rfl) ?_
    simp
    repeat (first | refine AL.seq ?_ | refine AL.block ?_ | refine AL.skip ?_ | refine AL.blk ?_)
    have htk2 := htk.tail.swap.tail
    refine AL.loopT (st58b a b l k nb box) (fun x => x.i ≤ k.length ∧ TK tok nt x.tok x.nt [x.o1, x.o2]) (fun x => k.length - x.i) ⟨0, o2, o4, tok', nt'⟩ ⟨Nat.zero_le _, htk2⟩ (Weaks.mk htk2.le rfl (by simp [ToL, lk]) (by simp [BoxL, lk, glueE])) ?_
    rintro ⟨i, o1, o2, tok', nt'⟩ S ⟨hi, htk⟩ hS
    simp only [st58b] at hS hi htk
    subst hS
    have hw : IntKind.i64.wrap (↑i + 1) = ((i + 1 : Nat) : Int) := by rw [wrap_in (by omega) (by omega)]; rfl
    generalize hrn : (glueN a.nodes b.nodes l l.length).2 = rn at *
    have hrl : rn.length = l.length := hln.2
    have hle := glueE_len a.edges b.edges rn k i
    repeat (first | refine AL.seq ?_ | refine AL.block ?_ | refine AL.skip ?_ | refine AL.blk ?_)
    refine AL.region follows_Tryz (Nat.le_refl _) (by kernel_rfl) ?_
    simp
    repeat (first | refine AL.seq ?_ | refine AL.block ?_ | refine AL.skip ?_ | refine AL.blk ?_)
    refine AL.cond ?_
    simp
    refine ⟨fun hlt => ?_, fun hge => ?_⟩
    · have hlb : i < b.edges.length := by omega
      repeat (first | refine AL.seq ?_ | refine AL.block ?_ | refine AL.skip ?_ | refine AL.blk ?_)
      refine AL.region follows_Tryz (Nat.le_refl _) (by kernel_rfl) ?_
      simp [hlt]
      repeat (first | refine AL.seq ?_ | refine AL.block ?_ | refine AL.skip ?_ | refine AL.blk ?_)
      refine AL.region follows_Tryz (Nat.le_refl _) (by kernel_rfl) ?_
      simp
      repeat (first | refine AL.seq ?_ | refine AL.block ?_ | refine AL.skip ?_ | refine AL.blk ?_)
      refine AL.cond ?_
      simp
      refine ⟨fun hneg => ?_, fun hpos => ?_⟩
      · obtain ⟨x1, x2, x3, x4⟩ := hx i hlt hlb hneg
        have y1 : b.edges[i].fr.toNat < rn.length := by omega
        have y2 : b.edges[i].to.toNat < rn.length := by omega
        repeat (first | refine AL.seq ?_ | refine AL.block ?_ | refine AL.skip ?_ | refine AL.blk ?_)
        refine AL.region follows_Tryz (Nat.le_refl _) (by kernel_rfl) ?_
        simp
        repeat (first | refine AL.seq ?_ | refine AL.block ?_ | refine AL.skip ?_ | refine AL.blk ?_)
        refine AL.region follows_Tryz (Nat.le_refl _) (by kernel_rfl) ?_
        simp [hlb]
        repeat (first | refine AL.seq ?_ | refine AL.block ?_ | refine AL.skip ?_ | refine AL.blk ?_)
        refine AL.region follows_Tryz (Nat.le_refl _) (by kernel_rfl) ?_
        simp [x1, x2, x3, x4, y1, y2, hrl]
        refine ⟨⟨by omega, htk.live⟩, ?_⟩
        have htk1 := htk.app
        repeat (first | refine AL.seq ?_ | refine AL.block ?_ | refine AL.skip ?_ | refine AL.blk ?_)
        refine AL.region follows_Tryz (Nat.le_refl _) (by kernel_rfl) ?_
        simp
        refine ⟨⟨by omega, by simpa using htk1.swap.live⟩, ?_⟩
        have htk2 := htk1.swap.app.swap
        repeat (first | refine AL.seq ?_ | refine AL.block ?_ | refine AL.skip ?_ | refine AL.blk ?_)
        refine AL.region follows_Tryz (Nat.le_refl _) (by kernel_rfl) ?_
        simp [hw]
        repeat (first | refine AL.seq ?_ | refine AL.block ?_ | refine AL.skip ?_ | refine AL.blk ?_)
        refine AL.nil ?_
        have hbd : b.edges.getD i default = b.edges[i] := by simp [hlb]
        refine ⟨⟨i + 1, _, _, _, _⟩, ⟨hlt, htk2⟩, by simp; omega, Weaks.mk htk2.le rfl (by simp [ToL, lk]) (by simp [BoxL, lk, glueE, hrn, hlt, hlb, hneg, y1, y2])⟩
      · repeat (first | refine AL.seq ?_ | refine AL.block ?_ | refine AL.skip ?_ | refine AL.blk ?_)
        refine AL.region follows_Tryz (Nat.le_refl _) (by kernel_rfl) ?_
        simp
        refine ⟨⟨by omega, htk.swap.live⟩, ?_⟩
        have htk2 := htk.swap.app.swap
        repeat (first | refine AL.seq ?_ | refine AL.block ?_ | refine AL.skip ?_ | refine AL.blk ?_)
        refine AL.region follows_Tryz (Nat.le_refl _) (by kernel_rfl) ?_
        simp [hw]
        repeat (first | refine AL.seq ?_ | refine AL.block ?_ | refine AL.skip ?_ | refine AL.blk ?_)
        refine AL.nil ?_
        refine ⟨⟨i + 1, _, _, _, _⟩, ⟨hlt, htk2⟩, by simp; omega, Weaks.mk htk2.le rfl (by simp [ToL, lk]) (by simp [BoxL, lk, glueE, hrn, hlt, hlb, show ¬ k[i] < 0 by omega])⟩
    · repeat (first | refine AL.seq ?_ | refine AL.block ?_ | refine AL.skip ?_ | refine AL.blk ?_)
      refine AL.exit ?_
      simp only [AU, ↓reduceIte]
      have : i = k.length := by omega
      subst this
      repeat (first | refine AL.seq ?_ | refine AL.block ?_ | refine AL.skip ?_ | refine AL.blk ?_)
      refine AL.region follows_Tryz (Nat.le_refl _) (by kernel_rfl) ?_
      simp
      repeat (first | refine AL.seq ?_ | refine AL.block ?_ | refine AL.skip ?_ | refine AL.blk ?_)
      refine AL.ret ?_
      try simp only [AU]
      refine ⟨by simp, Fin.data (by simp [resAs, resA]; rfl) hbox rfl htok htk.old htk.le ?_⟩
      simp [packA, glue, hrn]
end Go.AM
namespace Go.AM
open Go Go.Proofs
set_option linter.unusedSimpArgs false
set_option linter.unusedVariables false

/-! ### ref13.overlap -/
end Go.AM
/-
  The abstract machine, twenty-first part: accumulators handed on as data.
-/
namespace Go.AM
open Go
set_option linter.unusedSimpArgs false
set_option linter.unusedVariables false

variable {P : Program}

/-- What an accumulator is to a callee: data. -/
def AV.asD1 : AV → AV
  | .osl sz es _ => .d (.sl sz es)
  | x => x
def AV.asD : AV → AV
  | .osl sz es _ => .d (.sl sz es)
  | .agg cs => .agg (cs.map AV.asD1)
  | x => x

theorem RV.asD1 {G : Gh} {w : World} {x : AV} {v : Value} (h : RV G w x v) : RV G w x.asD1 v := by
  cases h with
  | osl h1 h2 => exact .d h1
  | bot => exact .bot
  | d h1 => exact .d h1
  | ptr h1 => exact .ptr h1
  | cptr a u hc hr => exact .cptr a u hc hr
  | msl h1 h2 h3 => exact .msl h1 h2 h3
  | fn hl h => exact .fn hl h
  | agg hl h h1 => exact .agg hl h h1
  | tup hl h => exact .tup hl h
  | ex h => exact .ex h

theorem RV.asD {G : Gh} {w : World} {x : AV} {v : Value} (h : RV G w x v) : RV G w x.asD v := by
  cases h with
  | osl h1 h2 => exact .d h1
  | bot => exact .bot
  | d h1 => exact .d h1
  | ptr h1 => exact .ptr h1
  | cptr a u hc hr => exact .cptr a u hc hr
  | msl h1 h2 h3 => exact .msl h1 h2 h3
  | fn hl h => exact .fn hl h
  | agg hl h h1 => exact .agg (by simp [hl]) (fun i g1 g2 => by simp only [List.getElem_map]; exact (h i (by simpa using g1) g2).asD1) h1
  | tup hl h => exact .tup hl h
  | ex h => exact .ex h

theorem RVs.asD {G : Gh} {w : World} {xs : List AV} {vs : List Value} (h : RVs G w xs vs) : RVs G w (xs.map AV.asD) vs :=
  ⟨by simp [h.1], fun i g1 g2 => by simp only [List.getElem_map]; exact (h.2 i (by simpa using g1) g2).asD⟩

theorem ACalls.asD {f : FuncId} {args : List AV} {m : AMem} {Q : AV → AMem → Prop} (h : ACalls P f (args.map AV.asD) m Q) : ACalls P f args m Q :=
  ⟨h.1, fun G w vals hm hr => h.2 G w vals hm hr.asD⟩

theorem Stop.data {cx : Cx} {dr : Bool} {fid : FuncId} {args : List AV} {S : AState} {dst : Option Tmp} {K : AState → Prop} (h : Stop P cx dr fid (args.map AV.asD) S dst K) : Stop P cx dr fid args S dst K := by
  cases dr with
  | true =>
    obtain ⟨v, tok', nt', h1, h2⟩ := h
    exact ⟨v, tok', nt', fun box nb he => (h1 box nb he).asD, h2⟩
  | false => exact ACalls.asD h

/-- One slot read as another. -/
def Sub (x y : AV) : Prop := ∀ G w v, RV G w x v → RV G w y v
theorem Sub.refl (x : AV) : Sub x x := fun _ _ _ h => h
theorem Sub.data (sz : Nat) (es : List (List D)) (o : Own) : Sub (.osl sz es o) (.d (.sl sz es)) := fun _ _ _ h => h.asD
theorem Sub.nil (sz sz' : Nat) (o : Own) : Sub (.osl sz [] o) (.d (.sl sz' [])) := fun G w v h => by
  cases h with
  | osl h ho =>
    cases h with
    | sl u hcap hmax hsz hA hc hr => exact .d (.sl (es := []) (fun _ _ => default) hcap hmax (by simp) (by simp) (fun a _ i j hi _ => by simp at hi) (fun i j hi _ => by simp at hi))
def SubL : List AV → List AV → Prop
  | [], [] => True
  | x :: xs, y :: ys => Sub x y ∧ SubL xs ys
  | _, _ => False
theorem SubL.rvs {G : Gh} {w : World} : ∀ {xs ys : List AV} {vs : List Value}, SubL xs ys → RVs G w xs vs → RVs G w ys vs
  | [], [], vs, _, h => h
  | x :: xs, y :: ys, [], _, h => by have := h.1; simp at this
  | x :: xs, y :: ys, v :: vs, hs, h => RVs.cons (hs.1 _ _ _ (h.2 0 (by simp) (by simp))) (hs.2.rvs ⟨by simpa using h.1, fun i h1 h2 => h.2 (i + 1) (by simpa using h1) (by simpa using h2)⟩)
theorem ACalls.sub {f : FuncId} {args args' : List AV} {m : AMem} {Q : AV → AMem → Prop} (hs : SubL args args') (h : ACalls P f args' m Q) : ACalls P f args m Q :=
  ⟨h.1, fun G w vals hm hr => h.2 G w vals hm (hs.rvs hr)⟩
theorem Stop.sub {cx : Cx} {dr : Bool} {fid : FuncId} {args args' : List AV} {S : AState} {dst : Option Tmp} {K : AState → Prop} (hs : SubL args args') (h : Stop P cx dr fid args' S dst K) : Stop P cx dr fid args S dst K := by
  cases dr with
  | true =>
    obtain ⟨v, tok', nt', h1, h2⟩ := h
    exact ⟨v, tok', nt', fun box nb he => (h1 box nb he).sub hs, h2⟩
  | false => exact ACalls.sub hs h

theorem Stop.of_a {cx : Cx} {fid : FuncId} {args : List AV} {S : AState} {dst : Option Tmp} {K : AState → Prop} {Q : AV → AMem → Prop} (h : ACalls P fid args ⟨S.box, cx.nb, S.tok, S.nt⟩ Q)
    (hk : ∀ v m', Q v m' → K ⟨putT S.tmps dst v, m'.box, m'.tok, m'.nt⟩) : Stop P cx false fid args S dst K := h.mono hk

theorem rI_snoc (es : List Int) (v : Int) : rI es ++ [[D.raw (.int .i64 v)]] = rI (es ++ [v]) := by simp [rI]

end Go.AM
namespace Go.AM
open Go Go.Proofs
set_option linter.unusedSimpArgs false
set_option linter.unusedVariables false

/-! ### overlaps.edges, overlaps.nodes -/
/-- What a call does to the tokens, where it appends to one accumulator. -/
structure Adv (tok : Nat → Bool) (nt : Nat) (own : Own) (tok' : Nat → Bool) (nt' : Nat) (own' : Own) : Prop where
  keep : ∀ t, tok t = true → own ≠ .tok t → tok' t = true
  le : nt ≤ nt'
  live : own'.liveP tok'
  new : own' = own ∨ ∃ t, own' = .tok t ∧ nt ≤ t
  lt : ∀ t, tok' t = true → t < nt'

theorem Adv.refl {tok : Nat → Bool} {nt : Nat} {own : Own} (h : own.liveP tok) (hl : ∀ t, tok t = true → t < nt) : Adv tok nt own tok nt own := ⟨fun _ h _ => h, Nat.le_refl _, h, .inl rfl, hl⟩
theorem Adv.trans {t1 t2 t3 : Nat → Bool} {n1 n2 n3 : Nat} {o1 o2 o3 : Own} (hl : ∀ t, t1 t = true → t < n1) (h : Adv t1 n1 o1 t2 n2 o2) (k : Adv t2 n2 o2 t3 n3 o3) : Adv t1 n1 o1 t3 n3 o3 := by
  refine ⟨fun t ht ho => k.keep t (h.keep t ht ho) (fun e => ?_), Nat.le_trans h.le k.le, k.live, ?_, k.lt⟩
  · rcases h.new with e2 | ⟨s, e2, hs⟩
    · exact ho (e2 ▸ e)
    · rw [e2] at e
      cases e
      have := hl _ ht
      omega
  · rcases k.new with e2 | ⟨s, e2, hs⟩
    · rw [e2]; exact h.new
    · exact .inr ⟨s, e2, Nat.le_trans h.le hs⟩
/-- A fresh token, and its end. -/
theorem Adv.fresh {tok : Nat → Bool} {nt : Nat} {own : Own} (h : own.liveP tok) (hl : ∀ t, tok t = true → t < nt) : Adv tok nt own (upd (upd (upd tok nt true) nt false) (nt + 1) true) (nt + 2) own := by
  have key : ∀ t, t < nt → (upd (upd (upd tok nt true) nt false) (nt + 1) true) t = tok t := fun t ht => by
    rw [upd_other _ _ (by omega), upd_other _ _ (by omega), upd_other _ _ (by omega)]
  refine ⟨fun t ht _ => by rw [key t (hl t ht)]; exact ht, by omega, ?_, .inl rfl, fun t ht => ?_⟩
  · cases own with
    | full => trivial
    | tok t => simp only [live_tok] at h ⊢; rw [key t (hl t h)]; exact h
  · by_cases e : t = nt + 1
    · omega
    · rw [upd_other _ _ e] at ht
      by_cases e2 : t = nt
      · omega
      · rw [upd_other _ _ e2, upd_other _ _ e2] at ht
        have := hl t ht
        omega
/-- The accumulator appended to. -/
theorem Adv.app {tok : Nat → Bool} {nt : Nat} {own : Own} (h : own.liveP tok) (hl : ∀ t, tok t = true → t < nt) : Adv tok nt own (upd (own.kill tok) nt true) (nt + 1) (.tok nt) := by
  refine ⟨fun t ht ho => ?_, by omega, by simp [upd_same], .inr ⟨nt, rfl, Nat.le_refl _⟩, fun t ht => ?_⟩
  · have := hl t ht
    rw [upd_other _ _ (by omega)]
    cases own with
    | full => exact ht
    | tok s => simp only [kill_tok]; rw [upd_other _ _ (fun e => ho (by rw [e]))]; exact ht
  · by_cases e : t = nt
    · omega
    · rw [upd_other _ _ e] at ht
      cases own with
      | full => have := hl t ht; omega
      | tok s =>
        simp only [kill_tok] at ht
        by_cases e2 : t = s
        · subst e2; rw [upd_same] at ht; cases ht
        · rw [upd_other _ _ e2] at ht
          have := hl t ht
          omega

theorem upd_upd {α : Type} (f : Nat → α) (k : Nat) (x y : α) : upd (upd f k x) k y = upd f k y := by
  funext j
  simp only [upd]
  split <;> rfl

theorem E.eq_and (x y : E) : (decide (x.ty = y.ty) && (decide (x.fr = y.fr) && decide (x.to = y.to))) = decide (x = y) := by
  cases x; cases y; simp

def wantE (b : Gr) (nodes es : List Int) : E :=
  let x := b.edges.getD es.length default
  ⟨x.ty, nodes.getD x.fr.toNat 0, nodes.getD x.to.toNat 0⟩

def ovE (a b : Gr) (nodes : List Int) : Nat → List Int → List Ov → List Ov
  | 0, es, out => if 2000 < out.length then out else out ++ [glue a b nodes es]
  | n + 1, es, out => if 2000 < out.length then out else
      (List.range a.edges.length).foldl (fun (out : List Ov) (k : Nat) => if a.edges.getD k default = wantE b nodes es ∧ (k : Int) ∉ es then ovE a b nodes n (es ++ [(k : Int)]) out else out) (ovE a b nodes n (es ++ [-1]) out)

structure OvH (a b : Gr) (nodes : List Int) : Prop where
  fa : a.Fit
  va : validG a = 0
  fb : b.Fit
  n : nodes.length = b.nodes.length
  x : ∀ e ∈ b.edges, 0 ≤ e.fr ∧ e.fr < nodes.length ∧ 0 ≤ e.to ∧ e.to < nodes.length

abbrev ovRow (a b : Gr) (out : List Ov) (own : Own) : List AV := [.d (ints a.nodes), .d (AM.edges a.edges), .d (ints b.nodes), .d (AM.edges b.edges), .osl 6 (out.map Ov.cells) own]

def QOv (a b : Gr) (box : Nat → Option (List (List AV))) (nb k : Nat) (tok : Nat → Bool) (nt : Nat) (own : Own) (out : List Ov) (v : AV) (m : AMem) : Prop :=
  v = .tup [] ∧ ∃ own' tok' nt', m = ⟨upd box k (some [ovRow a b out own']), nb, tok', nt'⟩ ∧ Adv tok nt own tok' nt' own'

structure AccO where
  i : Nat
  out : List Ov
  own : Own
  tok : Nat → Bool
  nt : Nat

def ovStep (a b : Gr) (nodes : List Int) (n : Nat) (es : List Int) (out : List Ov) (k : Nat) : List Ov := if a.edges.getD k default = wantE b nodes es ∧ (k : Int) ∉ es then ovE a b nodes n (es ++ [(k : Int)]) out else out

def st83 (a b : Gr) (nodes es : List Int) (nb k : Nat) (box : Nat → Option (List (List AV))) (x : AccO) : AState :=
  ⟨tl [(0, .ptr k 0 0), (1, .d (ints nodes)), (2, .d (ints es)), (7, .ptr (nb + 7) 0 0), (78, .d (AM.edges a.edges)), (79, I a.edges.length), (80, I x.i)],
    lb nb (upd box k (some [ovRow a b x.out x.own])) [(7, [[I (wantE b nodes es).ty, I (wantE b nodes es).fr, I (wantE b nodes es).to]])], x.tok, x.nt⟩

theorem outOk {a b : Gr} {out : List Ov} {own : Own} {box : Nat → Option (List (List AV))} {k base : Nat} {p q : Nat → Prop} (hq : q = fun _ => True) : ∀ k' rows, k' < base → (upd box k (some [ovRow a b out own])) k' = some rows → box k' = some rows ∨ ∀ r ∈ rows, ∀ x ∈ r, OkIn p q x := by
  subst hq
  intro k' rows hk' hr
  by_cases e : k' = k
  · subst e
    rw [upd_same] at hr
    cases hr
    exact .inr (by simp)
  · rw [upd_other _ _ e] at hr
    exact .inl hr

theorem edges_c (a b : Gr) (nodes : List Int) (h : OvH a b nodes) : ∀ (n : Nat) (es : List Int) (out : List Ov) (own : Own) (box : Nat → Option (List (List AV))) (nb k : Nat) (tok : Nat → Bool) (nt : Nat), es.length + n = b.edges.length →
    box k = some [ovRow a b out own] → own.liveP tok → ACalls Tryz.prog 100 [.ptr k 0 0, .d (ints nodes), .d (ints es)] ⟨box, nb, tok, nt⟩ (QOv a b box nb k tok nt own (ovE a b nodes n es out)) := by
  intro n
  induction n with
  | zero =>
    intro es out own box nb k tok nt hes hk hlive
    have hself : box = upd box k (some [ovRow a b out own]) := (upd_self box k _ hk).symm
    refine ACalls.of_body Tryz.func100 rfl (by kernel_rfl) follows_Tryz (by kernel_rfl) (by simp [Tryz.ntmps100]) ?_
    intro hbox htok
    simp only at hbox htok
    apply AL.start
    have hkn := key_lt hbox hk
    repeat (first | refine AL.seq ?_ | refine AL.block ?_ | refine AL.skip ?_ | refine AL.blk ?_)
    refine AL.region follows_Tryz (Nat.le_refl _) (by kernel_rfl) ?_
    simp [lb_out hkn, hk]
    repeat (first | refine AL.seq ?_ | refine AL.block ?_ | refine AL.skip ?_ | refine AL.blk ?_)
    refine AL.cond ?_
    simp
    refine ⟨fun hbig => ?_, fun hsm => ?_⟩
    · repeat (first | refine AL.seq ?_ | refine AL.block ?_ | refine AL.skip ?_ | refine AL.blk ?_)
      refine AL.ret ?_
      try simp only [AU]
      refine ⟨by simp, (Fin.own (vs := []) (av := .tup []) (by simp [resAs, resA]) hbox rfl (Nat.le_refl _) (by simp [packA])).mono fun v m hq => ⟨hq.1, own, tok, nt, ?_, Adv.refl hlive htok⟩⟩
      have hbig' : 2000 < out.length := by omega
      rw [hq.2, ovE, if_pos hbig', ← hself]
    · have hsm' : ¬ 2000 < out.length := by omega
      have hes' : es.length = b.edges.length := by omega
      repeat (first | refine AL.seq ?_ | refine AL.block ?_ | refine AL.skip ?_ | refine AL.blk ?_)
      refine AL.region follows_Tryz (Nat.le_refl _) (by kernel_rfl) ?_
      simp [lb_out hkn, hk]
      repeat (first | refine AL.seq ?_ | refine AL.block ?_ | refine AL.skip ?_ | refine AL.blk ?_)
      refine AL.cond ?_
      simp
      refine ⟨fun _ => ?_, fun hne => absurd (by omega) hne⟩
      have hbe := h.fb.e
      have hbn := h.fb.n
      repeat (first | refine AL.seq ?_ | refine AL.block ?_ | refine AL.skip ?_ | refine AL.blk ?_)
      refine AL.region follows_Tryz (Nat.le_refl _) (by kernel_rfl) ?_
      simp [lb_out hkn, hk]
      refine Stop.of_d (glued_c a b nodes es h.fa h.va (by rw [h.n]; exact Nat.le_refl _) (by omega) (by rw [h.n]; omega) (by omega) (fun i _ h2 _ => h.x _ (List.getElem_mem h2)) _ _) ?_
      simp [lb_out hkn, hk, upd_lb_out hkn]
      refine ⟨⟨by omega, hlive⟩, ?_⟩
      repeat (first | refine AL.seq ?_ | refine AL.block ?_ | refine AL.skip ?_ | refine AL.blk ?_)
      refine AL.ret ?_
      try simp only [AU]
      refine ⟨by simp, (Fin.gen (vs := []) (av := .tup []) (tok' := upd (own.kill tok) nt true) (nt' := nt + 1) (by simp [resAs, resA]) ?_ (by omega) (Nat.le_refl _) (fun t h => ⟨h, .inl rfl⟩) ?_ (by simp [packA])).mono fun v m hq => ⟨hq.1, .tok nt, upd (own.kill tok) nt true, nt + 1, ?_, Adv.app hlive htok⟩⟩
      · rw [← upd_lb_out hkn, hbox]
      · intro k' rows hk' hr
        by_cases e : k' = k
        · subst e
          rw [upd_same] at hr
          cases hr
          exact .inr (by simp)
        · rw [upd_other _ _ e] at hr
          exact .inl hr
      · rw [hq.2, ovE, if_neg hsm']
        simp [ovRow]
  | succ n ih =>
    intro es out own box nb k tok nt hes hk hlive
    have hself : box = upd box k (some [ovRow a b out own]) := (upd_self box k _ hk).symm
    have hae := h.fa.e
    have hbe := h.fb.e
    have hbn := h.fb.n
    have hlt : es.length < b.edges.length := by omega
    obtain ⟨x1, x2, x3, x4⟩ := h.x b.edges[es.length] (List.getElem_mem hlt)
    have y1 : b.edges[es.length].fr.toNat < nodes.length := by omega
    have y2 : b.edges[es.length].to.toNat < nodes.length := by omega
    refine ACalls.of_body Tryz.func100 rfl (by kernel_rfl) follows_Tryz (by kernel_rfl) (by simp [Tryz.ntmps100]) ?_
    intro hbox htok
    simp only at hbox htok
    apply AL.start
    have hkn := key_lt hbox hk
    repeat (first | refine AL.seq ?_ | refine AL.block ?_ | refine AL.skip ?_ | refine AL.blk ?_)
    refine AL.region follows_Tryz (Nat.le_refl _) (by kernel_rfl) ?_
    simp [lb_out hkn, hk]
    repeat (first | refine AL.seq ?_ | refine AL.block ?_ | refine AL.skip ?_ | refine AL.blk ?_)
    refine AL.cond ?_
    simp
    refine ⟨fun hbig => ?_, fun hsm => ?_⟩
    · repeat (first | refine AL.seq ?_ | refine AL.block ?_ | refine AL.skip ?_ | refine AL.blk ?_)
      refine AL.ret ?_
      try simp only [AU]
      refine ⟨by simp, (Fin.own (vs := []) (av := .tup []) (by simp [resAs, resA]) hbox rfl (Nat.le_refl _) (by simp [packA])).mono fun v m hq => ⟨hq.1, own, tok, nt, ?_, Adv.refl hlive htok⟩⟩
      have hbig' : 2000 < out.length := by omega
      rw [hq.2, ovE, if_pos hbig', ← hself]
    · have hsm' : ¬ 2000 < out.length := by omega
      repeat (first | refine AL.seq ?_ | refine AL.block ?_ | refine AL.skip ?_ | refine AL.blk ?_)
      refine AL.region follows_Tryz (Nat.le_refl _) (by kernel_rfl) ?_
      simp [lb_out hkn, hk]
      repeat (first | refine AL.seq ?_ | refine AL.block ?_ | refine AL.skip ?_ | refine AL.blk ?_)
      refine AL.cond ?_
      simp
      refine ⟨fun heq => absurd heq (by omega), fun _ => ?_⟩
      repeat (first | refine AL.seq ?_ | refine AL.block ?_ | refine AL.skip ?_ | refine AL.blk ?_)
      refine AL.region follows_Tryz (Nat.le_refl _) (by kernel_rfl) ?_
      simp [lb_out hkn, hk, hlt]
      repeat (first | refine AL.seq ?_ | refine AL.block ?_ | refine AL.skip ?_ | refine AL.blk ?_)
      refine AL.region follows_Tryz (Nat.le_refl _) (by kernel_rfl) ?_
      simp [lb_out hkn, hk, x1, x2, x3, x4, y1, y2]
      repeat (first | refine AL.seq ?_ | refine AL.block ?_ | refine AL.skip ?_ | refine AL.blk ?_)
      refine AL.region follows_Tryz (Nat.le_refl _) (by kernel_rfl) ?_
      simp [lb_out hkn, hk]
      refine Stop.of_d (clone_c es (by omega) _ _) ?_
      simp
      refine ⟨⟨by omega, by simp [upd_same]⟩, ?_⟩
      refine Stop.data ?_
      simp only [List.map, AV.asD]
      rw [rI_snoc]
      have had := Adv.fresh hlive htok
      refine Stop.of_a (ih (es ++ [-1]) out own _ _ k _ _ (by simp; omega) (by simp only [lb_out hkn, hk]) had.live) ?_
      rintro v m' ⟨rfl, own1, tok1, nt1, rfl, hadv⟩
      simp [upd_lb_out hkn]
      have had1 : Adv tok nt own tok1 nt1 own1 := had.trans htok hadv
      clear hadv had
      repeat (first | refine AL.seq ?_ | refine AL.block ?_ | refine AL.skip ?_ | refine AL.blk ?_)
      refine AL.region follows_Tryz (Nat.le_refl _) (by kernel_rfl) ?_
      simp [lb_out hkn, upd_same]
      repeat (first | refine AL.seq ?_ | refine AL.block ?_ | refine AL.skip ?_ | refine AL.blk ?_)
      have hwant : wantE b nodes es = ⟨b.edges[es.length].ty, nodes[b.edges[es.length].fr.toNat], nodes[b.edges[es.length].to.toNat]⟩ := by simp [wantE, hlt, y1, y2]
      refine AL.loopT (st83 a b nodes es nb k box) (fun x => x.i ≤ a.edges.length ∧ x.out = (List.range x.i).foldl (ovStep a b nodes n es) (ovE a b nodes n (es ++ [-1]) out) ∧ Adv tok nt own x.tok x.nt x.own) (fun x => a.edges.length - x.i)
        ⟨0, ovE a b nodes n (es ++ [-1]) out, own1, tok1, nt1⟩ ⟨Nat.zero_le _, rfl, had1⟩ (Weaks.mk' had1.le (by simp [ToL, lk, hwant]; exact to_ptr (by rw [lb_out hkn, upd_same]; simp)) (by simp [BoxL, lk, hwant]) (outOk rfl)) ?_
      rintro ⟨i, out2, own2, tok2, nt2⟩ S ⟨hi, hout, hadv2⟩ hS
      simp only [st83] at hS hi hout hadv2
      subst hS
      have hw : IntKind.i64.wrap (↑i + 1) = ((i + 1 : Nat) : Int) := by rw [wrap_in (by omega) (by omega)]; rfl
      repeat (first | refine AL.seq ?_ | refine AL.block ?_ | refine AL.skip ?_ | refine AL.blk ?_)
      refine AL.region follows_Tryz (Nat.le_refl _) (by kernel_rfl) ?_
      simp
      repeat (first | refine AL.seq ?_ | refine AL.block ?_ | refine AL.skip ?_ | refine AL.blk ?_)
      refine AL.cond ?_
      simp
      refine ⟨fun hli => ?_, fun hge => ?_⟩
      · repeat (first | refine AL.seq ?_ | refine AL.block ?_ | refine AL.skip ?_ | refine AL.blk ?_)
        refine AL.region follows_Tryz (Nat.le_refl _) (by kernel_rfl) ?_
        simp [hli]
        repeat (first | refine AL.seq ?_ | refine AL.block ?_ | refine AL.skip ?_ | refine AL.blk ?_)
        refine AL.region follows_Tryz (Nat.le_refl _) (by kernel_rfl) ?_
        simp [lb_out hkn, upd_same]
        have hfold : (List.range (i + 1)).foldl (ovStep a b nodes n es) (ovE a b nodes n (es ++ [-1]) out) = ovStep a b nodes n es out2 i := by
          rw [List.range_succ, List.foldl_append, ← hout]; rfl
        have hgi : a.edges.getD i default = a.edges[i] := by simp [hli]
        simp only [E.eq_and]
        first | refine Gd.dt (fun hE => ?_) (fun hE => ?_) | refine Gd.df (fun hE => ?_) (fun hE => ?_) | refine Gd.t (fun hE => ?_) (fun hE => ?_) | refine Gd.f (fun hE => ?_) (fun hE => ?_)
        · simp [hE]
          refine Stop.of_d (contains_c es i (by omega) _ _) ?_
          simp [hE]
          repeat (first | refine AL.seq ?_ | refine AL.block ?_ | refine AL.skip ?_ | refine AL.blk ?_)
          refine AL.cond ?_
          simp
          refine ⟨fun hni => ?_, fun hin => ?_⟩
          · repeat (first | refine AL.seq ?_ | refine AL.block ?_ | refine AL.skip ?_ | refine AL.blk ?_)
            refine AL.region follows_Tryz (Nat.le_refl _) (by kernel_rfl) ?_
            simp [lb_out hkn, upd_same]
            refine Stop.of_d (clone_c es (by omega) _ _) ?_
            simp
            refine ⟨⟨by omega, by simp [upd_same]⟩, ?_⟩
            refine Stop.data ?_
            simp only [List.map, AV.asD]
            rw [rI_snoc]
            have had := Adv.fresh hadv2.live hadv2.lt
            refine Stop.of_a (ih (es ++ [(i : Int)]) out2 own2 _ _ k _ _ (by simp; omega) (by simp only [lb_out hkn, upd_same]) had.live) ?_
            rintro v m' ⟨rfl, own3, tok3, nt3, rfl, hadv⟩
            simp [upd_lb_out hkn, upd_upd]
            have had3 : Adv tok nt own tok3 nt3 own3 := hadv2.trans htok (had.trans hadv2.lt hadv)
            clear hadv had
            repeat (first | refine AL.seq ?_ | refine AL.block ?_ | refine AL.skip ?_ | refine AL.blk ?_)
            refine AL.region follows_Tryz (Nat.le_refl _) (by kernel_rfl) ?_
            simp [hw]
            repeat (first | refine AL.seq ?_ | refine AL.block ?_ | refine AL.skip ?_ | refine AL.blk ?_)
            refine AL.nil ?_
            refine ⟨⟨i + 1, ovE a b nodes n (es ++ [(i : Int)]) out2, own3, tok3, nt3⟩, ⟨hli, ?_, had3⟩, by simp; omega, Weaks.mk' had3.le (by simp [ToL, lk]; exact to_ptr (by rw [lb_out hkn, upd_same]; simp)) (by simp [BoxL, lk]) (outOk rfl)⟩
            rw [hfold, ovStep, if_pos ⟨by rw [hgi, hE], hni⟩]
          · repeat (first | refine AL.seq ?_ | refine AL.block ?_ | refine AL.skip ?_ | refine AL.blk ?_)
            refine AL.region follows_Tryz (Nat.le_refl _) (by kernel_rfl) ?_
            simp [hw]
            repeat (first | refine AL.seq ?_ | refine AL.block ?_ | refine AL.skip ?_ | refine AL.blk ?_)
            refine AL.nil ?_
            refine ⟨⟨i + 1, out2, own2, tok2, nt2⟩, ⟨hli, ?_, hadv2⟩, by simp; omega, Weaks.mk' hadv2.le (by simp [ToL, lk]; exact to_ptr (by rw [lb_out hkn, upd_same]; simp)) (by simp [BoxL, lk]) (outOk rfl)⟩
            rw [hfold, ovStep, if_neg (fun hh => hh.2 hin)]
        · simp [hE]
          repeat (first | refine AL.seq ?_ | refine AL.block ?_ | refine AL.skip ?_ | refine AL.blk ?_)
          refine AL.cond ?_
          simp
          repeat (first | refine AL.seq ?_ | refine AL.block ?_ | refine AL.skip ?_ | refine AL.blk ?_)
          refine AL.region follows_Tryz (Nat.le_refl _) (by kernel_rfl) ?_
          simp [hw]
          repeat (first | refine AL.seq ?_ | refine AL.block ?_ | refine AL.skip ?_ | refine AL.blk ?_)
          refine AL.nil ?_
          refine ⟨⟨i + 1, out2, own2, tok2, nt2⟩, ⟨hli, ?_, hadv2⟩, by simp; omega, Weaks.mk' hadv2.le (by simp [ToL, lk]; exact to_ptr (by rw [lb_out hkn, upd_same]; simp)) (by simp [BoxL, lk]) (outOk rfl)⟩
          rw [hfold, ovStep, if_neg (fun hh => hE (by rw [← hgi, hh.1]))]
      · repeat (first | refine AL.seq ?_ | refine AL.block ?_ | refine AL.skip ?_ | refine AL.blk ?_)
        refine AL.exit ?_
        simp only [AU, ↓reduceIte]
        have hin : i = a.edges.length := by omega
        subst hin
        repeat (first | refine AL.seq ?_ | refine AL.block ?_ | refine AL.skip ?_ | refine AL.blk ?_)
        refine AL.nil ?_
        refine ⟨by simp, (Fin.gen (vs := []) (av := .tup []) (tok' := tok2) (nt' := nt2) (by simp [resAs, resA]) ?_ hadv2.le (Nat.le_refl _) (fun t h => ⟨h, .inl rfl⟩) (outOk (by simp)) (by simp [packA])).mono fun v m hq => ⟨hq.1, own2, tok2, nt2, ?_, hadv2⟩⟩
        · rw [← upd_lb_out hkn, hbox]
        · rw [hq.2, ovE, if_neg hsm', hout]; rfl
end Go.AM
namespace Go.AM
open Go Go.Proofs
set_option linter.unusedSimpArgs false
set_option linter.unusedVariables false

theorem beqD (x y : Int) : (x == y) = decide (x = y) := by by_cases h : x = y <;> simp [h]

/-! ### overlaps.nodes -/
def ovStepN (a b : Gr) (rec : List Int → List Ov → List Ov) (l : List Int) (out : List Ov) (k : Nat) : List Ov := if a.nodes.getD k 0 = b.nodes.getD l.length 0 ∧ (k : Int) ∉ l then rec (l ++ [(k : Int)]) out else out

def ovN (a b : Gr) : Nat → List Int → List Ov → List Ov
  | 0, l, out => if 2000 < out.length then out else ovE a b l b.edges.length [] out
  | n + 1, l, out => if 2000 < out.length then out else (List.range a.nodes.length).foldl (ovStepN a b (ovN a b n) l) (ovN a b n (l ++ [-1]) out)

structure NoH (a b : Gr) : Prop where
  fa : a.Fit
  va : validG a = 0
  fb : b.Fit
  x : ∀ e ∈ b.edges, 0 ≤ e.fr ∧ e.fr < b.nodes.length ∧ 0 ≤ e.to ∧ e.to < b.nodes.length

def st43 (a b : Gr) (l : List Int) (nb k : Nat) (box : Nat → Option (List (List AV))) (x : AccO) : AState :=
  ⟨tl [(0, .ptr k 0 0), (1, .d (ints l)), (34, .d (ints a.nodes)), (35, I a.nodes.length), (36, I x.i)],
    lb nb (upd box k (some [ovRow a b x.out x.own])) [], x.tok, x.nt⟩

theorem nodes_c (a b : Gr) (h : NoH a b) : ∀ (n : Nat) (l : List Int) (out : List Ov) (own : Own) (box : Nat → Option (List (List AV))) (nb k : Nat) (tok : Nat → Bool) (nt : Nat), l.length + n = b.nodes.length →
    box k = some [ovRow a b out own] → own.liveP tok → ACalls Tryz.prog 93 [.ptr k 0 0, .d (ints l)] ⟨box, nb, tok, nt⟩ (QOv a b box nb k tok nt own (ovN a b n l out)) := by
  intro n
  induction n with
  | zero =>
    intro l out own box nb k tok nt hl hk hlive
    have hself : box = upd box k (some [ovRow a b out own]) := (upd_self box k _ hk).symm
    refine ACalls.of_body Tryz.func93 rfl (by kernel_rfl) follows_Tryz (by kernel_rfl) (by simp [Tryz.ntmps93]) ?_
    intro hbox htok
    simp only at hbox htok
    apply AL.start
    have hkn := key_lt hbox hk
    repeat (first | refine AL.seq ?_ | refine AL.block ?_ | refine AL.skip ?_ | refine AL.blk ?_)
    refine AL.region follows_Tryz (Nat.le_refl _) (by kernel_rfl) ?_
    simp [lb_out hkn, hk]
    repeat (first | refine AL.seq ?_ | refine AL.block ?_ | refine AL.skip ?_ | refine AL.blk ?_)
    refine AL.cond ?_
    simp
    refine ⟨fun hbig => ?_, fun hsm => ?_⟩
    · repeat (first | refine AL.seq ?_ | refine AL.block ?_ | refine AL.skip ?_ | refine AL.blk ?_)
      refine AL.ret ?_
      try simp only [AU]
      refine ⟨by simp, (Fin.own (vs := []) (av := .tup []) (by simp [resAs, resA]) hbox rfl (Nat.le_refl _) (by simp [packA])).mono fun v m hq => ⟨hq.1, own, tok, nt, ?_, Adv.refl hlive htok⟩⟩
      have hbig' : 2000 < out.length := by omega
      rw [hq.2, ovN, if_pos hbig', ← hself]
    · have hsm' : ¬ 2000 < out.length := by omega
      have hl' : l.length = b.nodes.length := by omega
      repeat (first | refine AL.seq ?_ | refine AL.block ?_ | refine AL.skip ?_ | refine AL.blk ?_)
      refine AL.region follows_Tryz (Nat.le_refl _) (by kernel_rfl) ?_
      simp [lb_out hkn, hk]
      repeat (first | refine AL.seq ?_ | refine AL.block ?_ | refine AL.skip ?_ | refine AL.blk ?_)
      refine AL.cond ?_
      simp
      refine ⟨fun _ => ?_, fun hne => absurd (by omega) hne⟩
      have hbe := h.fb.e
      have hbn := h.fb.n
      repeat (first | refine AL.seq ?_ | refine AL.block ?_ | refine AL.skip ?_ | refine AL.blk ?_)
      refine AL.region follows_Tryz (Nat.le_refl _) (by kernel_rfl) ?_
      simp [lb_out hkn, hk]
      refine Stop.sub (args' := [.ptr k 0 0, .d (ints l), .d (ints [])]) ⟨Sub.refl _, Sub.refl _, Sub.nil _ _ _, trivial⟩ ?_
      refine Stop.of_a (edges_c a b l ⟨h.fa, h.va, h.fb, hl', by rw [hl']; exact h.x⟩ b.edges.length [] out own _ _ k _ _ (by simp) (by simp only [lb_out hkn, hk]) hlive) ?_
      rintro v m' ⟨rfl, own1, tok1, nt1, rfl, hadv⟩
      simp [upd_lb_out hkn]
      repeat (first | refine AL.seq ?_ | refine AL.block ?_ | refine AL.skip ?_ | refine AL.blk ?_)
      refine AL.ret ?_
      try simp only [AU]
      refine ⟨by simp, (Fin.gen (vs := []) (av := .tup []) (tok' := tok1) (nt' := nt1) (by simp [resAs, resA]) ?_ hadv.le (Nat.le_refl _) (fun t h => ⟨h, .inl rfl⟩) (outOk (by simp)) (by simp [packA])).mono fun v m hq => ⟨hq.1, own1, tok1, nt1, ?_, hadv⟩⟩
      · rw [← upd_lb_out hkn, hbox]
      · rw [hq.2, ovN, if_neg hsm']
  | succ n ih =>
    intro l out own box nb k tok nt hl hk hlive
    have hself : box = upd box k (some [ovRow a b out own]) := (upd_self box k _ hk).symm
    have han := h.fa.n
    have hbn := h.fb.n
    have hlt : l.length < b.nodes.length := by omega
    refine ACalls.of_body Tryz.func93 rfl (by kernel_rfl) follows_Tryz (by kernel_rfl) (by simp [Tryz.ntmps93]) ?_
    intro hbox htok
    simp only at hbox htok
    apply AL.start
    have hkn := key_lt hbox hk
    repeat (first | refine AL.seq ?_ | refine AL.block ?_ | refine AL.skip ?_ | refine AL.blk ?_)
    refine AL.region follows_Tryz (Nat.le_refl _) (by kernel_rfl) ?_
    simp [lb_out hkn, hk]
    repeat (first | refine AL.seq ?_ | refine AL.block ?_ | refine AL.skip ?_ | refine AL.blk ?_)
    refine AL.cond ?_
    simp
    refine ⟨fun hbig => ?_, fun hsm => ?_⟩
    · repeat (first | refine AL.seq ?_ | refine AL.block ?_ | refine AL.skip ?_ | refine AL.blk ?_)
      refine AL.ret ?_
      try simp only [AU]
      refine ⟨by simp, (Fin.own (vs := []) (av := .tup []) (by simp [resAs, resA]) hbox rfl (Nat.le_refl _) (by simp [packA])).mono fun v m hq => ⟨hq.1, own, tok, nt, ?_, Adv.refl hlive htok⟩⟩
      have hbig' : 2000 < out.length := by omega
      rw [hq.2, ovN, if_pos hbig', ← hself]
    · have hsm' : ¬ 2000 < out.length := by omega
      repeat (first | refine AL.seq ?_ | refine AL.block ?_ | refine AL.skip ?_ | refine AL.blk ?_)
      refine AL.region follows_Tryz (Nat.le_refl _) (by kernel_rfl) ?_
      simp [lb_out hkn, hk]
      repeat (first | refine AL.seq ?_ | refine AL.block ?_ | refine AL.skip ?_ | refine AL.blk ?_)
      refine AL.cond ?_
      simp
      refine ⟨fun heq => absurd heq (by omega), fun _ => ?_⟩
      repeat (first | refine AL.seq ?_ | refine AL.block ?_ | refine AL.skip ?_ | refine AL.blk ?_)
      refine AL.region follows_Tryz (Nat.le_refl _) (by kernel_rfl) ?_
      simp [lb_out hkn, hk]
      refine Stop.of_d (clone_c l (by omega) _ _) ?_
      simp
      refine ⟨⟨by omega, by simp [upd_same]⟩, ?_⟩
      refine Stop.data ?_
      simp only [List.map, AV.asD]
      rw [rI_snoc]
      have had := Adv.fresh hlive htok
      refine Stop.of_a (ih (l ++ [-1]) out own _ _ k _ _ (by simp; omega) (by simp only [lb_out hkn, hk]) had.live) ?_
      rintro v m' ⟨rfl, own1, tok1, nt1, rfl, hadv⟩
      simp [upd_lb_out hkn]
      have had1 : Adv tok nt own tok1 nt1 own1 := had.trans htok hadv
      clear hadv had
      repeat (first | refine AL.seq ?_ | refine AL.block ?_ | refine AL.skip ?_ | refine AL.blk ?_)
      refine AL.region follows_Tryz (Nat.le_refl _) (by kernel_rfl) ?_
      simp [lb_out hkn, upd_same]
      repeat (first | refine AL.seq ?_ | refine AL.block ?_ | refine AL.skip ?_ | refine AL.blk ?_)
      refine AL.loopT (st43 a b l nb k box) (fun x => x.i ≤ a.nodes.length ∧ x.out = (List.range x.i).foldl (ovStepN a b (ovN a b n) l) (ovN a b n (l ++ [-1]) out) ∧ Adv tok nt own x.tok x.nt x.own) (fun x => a.nodes.length - x.i)
        ⟨0, ovN a b n (l ++ [-1]) out, own1, tok1, nt1⟩ ⟨Nat.zero_le _, rfl, had1⟩ (Weaks.mk' had1.le (by simp [ToL, lk]; exact to_ptr (by rw [lb_out hkn, upd_same]; simp)) (by simp [BoxL, lk]) (outOk rfl)) ?_
      rintro ⟨i, out2, own2, tok2, nt2⟩ S ⟨hi, hout, hadv2⟩ hS
      simp only [st43] at hS hi hout hadv2
      subst hS
      have hw : IntKind.i64.wrap (↑i + 1) = ((i + 1 : Nat) : Int) := by rw [wrap_in (by omega) (by omega)]; rfl
      repeat (first | refine AL.seq ?_ | refine AL.block ?_ | refine AL.skip ?_ | refine AL.blk ?_)
      refine AL.region follows_Tryz (Nat.le_refl _) (by kernel_rfl) ?_
      simp
      repeat (first | refine AL.seq ?_ | refine AL.block ?_ | refine AL.skip ?_ | refine AL.blk ?_)
      refine AL.cond ?_
      simp
      refine ⟨fun hli => ?_, fun hge => ?_⟩
      · repeat (first | refine AL.seq ?_ | refine AL.block ?_ | refine AL.skip ?_ | refine AL.blk ?_)
        refine AL.region follows_Tryz (Nat.le_refl _) (by kernel_rfl) ?_
        simp [hli]
        repeat (first | refine AL.seq ?_ | refine AL.block ?_ | refine AL.skip ?_ | refine AL.blk ?_)
        refine AL.region follows_Tryz (Nat.le_refl _) (by kernel_rfl) ?_
        simp [lb_out hkn, upd_same, hlt]
        have hfold : (List.range (i + 1)).foldl (ovStepN a b (ovN a b n) l) (ovN a b n (l ++ [-1]) out) = ovStepN a b (ovN a b n) l out2 i := by
          rw [List.range_succ, List.foldl_append, ← hout]; rfl
        have hgi : a.nodes.getD i 0 = a.nodes[i] := by simp [hli]
        have hgl : b.nodes.getD l.length 0 = b.nodes[l.length] := by simp [hlt]
        simp only [beqD]
        first | refine Gd.dt (fun hE => ?_) (fun hE => ?_) | refine Gd.df (fun hE => ?_) (fun hE => ?_) | refine Gd.t (fun hE => ?_) (fun hE => ?_) | refine Gd.f (fun hE => ?_) (fun hE => ?_)
        · simp [hE]
          refine Stop.of_d (contains_c l i (by omega) _ _) ?_
          simp [hE]
          repeat (first | refine AL.seq ?_ | refine AL.block ?_ | refine AL.skip ?_ | refine AL.blk ?_)
          refine AL.cond ?_
          simp
          refine ⟨fun hni => ?_, fun hin => ?_⟩
          · repeat (first | refine AL.seq ?_ | refine AL.block ?_ | refine AL.skip ?_ | refine AL.blk ?_)
            refine AL.region follows_Tryz (Nat.le_refl _) (by kernel_rfl) ?_
            simp [lb_out hkn, upd_same]
            refine Stop.of_d (clone_c l (by omega) _ _) ?_
            simp
            refine ⟨⟨by omega, by simp [upd_same]⟩, ?_⟩
            refine Stop.data ?_
            simp only [List.map, AV.asD]
            rw [rI_snoc]
            have had := Adv.fresh hadv2.live hadv2.lt
            refine Stop.of_a (ih (l ++ [(i : Int)]) out2 own2 _ _ k _ _ (by simp; omega) (by simp only [lb_out hkn, upd_same]) had.live) ?_
            rintro v m' ⟨rfl, own3, tok3, nt3, rfl, hadv⟩
            simp [upd_lb_out hkn, upd_upd]
            have had3 : Adv tok nt own tok3 nt3 own3 := hadv2.trans htok (had.trans hadv2.lt hadv)
            clear hadv had
            repeat (first | refine AL.seq ?_ | refine AL.block ?_ | refine AL.skip ?_ | refine AL.blk ?_)
            refine AL.region follows_Tryz (Nat.le_refl _) (by kernel_rfl) ?_
            simp [hw]
            repeat (first | refine AL.seq ?_ | refine AL.block ?_ | refine AL.skip ?_ | refine AL.blk ?_)
            refine AL.nil ?_
            refine ⟨⟨i + 1, ovN a b n (l ++ [(i : Int)]) out2, own3, tok3, nt3⟩, ⟨hli, ?_, had3⟩, by simp; omega, Weaks.mk' had3.le (by simp [ToL, lk]; exact to_ptr (by rw [lb_out hkn, upd_same]; simp)) (by simp [BoxL, lk]) (outOk rfl)⟩
            rw [hfold, ovStepN, if_pos ⟨by rw [hgi, hgl, hE], hni⟩]
          · repeat (first | refine AL.seq ?_ | refine AL.block ?_ | refine AL.skip ?_ | refine AL.blk ?_)
            refine AL.region follows_Tryz (Nat.le_refl _) (by kernel_rfl) ?_
            simp [hw]
            repeat (first | refine AL.seq ?_ | refine AL.block ?_ | refine AL.skip ?_ | refine AL.blk ?_)
            refine AL.nil ?_
            refine ⟨⟨i + 1, out2, own2, tok2, nt2⟩, ⟨hli, ?_, hadv2⟩, by simp; omega, Weaks.mk' hadv2.le (by simp [ToL, lk]; exact to_ptr (by rw [lb_out hkn, upd_same]; simp)) (by simp [BoxL, lk]) (outOk rfl)⟩
            rw [hfold, ovStepN, if_neg (fun hh => hh.2 hin)]
        · simp [hE]
          repeat (first | refine AL.seq ?_ | refine AL.block ?_ | refine AL.skip ?_ | refine AL.blk ?_)
          refine AL.cond ?_
          simp
          repeat (first | refine AL.seq ?_ | refine AL.block ?_ | refine AL.skip ?_ | refine AL.blk ?_)
          refine AL.region follows_Tryz (Nat.le_refl _) (by kernel_rfl) ?_
          simp [hw]
          repeat (first | refine AL.seq ?_ | refine AL.block ?_ | refine AL.skip ?_ | refine AL.blk ?_)
          refine AL.nil ?_
          refine ⟨⟨i + 1, out2, own2, tok2, nt2⟩, ⟨hli, ?_, hadv2⟩, by simp; omega, Weaks.mk' hadv2.le (by simp [ToL, lk]; exact to_ptr (by rw [lb_out hkn, upd_same]; simp)) (by simp [BoxL, lk]) (outOk rfl)⟩
          rw [hfold, ovStepN, if_neg (fun hh => hE (by rw [← hgi, hh.1, hgl]))]
      · repeat (first | refine AL.seq ?_ | refine AL.block ?_ | refine AL.skip ?_ | refine AL.blk ?_)
        refine AL.exit ?_
        simp only [AU, ↓reduceIte]
        have hin : i = a.nodes.length := by omega
        subst hin
        repeat (first | refine AL.seq ?_ | refine AL.block ?_ | refine AL.skip ?_ | refine AL.blk ?_)
        refine AL.nil ?_
        refine ⟨by simp, (Fin.gen (vs := []) (av := .tup []) (tok' := tok2) (nt' := nt2) (by simp [resAs, resA]) ?_ hadv2.le (Nat.le_refl _) (fun t h => ⟨h, .inl rfl⟩) (outOk (by simp)) (by simp [packA])).mono fun v m hq => ⟨hq.1, own2, tok2, nt2, ?_, hadv2⟩⟩
        · rw [← upd_lb_out hkn, hbox]
        · rw [hq.2, ovN, if_neg hsm', hout]
end Go.AM
namespace Go.AM
open Go Go.Proofs
set_option linter.unusedSimpArgs false
set_option linter.unusedVariables false

theorem E.eq_and3 (x : E) (p q r : Int) : (decide (x.ty = p) && (decide (x.fr = q) && decide (x.to = r))) = decide (x = ⟨p, q, r⟩) := E.eq_and x ⟨p, q, r⟩

/-! ### ref13.overlaps.edges -/
end Go.AM
namespace Go.AM
open Go Go.Proofs
set_option linter.unusedSimpArgs false
set_option linter.unusedVariables false

/-! ### ref13.overlaps.nodes -/
end Go.AM
namespace Go.AM
open Go Go.Proofs
set_option linter.unusedSimpArgs false
set_option linter.unusedVariables false

/-! ### Overlaps -/
theorem Conv.sub {v v' : AV} {m : AMem} (h : Sub v v') : Conv v m v' m := ⟨rfl, rfl, fun G w u h1 h2 => ⟨G, h1, h _ _ _ h2, Le.refl G w, fun _ h => h⟩⟩
theorem Sub.tup {xs ys : List AV} (h : SubL xs ys) : Sub (.tup xs) (.tup ys) := fun G w v r => by
  cases r with
  | tup hl hh => have := h.rvs ⟨hl, hh⟩; exact .tup this.1 this.2

def overlapsR (a b : Gr) : List Ov × Int :=
  if validG a ≠ 0 then ([], validG a) else if validG b ≠ 0 then ([], validG b) else if 40 < a.nodes.length + b.nodes.length ∨ 80 < a.edges.length + b.edges.length then ([], 3)
  else if 2000 < (ovN a b b.nodes.length [] []).length then ([], 3) else (ovN a b b.nodes.length [] [], 0)

theorem validG_edges {g : Gr} (h : validG g = 0) : ∀ e ∈ g.edges, 0 ≤ e.fr ∧ e.fr < g.nodes.length ∧ 0 ≤ e.to ∧ e.to < g.nodes.length := by
  intro e he
  unfold validG at h
  split at h
  · cases h
  · split at h
    · cases h
    · split at h
      · cases h
      · rename_i h3
        have := List.any_eq_false.1 (Bool.not_eq_true _ ▸ h3) e he
        simp [fitsB, withinB] at this
        omega

end Go.AM
namespace Go.AM
open Go Go.Proofs
set_option linter.unusedSimpArgs false
set_option linter.unusedVariables false

/-! ### factor.Overlaps -/
def st13 (a b : Gr) (nb : Nat) (box : Nat → Option (List (List AV))) (tok : Nat → Bool) (nt : Nat) (i : Nat) : AState :=
  ⟨tl [(2, .ptr (nb + 2) 0 0), (3, .ptr (nb + 3) 0 0), (12, .osl 2 [[ints a.nodes, AM.edges a.edges], [ints b.nodes, AM.edges b.edges]] .full), (13, I 2), (14, I i)],
    lb nb box [(2, [[.d (ints a.nodes), .d (AM.edges a.edges)]]), (3, [[.d (ints b.nodes), .d (AM.edges b.edges)]])], tok, nt⟩

def inv13 (a b : Gr) (i : Nat) : Prop := i ≤ 2 ∧ (0 < i → validG a = 0) ∧ (1 < i → validG b = 0)
def mu13 (i : Nat) : Nat := 2 - i

theorem overlapsF_c (a b : Gr) (ha : a.Fit) (hb : b.Fit) (tok : Nat → Bool) (nt : Nat) : DCall Tryz.prog 76 [a.av, b.av] tok nt (.tup [.d (ovs (overlapsR a b).1), I (overlapsR a b).2]) tok nt := by
  intro box nb
  have han := ha.n
  have hae := ha.e
  have hbn := hb.n
  have hbe := hb.e
  have main : ACalls Tryz.prog 76 [a.av, b.av] ⟨box, nb, tok, nt⟩ fun v m => (v = .tup [.d (ovs (overlapsR a b).1), I (overlapsR a b).2] ∨ (overlapsR a b).1 = [] ∧ v = .tup [.osl 0 [] .full, I (overlapsR a b).2]) ∧ m = ⟨box, nb, tok, nt⟩ := by
    refine ACalls.of_body Tryz.func76 rfl (by kernel_rfl) follows_Tryz (by kernel_rfl) (by simp [Tryz.ntmps76]) ?_
    intro hbox htok
    simp only at hbox htok
    apply AL.start
    repeat (first | refine AL.seq ?_ | refine AL.block ?_ | refine AL.skip ?_ | refine AL.blk ?_)
    refine AL.region follows_Tryz (Nat.le_refl _) (by kernel_rfl) ?_
    simp
    repeat (first | refine AL.seq ?_ | refine AL.block ?_ | refine AL.skip ?_ | refine AL.blk ?_)
    refine AL.region follows_Tryz (Nat.le_refl _) (by kernel_rfl) ?_
    simp
    refine ⟨rfl, ?_⟩
    repeat (first | refine AL.seq ?_ | refine AL.block ?_ | refine AL.skip ?_ | refine AL.blk ?_)
    refine AL.loopT (st13 a b nb box tok nt) (inv13 a b) mu13 0 ⟨by omega, by omega, by omega⟩ (Weaks.mk (Nat.le_refl _) rfl (by simp [ToL, lk]) (by simp [BoxL, lk])) ?_
    rintro i S ⟨hi, h0, h1⟩ hS
    simp only [st13] at hS
    subst hS
    repeat (first | refine AL.seq ?_ | refine AL.block ?_ | refine AL.skip ?_ | refine AL.blk ?_)
    refine AL.region follows_Tryz (Nat.le_refl _) (by kernel_rfl) ?_
    simp
    repeat (first | refine AL.seq ?_ | refine AL.block ?_ | refine AL.skip ?_ | refine AL.blk ?_)
    refine AL.cond ?_
    simp
    have h012 : i = 0 ∨ i = 1 ∨ i = 2 := by omega
    rcases h012 with rfl | rfl | rfl
    · simp
      repeat (first | refine AL.seq ?_ | refine AL.block ?_ | refine AL.skip ?_ | refine AL.blk ?_)
      refine AL.region follows_Tryz (Nat.le_refl _) (by kernel_rfl) ?_
      simp
      repeat (first | refine AL.seq ?_ | refine AL.block ?_ | refine AL.skip ?_ | refine AL.blk ?_)
      refine AL.region follows_Tryz (Nat.le_refl _) (by kernel_rfl) ?_
      simp
      refine Stop.of_d (graphValid_c a ha _ _) ?_
      simp
      by_cases hv : validG a = 0
      · repeat (first | refine AL.seq ?_ | refine AL.block ?_ | refine AL.skip ?_ | refine AL.blk ?_)
        refine AL.region follows_Tryz (Nat.le_refl _) (by kernel_rfl) ?_
        simp [hv]
        repeat (first | refine AL.seq ?_ | refine AL.block ?_ | refine AL.skip ?_ | refine AL.blk ?_)
        refine AL.cond ?_
        simp
        repeat (first | refine AL.seq ?_ | refine AL.block ?_ | refine AL.skip ?_ | refine AL.blk ?_)
        refine AL.region follows_Tryz (Nat.le_refl _) (by kernel_rfl) ?_
        simp [show IntKind.i64.wrap 1 = 1 from rfl]
        repeat (first | refine AL.seq ?_ | refine AL.block ?_ | refine AL.skip ?_ | refine AL.blk ?_)
        refine AL.nil ?_
        refine ⟨1, ⟨by omega, fun _ => hv, by omega⟩, by decide, Weaks.mk (Nat.le_refl _) rfl (by simp [ToL, lk]) (by simp [BoxL, lk])⟩
      · repeat (first | refine AL.seq ?_ | refine AL.block ?_ | refine AL.skip ?_ | refine AL.blk ?_)
        refine AL.region follows_Tryz (Nat.le_refl _) (by kernel_rfl) ?_
        simp
        repeat (first | refine AL.seq ?_ | refine AL.block ?_ | refine AL.skip ?_ | refine AL.blk ?_)
        refine AL.cond ?_
        simp [hv]
        repeat (first | refine AL.seq ?_ | refine AL.block ?_ | refine AL.skip ?_ | refine AL.blk ?_)
        refine AL.region follows_Tryz (Nat.le_refl _) (by kernel_rfl) ?_
        simp
        have hR : overlapsR a b = ([], validG a) := by simp [overlapsR, hv]
        repeat (first | refine AL.seq ?_ | refine AL.block ?_ | refine AL.skip ?_ | refine AL.blk ?_)
        refine AL.ret ?_
        try simp only [AU]
        refine ⟨by simp, (Fin.data (av := .tup [.osl 0 [] .full, I (validG a)]) (by simp [resAs, resA]; rfl) hbox rfl htok (fun _ h => h) (Nat.le_refl _) (by simp [packA])).mono fun v m hq => ⟨.inr ⟨by rw [hR], by rw [hR, hq.1]⟩, hq.2⟩⟩
    · simp
      have h0 : validG a = 0 := h0 (by omega)
      repeat (first | refine AL.seq ?_ | refine AL.block ?_ | refine AL.skip ?_ | refine AL.blk ?_)
      refine AL.region follows_Tryz (Nat.le_refl _) (by kernel_rfl) ?_
      simp
      repeat (first | refine AL.seq ?_ | refine AL.block ?_ | refine AL.skip ?_ | refine AL.blk ?_)
      refine AL.region follows_Tryz (Nat.le_refl _) (by kernel_rfl) ?_
      simp
      refine Stop.of_d (graphValid_c b hb _ _) ?_
      simp
      by_cases hv : validG b = 0
      · repeat (first | refine AL.seq ?_ | refine AL.block ?_ | refine AL.skip ?_ | refine AL.blk ?_)
        refine AL.region follows_Tryz (Nat.le_refl _) (by kernel_rfl) ?_
        simp [hv]
        repeat (first | refine AL.seq ?_ | refine AL.block ?_ | refine AL.skip ?_ | refine AL.blk ?_)
        refine AL.cond ?_
        simp
        repeat (first | refine AL.seq ?_ | refine AL.block ?_ | refine AL.skip ?_ | refine AL.blk ?_)
        refine AL.region follows_Tryz (Nat.le_refl _) (by kernel_rfl) ?_
        simp [show IntKind.i64.wrap 2 = 2 from rfl]
        repeat (first | refine AL.seq ?_ | refine AL.block ?_ | refine AL.skip ?_ | refine AL.blk ?_)
        refine AL.nil ?_
        refine ⟨2, ⟨by omega, fun _ => h0, fun _ => hv⟩, by decide, Weaks.mk (Nat.le_refl _) rfl (by simp [ToL, lk]) (by simp [BoxL, lk])⟩
      · repeat (first | refine AL.seq ?_ | refine AL.block ?_ | refine AL.skip ?_ | refine AL.blk ?_)
        refine AL.region follows_Tryz (Nat.le_refl _) (by kernel_rfl) ?_
        simp
        repeat (first | refine AL.seq ?_ | refine AL.block ?_ | refine AL.skip ?_ | refine AL.blk ?_)
        refine AL.cond ?_
        simp [hv]
        repeat (first | refine AL.seq ?_ | refine AL.block ?_ | refine AL.skip ?_ | refine AL.blk ?_)
        refine AL.region follows_Tryz (Nat.le_refl _) (by kernel_rfl) ?_
        simp
        have hR : overlapsR a b = ([], validG b) := by simp [overlapsR, hv, h0]
        repeat (first | refine AL.seq ?_ | refine AL.block ?_ | refine AL.skip ?_ | refine AL.blk ?_)
        refine AL.ret ?_
        try simp only [AU]
        refine ⟨by simp, (Fin.data (av := .tup [.osl 0 [] .full, I (validG b)]) (by simp [resAs, resA]; rfl) hbox rfl htok (fun _ h => h) (Nat.le_refl _) (by simp [packA])).mono fun v m hq => ⟨.inr ⟨by rw [hR], by rw [hR, hq.1]⟩, hq.2⟩⟩
    · simp
      repeat (first | refine AL.seq ?_ | refine AL.block ?_ | refine AL.skip ?_ | refine AL.blk ?_)
      refine AL.exit ?_
      simp only [AU, ↓reduceIte]
      have hva : validG a = 0 := h0 (by omega)
      have hvb : validG b = 0 := h1 (by omega)
      have hw1 : IntKind.i64.wrap (↑a.nodes.length + ↑b.nodes.length) = (a.nodes.length : Int) + b.nodes.length := wrap_in (by omega) (by omega)
      have hw2 : IntKind.i64.wrap (↑a.edges.length + ↑b.edges.length) = (a.edges.length : Int) + b.edges.length := wrap_in (by omega) (by omega)
      have big : (40 < a.nodes.length + b.nodes.length ∨ 80 < a.edges.length + b.edges.length) → ∀ {l loc}, Fin Tryz.prog ⟨nb, nb + 58, 58, box⟩ nt [ResultVar.tmp 4, ResultVar.tmp 5] (fun v m => (v = .tup [.d (ovs (overlapsR a b).1), I (overlapsR a b).2] ∨ (overlapsR a b).1 = [] ∧ v = .tup [.osl 0 [] .full, I (overlapsR a b).2]) ∧ m = ⟨box, nb, tok, nt⟩)
          ⟨tl ((5, I 3) :: (4, .osl 0 [] .full) :: l), lb nb box loc, tok, nt⟩ := fun hbig {l loc} => by
        have hR : overlapsR a b = ([], 3) := by simp [overlapsR, hva, hvb, hbig]
        exact (Fin.data (av := .tup [.osl 0 [] .full, I 3]) (by simp [resAs, resA]; rfl) hbox rfl htok (fun _ h => h) (Nat.le_refl _) (by simp [packA])).mono fun v m hq => ⟨.inr ⟨by rw [hR], by rw [hR, hq.1]⟩, hq.2⟩
      repeat (first | refine AL.seq ?_ | refine AL.block ?_ | refine AL.skip ?_ | refine AL.blk ?_)
      refine AL.region follows_Tryz (Nat.le_refl _) (by kernel_rfl) ?_
      simp [hw1, hw2]
      first | refine Gd.dt (fun hs1 => ?_) (fun hs1 => ?_) | refine Gd.df (fun hs1 => ?_) (fun hs1 => ?_) | refine Gd.t (fun hs1 => ?_) (fun hs1 => ?_) | refine Gd.f (fun hs1 => ?_) (fun hs1 => ?_)
      · simp [hs1, hw1, hw2]
        repeat (first | refine AL.seq ?_ | refine AL.block ?_ | refine AL.skip ?_ | refine AL.blk ?_)
        refine AL.cond ?_
        simp
        repeat (first | refine AL.seq ?_ | refine AL.block ?_ | refine AL.skip ?_ | refine AL.blk ?_)
        refine AL.region follows_Tryz (Nat.le_refl _) (by kernel_rfl) ?_
        simp
        repeat (first | refine AL.seq ?_ | refine AL.block ?_ | refine AL.skip ?_ | refine AL.blk ?_)
        refine AL.ret ?_
        try simp only [AU]
        exact ⟨by simp, big (by omega)⟩
      · simp [hs1, hw1, hw2]
        repeat (first | refine AL.seq ?_ | refine AL.block ?_ | refine AL.skip ?_ | refine AL.blk ?_)
        refine AL.cond ?_
        simp
        refine ⟨fun hs2 => ?_, fun hs2 => ?_⟩
        · repeat (first | refine AL.seq ?_ | refine AL.block ?_ | refine AL.skip ?_ | refine AL.blk ?_)
          refine AL.region follows_Tryz (Nat.le_refl _) (by kernel_rfl) ?_
          simp
          repeat (first | refine AL.seq ?_ | refine AL.block ?_ | refine AL.skip ?_ | refine AL.blk ?_)
          refine AL.ret ?_
          try simp only [AU]
          exact ⟨by simp, big (by omega)⟩
        · have hsm : ¬ (40 < a.nodes.length + b.nodes.length ∨ 80 < a.edges.length + b.edges.length) := by omega
          repeat (first | refine AL.seq ?_ | refine AL.block ?_ | refine AL.skip ?_ | refine AL.blk ?_)
          refine AL.region follows_Tryz (Nat.le_refl _) (by kernel_rfl) ?_
          simp
          refine AL.weak (Weaks.mk (l' := [(9, .ptr (nb + 45) 0 0)]) (loc' := [(45, [ovRow a b [] .full])]) (Nat.le_refl _) rfl (by simp [ToL, lk]) (by simp [BoxL, lk])) ?_
          repeat (first | refine AL.seq ?_ | refine AL.block ?_ | refine AL.skip ?_ | refine AL.blk ?_)
          refine AL.region follows_Tryz (Nat.le_refl _) (by kernel_rfl) ?_
          simp
          refine Stop.sub (args' := [.ptr (nb + 45) 0 0, .d (ints [])]) ⟨Sub.refl _, Sub.nil _ _ _, trivial⟩ ?_
          refine Stop.of_a (nodes_c a b ⟨ha, hva, hb, validG_edges hvb⟩ b.nodes.length [] [] .full _ _ (nb + 45) _ _ (by simp) (by simp) trivial) ?_
          rintro v m' ⟨rfl, own1, tok1, nt1, rfl, hadv⟩
          simp
          repeat (first | refine AL.seq ?_ | refine AL.block ?_ | refine AL.skip ?_ | refine AL.blk ?_)
          refine AL.region follows_Tryz (Nat.le_refl _) (by kernel_rfl) ?_
          simp
          repeat (first | refine AL.seq ?_ | refine AL.block ?_ | refine AL.skip ?_ | refine AL.blk ?_)
          refine AL.cond ?_
          simp
          have hkeep : ∀ t, tok t = true → tok1 t = true := fun t ht => hadv.keep t ht (by simp)
          refine ⟨fun hmany => ?_, fun hfew => ?_⟩
          · have hR : overlapsR a b = ([], 3) := by
              have : 2000 < (ovN a b b.nodes.length [] []).length := by omega
              simp [overlapsR, hva, hvb, hsm, this]
            repeat (first | refine AL.seq ?_ | refine AL.block ?_ | refine AL.skip ?_ | refine AL.blk ?_)
            refine AL.region follows_Tryz (Nat.le_refl _) (by kernel_rfl) ?_
            simp
            repeat (first | refine AL.seq ?_ | refine AL.block ?_ | refine AL.skip ?_ | refine AL.blk ?_)
            refine AL.ret ?_
            try simp only [AU]
            exact ⟨by simp, (Fin.data (av := .tup [.osl 0 [] .full, I 3]) (by simp [resAs, resA]; rfl) hbox rfl htok hkeep hadv.le (by simp [packA])).mono fun v m hq => ⟨.inr ⟨by rw [hR], by rw [hR, hq.1]⟩, hq.2⟩⟩
          · have hR : overlapsR a b = (ovN a b b.nodes.length [] [], 0) := by
              have : ¬ 2000 < (ovN a b b.nodes.length [] []).length := by omega
              simp [overlapsR, hva, hvb, hsm, this]
            repeat (first | refine AL.seq ?_ | refine AL.block ?_ | refine AL.skip ?_ | refine AL.blk ?_)
            refine AL.region follows_Tryz (Nat.le_refl _) (by kernel_rfl) ?_
            simp
            repeat (first | refine AL.seq ?_ | refine AL.block ?_ | refine AL.skip ?_ | refine AL.blk ?_)
            refine AL.ret ?_
            try simp only [AU]
            exact ⟨by simp, (Fin.data (av := .tup [.d (ovs (ovN a b b.nodes.length [] [])), I 0]) (by simp [resAs, resA]; rfl) hbox rfl htok hkeep hadv.le (by simp [packA])).mono fun v m hq => ⟨.inl (by rw [hR, hq.1]), hq.2⟩⟩
  refine main.conv fun v m h => ?_
  obtain ⟨rfl | ⟨h1, rfl⟩, rfl⟩ := h
  · exact ⟨_, _, Conv.refl _ _, rfl, rfl⟩
  · refine ⟨_, _, Conv.sub (v' := .tup [.d (ovs (overlapsR a b).1), I (overlapsR a b).2]) (Sub.tup ⟨?_, Sub.refl _, trivial⟩), rfl, rfl⟩
    rw [h1]
    exact Sub.nil _ _ _
end Go.AM
namespace Go.AM
open Go Go.Proofs
set_option linter.unusedSimpArgs false
set_option linter.unusedVariables false

/-! ### partition.right, one, Quotient -/
end Go.AM
namespace Go.AM
open Go Go.Proofs
set_option linter.unusedSimpArgs false
set_option linter.unusedVariables false

/-! ### partition.All -/
theorem flatMap_le {α β : Type} (f : α → List β) (k : Nat) (h : ∀ x, (f x).length ≤ k) : ∀ l : List α, (l.flatMap f).length ≤ l.length * k
  | [] => by simp
  | x :: l => by
    have := flatMap_le f k h l
    have := h x
    simp only [List.flatMap_cons, List.length_append, List.length_cons, Nat.succ_mul]
    omega

end Go.AM
namespace Go.AM
open Go Go.Proofs
set_option linter.unusedSimpArgs false
set_option linter.unusedVariables false

/-! ### ref13.numbered, quotient -/
end Go.AM
namespace Go.AM
open Go Go.Proofs
set_option linter.unusedSimpArgs false
set_option linter.unusedVariables false

/-! ### ref13.quotients.edges, nodes -/
end Go.AM
namespace Go.AM
open Go Go.Proofs
set_option linter.unusedSimpArgs false
set_option linter.unusedVariables false

/-! ### ref13.quotients.nodes, Quotients -/
end Go.AM
namespace Go.AM
open Go Go.Proofs
set_option linter.unusedSimpArgs false
set_option linter.unusedVariables false

/-! ### factor.alike, its closures -/
end Go.AM
namespace Go.AM
open Go Go.Proofs
set_option linter.unusedSimpArgs false
set_option linter.unusedVariables false

/-! ### factor.quotient -/
end Go.AM
/-
  The plain law of the standard quotients: listing all partitions and choosing those that fit is going on from the least elements, class by class. No program in sight.
-/
namespace Go.AM
open Go
set_option linter.unusedSimpArgs false
set_option linter.unusedVariables false

/-! ### Lists that grow up to 2001 -/
def lim {α : Type} (out L : List α) : List α := out ++ L.take (2001 - out.length)
theorem lim_nil {α : Type} (out : List α) : lim out [] = out := by simp [lim]
theorem lim_append {α : Type} (out A B : List α) : lim (lim out A) B = lim out (A ++ B) := by
  unfold lim
  rw [List.take_append, List.append_assoc]
  congr 2
  simp only [List.length_append, List.length_take]
  congr 1
  omega
theorem lim_full {α : Type} (out L : List α) (h : 2000 < out.length) : lim out L = out := by
  unfold lim
  have : 2001 - out.length = 0 := by omega
  simp [this]
theorem lim_one {α : Type} (out : List α) (x : α) (h : ¬ 2000 < out.length) : lim out [x] = out ++ [x] := by
  unfold lim
  have : 2001 - out.length = (2001 - out.length - 1) + 1 := by omega
  rw [this]
  simp
theorem foldl_lim {α : Type} (c : Nat → Bool) (f : Nat → List α → List α) (g : Nat → List α) : ∀ (ks : List Nat) (out : List α), (∀ k ∈ ks, ∀ out, f k out = lim out (g k)) →
    ks.foldl (fun out k => if c k = true then f k out else out) out = lim out ((ks.filter c).flatMap g)
  | [], out, _ => by simp [lim_nil]
  | k :: ks, out, h => by
    rw [List.foldl_cons, foldl_lim c f g ks _ (fun k hk => h k (by simp [hk]))]
    by_cases hk : c k = true
    · rw [List.filter_cons_of_pos hk, List.flatMap_cons, if_pos hk, h k (by simp), lim_append]
    · rw [List.filter_cons_of_neg hk, if_neg hk]

/-! ### One element after the other -/
/-! ### The reference's lists -/
/-! ### Numbers by least elements -/
section
variable {α : Type}
end

end Go.AM
namespace Go.AM
open Go Go.Proofs
set_option linter.unusedSimpArgs false
set_option linter.unusedVariables false

/-! ### factor.Quotients -/
end Go.AM
namespace Go.AM
open Go Go.Proofs
set_option linter.unusedSimpArgs false
set_option linter.unusedVariables false

/-! ### awake -/
theorem Sub.agg {xs ys : List AV} (h : SubL xs ys) : Sub (.agg xs) (.agg ys) := fun G w v r => by
  cases r with
  | agg hl hh h1 => have := h.rvs ⟨hl, hh⟩; exact .agg this.1 this.2 h1

end Go.AM
namespace Go.AM
open Go Go.Proofs
set_option linter.unusedSimpArgs false
set_option linter.unusedVariables false

/-! ### What the lists hold is small -/
theorem foldl_all {α β : Type} {P : α → Prop} (f : List α → β → List α) : ∀ (l : List β) (out : List α), (∀ out b, b ∈ l → (∀ o ∈ out, P o) → ∀ o ∈ f out b, P o) → (∀ o ∈ out, P o) → ∀ o ∈ l.foldl f out, P o
  | [], out, _, h => h
  | b :: l, out, hf, h => foldl_all f l _ (fun out b hb => hf out b (by simp [hb])) (hf out b (by simp) h)

theorem ovE_all {P : Ov → Prop} (a b : Gr) (nodes : List Int) : ∀ (n : Nat) (es : List Int) (out : List Ov), (∀ o ∈ out, P o) → (∀ es', es'.length = es.length + n → P (glue a b nodes es')) → ∀ o ∈ ovE a b nodes n es out, P o
  | 0, es, out, h, hg => by
    unfold ovE
    split
    · exact h
    · intro o ho
      rcases List.mem_append.1 ho with ho | ho
      · exact h o ho
      · simp at ho; subst ho; exact hg es (by simp)
  | n + 1, es, out, h, hg => by
    unfold ovE
    split
    · exact h
    · refine foldl_all _ _ _ (fun out k _ ho => ?_) (ovE_all a b nodes n _ _ h fun es' he => hg es' (by simp at he; omega))
      split
      · exact ovE_all a b nodes n _ _ ho fun es' he => hg es' (by simp at he; omega)
      · exact ho

theorem ovN_all {P : Ov → Prop} (a b : Gr) : ∀ (n : Nat) (l : List Int) (out : List Ov), (∀ o ∈ out, P o) → (∀ l' es', l'.length = l.length + n → es'.length = b.edges.length → P (glue a b l' es')) → ∀ o ∈ ovN a b n l out, P o
  | 0, l, out, h, hg => by
    unfold ovN
    split
    · exact h
    · exact ovE_all a b l _ _ _ h fun es' he => hg l es' (by simp) (by simpa using he)
  | n + 1, l, out, h, hg => by
    unfold ovN
    split
    · exact h
    · refine foldl_all _ _ _ (fun out k _ ho => ?_) (ovN_all a b n _ _ h fun l' es' hl he => hg l' es' (by simp at hl; omega) he)
      unfold ovStepN
      split
      · exact ovN_all a b n _ _ ho fun l' es' hl he => hg l' es' (by simp at hl; omega) he
      · exact ho

theorem glue_fit (a b : Gr) (l k : List Int) (ha : a.nodes.length ≤ 90 ∧ a.edges.length ≤ 90) (hl : l.length ≤ 90) (hk : k.length ≤ 90) : (glue a b l k).Fit := by
  have h1 := glueN_len a.nodes b.nodes l l.length
  have h2 := glueE_len a.edges b.edges (glueN a.nodes b.nodes l l.length).2 k k.length
  exact ⟨⟨by simp only [glue]; omega, by simp only [glue]; omega⟩, ⟨by simp [glue, idM]; omega, by simp [glue, idM]; omega⟩, ⟨by simp only [glue]; omega, by simp only [glue]; omega⟩⟩

theorem overlapsR_fit (a b : Gr) (ha : a.nodes.length ≤ 90 ∧ a.edges.length ≤ 90) (hb : b.nodes.length ≤ 90 ∧ b.edges.length ≤ 90) : (overlapsR a b).1.length ≤ 1000000 ∧ ∀ o ∈ (overlapsR a b).1, o.Fit := by
  have key : ∀ o ∈ ovN a b b.nodes.length [] [], o.Fit := ovN_all a b _ _ _ (by simp) fun l' es' h1 h2 => glue_fit a b l' es' ha (by simp at h1; omega) (by omega)
  unfold overlapsR
  split
  · simp
  · split
    · simp
    · split
      · simp
      · split
        · simp
        · exact ⟨by simp only; omega, key⟩

/-! ### The first two laws -/
end Go.AM
namespace Go.AM
open Go Go.Proofs
set_option linter.unusedSimpArgs false
set_option linter.unusedVariables false

/-! ### morphism.Valid, ref06.Valid -/
/-- The first error of a list. -/
def firstE (f : Nat → Int) : Nat → Int
  | 0 => 0
  | n + 1 => if firstE f n = 0 then f n else firstE f n
theorem firstE_stop {f : Nat → Int} {i : Nat} (h0 : firstE f i = 0) (h : f i ≠ 0) : ∀ n, i < n → firstE f n = f i
  | 0, hn => by omega
  | n + 1, hn => by
    simp only [firstE]
    by_cases e : i = n
    · subst e; rw [if_pos h0]
    · rw [firstE_stop h0 h n (by omega), if_neg h]

def nodeE (a b : Gr) (m : Mo) (i : Nat) : Int :=
  if m.nodes.getD i 0 < 0 ∨ (b.nodes.length : Int) ≤ m.nodes.getD i 0 then 6 else if b.nodes.getD (m.nodes.getD i 0).toNat 0 = a.nodes.getD i 0 then 0 else 13
def edgeE (a b : Gr) (m : Mo) (i : Nat) : Int :=
  if m.edges.getD i 0 < 0 ∨ (b.edges.length : Int) ≤ m.edges.getD i 0 then 6 else
    let x := a.edges.getD i default
    let y := b.edges.getD (m.edges.getD i 0).toNat default
    if x.ty ≠ y.ty then 13 else if m.nodes.getD x.fr.toNat 0 ≠ y.fr ∨ m.nodes.getD x.to.toNat 0 ≠ y.to then 11 else 0

def validM (a b : Gr) (m : Mo) : Int :=
  if validG a ≠ 0 then validG a else if validG b ≠ 0 then validG b else if m.nodes.length ≠ a.nodes.length ∨ m.edges.length ≠ a.edges.length then 20
  else if firstE (nodeE a b m) a.nodes.length ≠ 0 then firstE (nodeE a b m) a.nodes.length else firstE (edgeE a b m) a.edges.length

def st51a (a b : Gr) (m : Mo) (nb : Nat) (box : Nat → Option (List (List AV))) (tok : Nat → Bool) (nt : Nat) (i : Nat) : AState :=
  ⟨tl [(3, .ptr (nb + 3) 0 0), (4, .ptr (nb + 4) 0 0), (5, .ptr (nb + 5) 0 0), (42, .d (ints m.nodes)), (43, I m.nodes.length), (44, I i)],
    lb nb box [(3, [[.d (ints a.nodes), .d (AM.edges a.edges)]]), (4, [[.d (ints b.nodes), .d (AM.edges b.edges)]]), (5, [[.d (ints m.nodes), .d (ints m.edges)]])], tok, nt⟩

def st51b (a b : Gr) (m : Mo) (nb : Nat) (box : Nat → Option (List (List AV))) (tok : Nat → Bool) (nt : Nat) (i : Nat) : AState :=
  ⟨tl [(3, .ptr (nb + 3) 0 0), (4, .ptr (nb + 4) 0 0), (5, .ptr (nb + 5) 0 0), (71, .d (ints m.edges)), (72, I m.edges.length), (73, I i)],
    lb nb box [(3, [[.d (ints a.nodes), .d (AM.edges a.edges)]]), (4, [[.d (ints b.nodes), .d (AM.edges b.edges)]]), (5, [[.d (ints m.nodes), .d (ints m.edges)]])], tok, nt⟩

theorem valid51_c (a b : Gr) (m : Mo) (ha : a.Fit) (hb : b.Fit) (tok : Nat → Bool) (nt : Nat) : DCall Tryz.prog 44 [a.av, b.av, m.av] tok nt (I (validM a b m)) tok nt := by
  intro box nb
  have han := ha.n
  have hae := ha.e
  have hbn := hb.n
  have hbe := hb.e
  refine ACalls.of_body Tryz.func44 rfl (by kernel_rfl) follows_Tryz (by kernel_rfl) (by simp [Tryz.ntmps44]) ?_
  intro hbox htok
  simp only at hbox htok
  apply AL.start
  repeat (first | refine AL.seq ?_ | refine AL.block ?_ | refine AL.skip ?_ | refine AL.blk ?_)
  refine AL.region follows_Tryz (Nat.le_refl _) (by kernel_rfl) ?_
  simp
  repeat (first | refine AL.seq ?_ | refine AL.block ?_ | refine AL.skip ?_ | refine AL.blk ?_)
  refine AL.region follows_Tryz (Nat.le_refl _) (by kernel_rfl) ?_
  simp
  refine Stop.of_d (graphValid_c a ha _ _) ?_
  simp
  by_cases hva : validG a = 0
  · repeat (first | refine AL.seq ?_ | refine AL.block ?_ | refine AL.skip ?_ | refine AL.blk ?_)
    refine AL.region follows_Tryz (Nat.le_refl _) (by kernel_rfl) ?_
    simp [hva]
    repeat (first | refine AL.seq ?_ | refine AL.block ?_ | refine AL.skip ?_ | refine AL.blk ?_)
    refine AL.cond ?_
    simp
    repeat (first | refine AL.seq ?_ | refine AL.block ?_ | refine AL.skip ?_ | refine AL.blk ?_)
    refine AL.region follows_Tryz (Nat.le_refl _) (by kernel_rfl) ?_
    simp
    refine Stop.of_d (graphValid_c b hb _ _) ?_
    simp
    by_cases hvb : validG b = 0
    · repeat (first | refine AL.seq ?_ | refine AL.block ?_ | refine AL.skip ?_ | refine AL.blk ?_)
      refine AL.region follows_Tryz (Nat.le_refl _) (by kernel_rfl) ?_
      simp [hvb]
      repeat (first | refine AL.seq ?_ | refine AL.block ?_ | refine AL.skip ?_ | refine AL.blk ?_)
      refine AL.cond ?_
      simp
      have hxa := validG_edges hva
      have hxb := validG_edges hvb
      repeat (first | refine AL.seq ?_ | refine AL.block ?_ | refine AL.skip ?_ | refine AL.blk ?_)
      refine AL.region follows_Tryz (Nat.le_refl _) (by kernel_rfl) ?_
      simp
      by_cases hl1 : m.nodes.length = a.nodes.length
      · simp [hl1]
        repeat (first | refine AL.seq ?_ | refine AL.block ?_ | refine AL.skip ?_ | refine AL.blk ?_)
        refine AL.cond ?_
        simp
        refine ⟨fun hl2 => ?_, fun hl2 => ?_⟩
        · repeat (first | refine AL.seq ?_ | refine AL.block ?_ | refine AL.skip ?_ | refine AL.blk ?_)
          refine AL.region follows_Tryz (Nat.le_refl _) (by kernel_rfl) ?_
          simp
          have hR : validM a b m = 20 := by
            have : ¬ m.edges.length = a.edges.length := by omega
            simp [validM, hva, hvb, this]
          repeat (first | refine AL.seq ?_ | refine AL.block ?_ | refine AL.skip ?_ | refine AL.blk ?_)
          refine AL.ret ?_
          try simp only [AU]
          refine ⟨by simp, Fin.data (by simp [resAs, resA]; rfl) hbox rfl htok (fun _ h => h) (Nat.le_refl _) ?_⟩
          simp [packA, hR]
        · repeat (first | refine AL.seq ?_ | refine AL.block ?_ | refine AL.skip ?_ | refine AL.blk ?_)
          refine AL.region follows_Tryz (Nat.le_refl _) (by kernel_rfl) ?_
          simp
          repeat (first | refine AL.seq ?_ | refine AL.block ?_ | refine AL.skip ?_ | refine AL.blk ?_)
          have hl2' : m.edges.length = a.edges.length := by omega
          have hRn : ∀ i, i < a.nodes.length → firstE (nodeE a b m) i = 0 → nodeE a b m i ≠ 0 → validM a b m = nodeE a b m i := fun i hi h0 hne => by
            have := firstE_stop h0 hne a.nodes.length hi
            simp [validM, hva, hvb, hl1, hl2', this, hne]
          refine AL.loopT (st51a a b m nb box tok nt) (fun i => i ≤ m.nodes.length ∧ firstE (nodeE a b m) i = 0) (fun i => m.nodes.length - i) 0 ⟨Nat.zero_le _, rfl⟩ (Weaks.mk (Nat.le_refl _) rfl (by simp [ToL, lk]) (by simp [BoxL, lk])) ?_
          rintro i S ⟨hi, hok⟩ hS
          simp only [st51a] at hS
          subst hS
          have hw : IntKind.i64.wrap (↑i + 1) = ((i + 1 : Nat) : Int) := by rw [wrap_in (by omega) (by omega)]; rfl
          repeat (first | refine AL.seq ?_ | refine AL.block ?_ | refine AL.skip ?_ | refine AL.blk ?_)
          refine AL.region follows_Tryz (Nat.le_refl _) (by kernel_rfl) ?_
          simp
          repeat (first | refine AL.seq ?_ | refine AL.block ?_ | refine AL.skip ?_ | refine AL.blk ?_)
          refine AL.cond ?_
          simp
          refine ⟨fun hlt => ?_, fun hge => ?_⟩
          · have hia : i < a.nodes.length := by omega
            have hgm : m.nodes.getD i 0 = m.nodes[i] := by simp [hlt]
            have hga : a.nodes.getD i 0 = a.nodes[i] := by simp [hia]
            repeat (first | refine AL.seq ?_ | refine AL.block ?_ | refine AL.skip ?_ | refine AL.blk ?_)
            refine AL.region follows_Tryz (Nat.le_refl _) (by kernel_rfl) ?_
            simp [hlt]
            by_cases hneg : m.nodes[i] < 0
            · repeat (first | refine AL.seq ?_ | refine AL.block ?_ | refine AL.skip ?_ | refine AL.blk ?_)
              refine AL.region follows_Tryz (Nat.le_refl _) (by kernel_rfl) ?_
              simp [hneg]
              repeat (first | refine AL.seq ?_ | refine AL.block ?_ | refine AL.skip ?_ | refine AL.blk ?_)
              refine AL.cond ?_
              simp
              repeat (first | refine AL.seq ?_ | refine AL.block ?_ | refine AL.skip ?_ | refine AL.blk ?_)
              refine AL.region follows_Tryz (Nat.le_refl _) (by kernel_rfl) ?_
              simp
              have hN : nodeE a b m i = 6 := by simp only [nodeE, hgm]; rw [if_pos (.inl hneg)]
              have hR := hRn i hia hok (by rw [hN]; decide)
              repeat (first | refine AL.seq ?_ | refine AL.block ?_ | refine AL.skip ?_ | refine AL.blk ?_)
              refine AL.ret ?_
              try simp only [AU]
              refine ⟨by simp, Fin.data (by simp [resAs, resA]; rfl) hbox rfl htok (fun _ h => h) (Nat.le_refl _) ?_⟩
              simp [packA, hR, hN]
            · repeat (first | refine AL.seq ?_ | refine AL.block ?_ | refine AL.skip ?_ | refine AL.blk ?_)
              refine AL.region follows_Tryz (Nat.le_refl _) (by kernel_rfl) ?_
              simp [hneg]
              repeat (first | refine AL.seq ?_ | refine AL.block ?_ | refine AL.skip ?_ | refine AL.blk ?_)
              refine AL.cond ?_
              simp
              refine ⟨fun hbig => ?_, fun hsm => ?_⟩
              · repeat (first | refine AL.seq ?_ | refine AL.block ?_ | refine AL.skip ?_ | refine AL.blk ?_)
                refine AL.region follows_Tryz (Nat.le_refl _) (by kernel_rfl) ?_
                simp
                have hN : nodeE a b m i = 6 := by simp only [nodeE, hgm]; rw [if_pos (.inr (by omega))]
                have hR := hRn i hia hok (by rw [hN]; decide)
                repeat (first | refine AL.seq ?_ | refine AL.block ?_ | refine AL.skip ?_ | refine AL.blk ?_)
                refine AL.ret ?_
                try simp only [AU]
                refine ⟨by simp, Fin.data (by simp [resAs, resA]; rfl) hbox rfl htok (fun _ h => h) (Nat.le_refl _) ?_⟩
                simp [packA, hR, hN]
              · have hkb : m.nodes[i].toNat < b.nodes.length := by omega
                have h0 : 0 ≤ m.nodes[i] := by omega
                have hgb : b.nodes.getD m.nodes[i].toNat 0 = b.nodes[m.nodes[i].toNat] := by simp [hkb]
                have hnb : ¬ (b.nodes.length : Int) ≤ m.nodes[i] := by omega
                repeat (first | refine AL.seq ?_ | refine AL.block ?_ | refine AL.skip ?_ | refine AL.blk ?_)
                refine AL.region follows_Tryz (Nat.le_refl _) (by kernel_rfl) ?_
                simp [hkb, h0, hsm, hia]
                repeat (first | refine AL.seq ?_ | refine AL.block ?_ | refine AL.skip ?_ | refine AL.blk ?_)
                refine AL.cond ?_
                simp
                refine ⟨fun hne => ?_, fun heq => ?_⟩
                · repeat (first | refine AL.seq ?_ | refine AL.block ?_ | refine AL.skip ?_ | refine AL.blk ?_)
                  refine AL.region follows_Tryz (Nat.le_refl _) (by kernel_rfl) ?_
                  simp
                  have hN : nodeE a b m i = 13 := by simp only [nodeE, hgm, hga, hgb]; rw [if_neg (by omega), if_neg hne]
                  have hR := hRn i hia hok (by rw [hN]; decide)
                  repeat (first | refine AL.seq ?_ | refine AL.block ?_ | refine AL.skip ?_ | refine AL.blk ?_)
                  refine AL.ret ?_
                  try simp only [AU]
                  refine ⟨by simp, Fin.data (by simp [resAs, resA]; rfl) hbox rfl htok (fun _ h => h) (Nat.le_refl _) ?_⟩
                  simp [packA, hR, hN]
                · repeat (first | refine AL.seq ?_ | refine AL.block ?_ | refine AL.skip ?_ | refine AL.blk ?_)
                  refine AL.region follows_Tryz (Nat.le_refl _) (by kernel_rfl) ?_
                  simp [hw]
                  repeat (first | refine AL.seq ?_ | refine AL.block ?_ | refine AL.skip ?_ | refine AL.blk ?_)
                  refine AL.nil ?_
                  refine ⟨i + 1, ⟨hlt, ?_⟩, by omega, Weaks.mk (Nat.le_refl _) rfl (by simp [ToL, lk]) (by simp [BoxL, lk])⟩
                  have hN : nodeE a b m i = 0 := by simp only [nodeE, hgm, hga, hgb]; rw [if_neg (by omega), if_pos heq]
                  simp only [firstE, hok, hN, ↓reduceIte]
          · repeat (first | refine AL.seq ?_ | refine AL.block ?_ | refine AL.skip ?_ | refine AL.blk ?_)
            refine AL.exit ?_
            simp only [AU, ↓reduceIte]
            have hin : i = a.nodes.length := by omega
            subst hin
            repeat (first | refine AL.seq ?_ | refine AL.block ?_ | refine AL.skip ?_ | refine AL.blk ?_)
            refine AL.region follows_Tryz (Nat.le_refl _) (by kernel_rfl) ?_
            simp
            repeat (first | refine AL.seq ?_ | refine AL.block ?_ | refine AL.skip ?_ | refine AL.blk ?_)
            have hRe : ∀ i, i < a.edges.length → firstE (edgeE a b m) i = 0 → edgeE a b m i ≠ 0 → validM a b m = edgeE a b m i := fun i hi h0 hne => by
              have := firstE_stop h0 hne a.edges.length hi
              simp [validM, hva, hvb, hl1, hl2', hok, this]
            refine AL.loopT (st51b a b m nb box tok nt) (fun i => i ≤ m.edges.length ∧ firstE (edgeE a b m) i = 0) (fun i => m.edges.length - i) 0 ⟨Nat.zero_le _, rfl⟩ (Weaks.mk (Nat.le_refl _) rfl (by simp [ToL, lk]) (by simp [BoxL, lk])) ?_
            rintro i S ⟨hi, hoke⟩ hS
            simp only [st51b] at hS
            subst hS
            have hw : IntKind.i64.wrap (↑i + 1) = ((i + 1 : Nat) : Int) := by rw [wrap_in (by omega) (by omega)]; rfl
            repeat (first | refine AL.seq ?_ | refine AL.block ?_ | refine AL.skip ?_ | refine AL.blk ?_)
            refine AL.region follows_Tryz (Nat.le_refl _) (by kernel_rfl) ?_
            simp
            repeat (first | refine AL.seq ?_ | refine AL.block ?_ | refine AL.skip ?_ | refine AL.blk ?_)
            refine AL.cond ?_
            simp
            refine ⟨fun hlt => ?_, fun hge => ?_⟩
            · have hia : i < a.edges.length := by omega
              have hgm : m.edges.getD i 0 = m.edges[i] := by simp [hlt]
              have hga : a.edges.getD i default = a.edges[i] := by simp [hia]
              obtain ⟨x1, x2, x3, x4⟩ := hxa _ (List.getElem_mem hia)
              rw [← hl1] at x2 x4
              have y1 : a.edges[i].fr.toNat < m.nodes.length := by omega
              have y2 : a.edges[i].to.toNat < m.nodes.length := by omega
              have hg1 : m.nodes.getD a.edges[i].fr.toNat 0 = m.nodes[a.edges[i].fr.toNat] := by simp [y1]
              have hg2 : m.nodes.getD a.edges[i].to.toNat 0 = m.nodes[a.edges[i].to.toNat] := by simp [y2]
              repeat (first | refine AL.seq ?_ | refine AL.block ?_ | refine AL.skip ?_ | refine AL.blk ?_)
              refine AL.region follows_Tryz (Nat.le_refl _) (by kernel_rfl) ?_
              simp [hlt]
              by_cases hneg : m.edges[i] < 0
              · repeat (first | refine AL.seq ?_ | refine AL.block ?_ | refine AL.skip ?_ | refine AL.blk ?_)
                refine AL.region follows_Tryz (Nat.le_refl _) (by kernel_rfl) ?_
                simp [hneg]
                repeat (first | refine AL.seq ?_ | refine AL.block ?_ | refine AL.skip ?_ | refine AL.blk ?_)
                refine AL.cond ?_
                simp
                repeat (first | refine AL.seq ?_ | refine AL.block ?_ | refine AL.skip ?_ | refine AL.blk ?_)
                refine AL.region follows_Tryz (Nat.le_refl _) (by kernel_rfl) ?_
                simp
                have hN : edgeE a b m i = 6 := by simp only [edgeE, hgm]; rw [if_pos (.inl hneg)]
                have hR := hRe i hia hoke (by rw [hN]; decide)
                repeat (first | refine AL.seq ?_ | refine AL.block ?_ | refine AL.skip ?_ | refine AL.blk ?_)
                refine AL.ret ?_
                try simp only [AU]
                refine ⟨by simp, Fin.data (by simp [resAs, resA]; rfl) hbox rfl htok (fun _ h => h) (Nat.le_refl _) ?_⟩
                simp [packA, hR, hN]
              · repeat (first | refine AL.seq ?_ | refine AL.block ?_ | refine AL.skip ?_ | refine AL.blk ?_)
                refine AL.region follows_Tryz (Nat.le_refl _) (by kernel_rfl) ?_
                simp [hneg]
                repeat (first | refine AL.seq ?_ | refine AL.block ?_ | refine AL.skip ?_ | refine AL.blk ?_)
                refine AL.cond ?_
                simp
                refine ⟨fun hbig => ?_, fun hsm => ?_⟩
                · repeat (first | refine AL.seq ?_ | refine AL.block ?_ | refine AL.skip ?_ | refine AL.blk ?_)
                  refine AL.region follows_Tryz (Nat.le_refl _) (by kernel_rfl) ?_
                  simp
                  have hN : edgeE a b m i = 6 := by simp only [edgeE, hgm]; rw [if_pos (.inr (by omega))]
                  have hR := hRe i hia hoke (by rw [hN]; decide)
                  repeat (first | refine AL.seq ?_ | refine AL.block ?_ | refine AL.skip ?_ | refine AL.blk ?_)
                  refine AL.ret ?_
                  try simp only [AU]
                  refine ⟨by simp, Fin.data (by simp [resAs, resA]; rfl) hbox rfl htok (fun _ h => h) (Nat.le_refl _) ?_⟩
                  simp [packA, hR, hN]
                · have hkb : m.edges[i].toNat < b.edges.length := by omega
                  have h0 : 0 ≤ m.edges[i] := by omega
                  have hgb : b.edges.getD m.edges[i].toNat default = b.edges[m.edges[i].toNat] := by simp [hkb]
                  have hnn : ¬ (m.edges[i] < 0 ∨ (b.edges.length : Int) ≤ m.edges[i]) := by omega
                  repeat (first | refine AL.seq ?_ | refine AL.block ?_ | refine AL.skip ?_ | refine AL.blk ?_)
                  refine AL.region2 follows_Tryz (Nat.le_refl _) (by kernel_rfl) (Side.of (by simp)) ?_
                  simp [hkb, h0, hsm, hia]
                  generalize hy : b.edges[m.edges[i].toNat] = y at *
                  repeat (first | refine AL.seq ?_ | refine AL.block ?_ | refine AL.skip ?_ | refine AL.blk ?_)
                  refine AL.region follows_Tryz (Nat.le_refl _) (by kernel_rfl) ?_
                  simp
                  repeat (first | refine AL.seq ?_ | refine AL.block ?_ | refine AL.skip ?_ | refine AL.blk ?_)
                  refine AL.cond ?_
                  simp
                  refine ⟨fun hty => ?_, fun hty => ?_⟩
                  · repeat (first | refine AL.seq ?_ | refine AL.block ?_ | refine AL.skip ?_ | refine AL.blk ?_)
                    refine AL.region follows_Tryz (Nat.le_refl _) (by kernel_rfl) ?_
                    simp
                    have hN : edgeE a b m i = 13 := by simp only [edgeE, hgm, hga, hgb]; rw [if_neg hnn, if_pos hty]
                    have hR := hRe i hia hoke (by rw [hN]; decide)
                    repeat (first | refine AL.seq ?_ | refine AL.block ?_ | refine AL.skip ?_ | refine AL.blk ?_)
                    refine AL.ret ?_
                    try simp only [AU]
                    refine ⟨by simp, Fin.data (by simp [resAs, resA]; rfl) hbox rfl htok (fun _ h => h) (Nat.le_refl _) ?_⟩
                    simp [packA, hR, hN]
                  · repeat (first | refine AL.seq ?_ | refine AL.block ?_ | refine AL.skip ?_ | refine AL.blk ?_)
                    refine AL.region follows_Tryz (Nat.le_refl _) (by kernel_rfl) ?_
                    simp [x1, x2, x3, x4, y1, y2]
                    by_cases hfr : m.nodes[a.edges[i].fr.toNat] = y.fr
                    · have hb1 : (m.nodes[a.edges[i].fr.toNat] != y.fr) = false := by simp [hfr]
                      simp only [hb1]
                      simp [x1, x2, x3, x4, y1, y2]
                      repeat (first | refine AL.seq ?_ | refine AL.block ?_ | refine AL.skip ?_ | refine AL.blk ?_)
                      refine AL.cond ?_
                      simp
                      refine ⟨fun hto => ?_, fun hto => ?_⟩
                      · repeat (first | refine AL.seq ?_ | refine AL.block ?_ | refine AL.skip ?_ | refine AL.blk ?_)
                        refine AL.region follows_Tryz (Nat.le_refl _) (by kernel_rfl) ?_
                        simp
                        have hN : edgeE a b m i = 11 := by simp only [edgeE, hgm, hga, hgb, hg1, hg2]; rw [if_neg hnn, if_neg (by simp [hty]), if_pos (.inr hto)]
                        have hR := hRe i hia hoke (by rw [hN]; decide)
                        repeat (first | refine AL.seq ?_ | refine AL.block ?_ | refine AL.skip ?_ | refine AL.blk ?_)
                        refine AL.ret ?_
                        try simp only [AU]
                        refine ⟨by simp, Fin.data (by simp [resAs, resA]; rfl) hbox rfl htok (fun _ h => h) (Nat.le_refl _) ?_⟩
                        simp [packA, hR, hN]
                      · repeat (first | refine AL.seq ?_ | refine AL.block ?_ | refine AL.skip ?_ | refine AL.blk ?_)
                        refine AL.region follows_Tryz (Nat.le_refl _) (by kernel_rfl) ?_
                        simp [hw]
                        repeat (first | refine AL.seq ?_ | refine AL.block ?_ | refine AL.skip ?_ | refine AL.blk ?_)
                        refine AL.nil ?_
                        refine ⟨i + 1, ⟨hlt, ?_⟩, by omega, Weaks.mk (Nat.le_refl _) rfl (by simp [ToL, lk]) (by simp [BoxL, lk])⟩
                        have hN : edgeE a b m i = 0 := by simp only [edgeE, hgm, hga, hgb, hg1, hg2]; rw [if_neg hnn, if_neg (by simp [hty]), if_neg (by simp [hfr, hto])]
                        simp only [firstE, hoke, hN, ↓reduceIte]
                    · have hb1 : (m.nodes[a.edges[i].fr.toNat] != y.fr) = true := by simp [hfr]
                      simp only [hb1]
                      simp
                      repeat (first | refine AL.seq ?_ | refine AL.block ?_ | refine AL.skip ?_ | refine AL.blk ?_)
                      refine AL.cond ?_
                      simp
                      repeat (first | refine AL.seq ?_ | refine AL.block ?_ | refine AL.skip ?_ | refine AL.blk ?_)
                      refine AL.region follows_Tryz (Nat.le_refl _) (by kernel_rfl) ?_
                      simp
                      have hN : edgeE a b m i = 11 := by simp only [edgeE, hgm, hga, hgb, hg1, hg2]; rw [if_neg hnn, if_neg (by simp [hty]), if_pos (.inl hfr)]
                      have hR := hRe i hia hoke (by rw [hN]; decide)
                      repeat (first | refine AL.seq ?_ | refine AL.block ?_ | refine AL.skip ?_ | refine AL.blk ?_)
                      refine AL.ret ?_
                      try simp only [AU]
                      refine ⟨by simp, Fin.data (by simp [resAs, resA]; rfl) hbox rfl htok (fun _ h => h) (Nat.le_refl _) ?_⟩
                      simp [packA, hR, hN]
            · repeat (first | refine AL.seq ?_ | refine AL.block ?_ | refine AL.skip ?_ | refine AL.blk ?_)
              refine AL.exit ?_
              simp only [AU, ↓reduceIte]
              have hin : i = a.edges.length := by omega
              subst hin
              repeat (first | refine AL.seq ?_ | refine AL.block ?_ | refine AL.skip ?_ | refine AL.blk ?_)
              refine AL.region follows_Tryz (Nat.le_refl _) (by kernel_rfl) ?_
              simp
              have hR : validM a b m = 0 := by simp [validM, hva, hvb, hl1, hl2', hok, hoke]
              repeat (first | refine AL.seq ?_ | refine AL.block ?_ | refine AL.skip ?_ | refine AL.blk ?_)
              refine AL.ret ?_
              try simp only [AU]
              refine ⟨by simp, Fin.data (by simp [resAs, resA]; rfl) hbox rfl htok (fun _ h => h) (Nat.le_refl _) ?_⟩
              simp [packA, hR]
      · have hb1 : ((m.nodes.length : Int) != (a.nodes.length : Int)) = true := by simp; omega
        simp only [hb1]
        simp
        repeat (first | refine AL.seq ?_ | refine AL.block ?_ | refine AL.skip ?_ | refine AL.blk ?_)
        refine AL.cond ?_
        simp
        repeat (first | refine AL.seq ?_ | refine AL.block ?_ | refine AL.skip ?_ | refine AL.blk ?_)
        refine AL.region follows_Tryz (Nat.le_refl _) (by kernel_rfl) ?_
        simp
        have hR : validM a b m = 20 := by simp [validM, hva, hvb, hl1]
        repeat (first | refine AL.seq ?_ | refine AL.block ?_ | refine AL.skip ?_ | refine AL.blk ?_)
        refine AL.ret ?_
        try simp only [AU]
        refine ⟨by simp, Fin.data (by simp [resAs, resA]; rfl) hbox rfl htok (fun _ h => h) (Nat.le_refl _) ?_⟩
        simp [packA, hR]
    · repeat (first | refine AL.seq ?_ | refine AL.block ?_ | refine AL.skip ?_ | refine AL.blk ?_)
      refine AL.region follows_Tryz (Nat.le_refl _) (by kernel_rfl) ?_
      simp
      repeat (first | refine AL.seq ?_ | refine AL.block ?_ | refine AL.skip ?_ | refine AL.blk ?_)
      refine AL.cond ?_
      simp [hvb]
      repeat (first | refine AL.seq ?_ | refine AL.block ?_ | refine AL.skip ?_ | refine AL.blk ?_)
      refine AL.region follows_Tryz (Nat.le_refl _) (by kernel_rfl) ?_
      simp
      repeat (first | refine AL.seq ?_ | refine AL.block ?_ | refine AL.skip ?_ | refine AL.blk ?_)
      refine AL.ret ?_
      try simp only [AU]
      refine ⟨by simp, Fin.data (by simp [resAs, resA]; rfl) hbox rfl htok (fun _ h => h) (Nat.le_refl _) ?_⟩
      simp [packA, validM, hva, hvb]
  · repeat (first | refine AL.seq ?_ | refine AL.block ?_ | refine AL.skip ?_ | refine AL.blk ?_)
    refine AL.region follows_Tryz (Nat.le_refl _) (by kernel_rfl) ?_
    simp
    repeat (first | refine AL.seq ?_ | refine AL.block ?_ | refine AL.skip ?_ | refine AL.blk ?_)
    refine AL.cond ?_
    simp [hva]
    repeat (first | refine AL.seq ?_ | refine AL.block ?_ | refine AL.skip ?_ | refine AL.blk ?_)
    refine AL.region follows_Tryz (Nat.le_refl _) (by kernel_rfl) ?_
    simp
    repeat (first | refine AL.seq ?_ | refine AL.block ?_ | refine AL.skip ?_ | refine AL.blk ?_)
    refine AL.ret ?_
    try simp only [AU]
    refine ⟨by simp, Fin.data (by simp [resAs, resA]; rfl) hbox rfl htok (fun _ h => h) (Nat.le_refl _) ?_⟩
    simp [packA, validM, hva]
end Go.AM
namespace Go.AM
open Go Go.Proofs
set_option linter.unusedSimpArgs false
set_option linter.unusedVariables false

def st53a (a b : Gr) (m : Mo) (nb : Nat) (box : Nat → Option (List (List AV))) (tok : Nat → Bool) (nt : Nat) (i : Nat) : AState :=
  ⟨tl [(3, .ptr (nb + 3) 0 0), (4, .ptr (nb + 4) 0 0), (5, .ptr (nb + 5) 0 0), (9, I i)],
    lb nb box [(3, [[.d (ints a.nodes), .d (AM.edges a.edges)]]), (4, [[.d (ints b.nodes), .d (AM.edges b.edges)]]), (5, [[.d (ints m.nodes), .d (ints m.edges)]])], tok, nt⟩

def st53b (a b : Gr) (m : Mo) (nb : Nat) (box : Nat → Option (List (List AV))) (tok : Nat → Bool) (nt : Nat) (i : Nat) : AState :=
  ⟨tl [(3, .ptr (nb + 3) 0 0), (4, .ptr (nb + 4) 0 0), (5, .ptr (nb + 5) 0 0), (10, I i)],
    lb nb box [(3, [[.d (ints a.nodes), .d (AM.edges a.edges)]]), (4, [[.d (ints b.nodes), .d (AM.edges b.edges)]]), (5, [[.d (ints m.nodes), .d (ints m.edges)]])], tok, nt⟩

theorem valid53_c (a b : Gr) (m : Mo) (ha : a.Fit) (hb : b.Fit) (tok : Nat → Bool) (nt : Nat) : DCall Tryz.prog 53 [a.av, b.av, m.av] tok nt (I (validM a b m)) tok nt := by
  intro box nb
  have han := ha.n
  have hae := ha.e
  have hbn := hb.n
  have hbe := hb.e
  refine ACalls.of_body Tryz.func53 rfl (by kernel_rfl) follows_Tryz (by kernel_rfl) (by simp [Tryz.ntmps53]) ?_
  intro hbox htok
  simp only at hbox htok
  apply AL.start
  repeat (first | refine AL.seq ?_ | refine AL.block ?_ | refine AL.skip ?_ | refine AL.blk ?_)
  refine AL.region follows_Tryz (Nat.le_refl _) (by kernel_rfl) ?_
  simp
  repeat (first | refine AL.seq ?_ | refine AL.block ?_ | refine AL.skip ?_ | refine AL.blk ?_)
  refine AL.region follows_Tryz (Nat.le_refl _) (by kernel_rfl) ?_
  simp
  refine Stop.of_d (valid05_c a ha _ _) ?_
  simp
  by_cases hva : validG a = 0
  · repeat (first | refine AL.seq ?_ | refine AL.block ?_ | refine AL.skip ?_ | refine AL.blk ?_)
    refine AL.region follows_Tryz (Nat.le_refl _) (by kernel_rfl) ?_
    simp [hva]
    repeat (first | refine AL.seq ?_ | refine AL.block ?_ | refine AL.skip ?_ | refine AL.blk ?_)
    refine AL.cond ?_
    simp
    repeat (first | refine AL.seq ?_ | refine AL.block ?_ | refine AL.skip ?_ | refine AL.blk ?_)
    refine AL.region follows_Tryz (Nat.le_refl _) (by kernel_rfl) ?_
    simp
    refine Stop.of_d (valid05_c b hb _ _) ?_
    simp
    by_cases hvb : validG b = 0
    · repeat (first | refine AL.seq ?_ | refine AL.block ?_ | refine AL.skip ?_ | refine AL.blk ?_)
      refine AL.region follows_Tryz (Nat.le_refl _) (by kernel_rfl) ?_
      simp [hvb]
      repeat (first | refine AL.seq ?_ | refine AL.block ?_ | refine AL.skip ?_ | refine AL.blk ?_)
      refine AL.cond ?_
      simp
      have hxa := validG_edges hva
      have hxb := validG_edges hvb
      repeat (first | refine AL.seq ?_ | refine AL.block ?_ | refine AL.skip ?_ | refine AL.blk ?_)
      refine AL.region follows_Tryz (Nat.le_refl _) (by kernel_rfl) ?_
      simp
      by_cases hl1 : m.nodes.length = a.nodes.length
      · simp [hl1]
        repeat (first | refine AL.seq ?_ | refine AL.block ?_ | refine AL.skip ?_ | refine AL.blk ?_)
        refine AL.cond ?_
        simp
        refine ⟨fun hl2 => ?_, fun hl2 => ?_⟩
        · repeat (first | refine AL.seq ?_ | refine AL.block ?_ | refine AL.skip ?_ | refine AL.blk ?_)
          refine AL.region follows_Tryz (Nat.le_refl _) (by kernel_rfl) ?_
          simp
          have hR : validM a b m = 20 := by
            have : ¬ m.edges.length = a.edges.length := by omega
            simp [validM, hva, hvb, this]
          repeat (first | refine AL.seq ?_ | refine AL.block ?_ | refine AL.skip ?_ | refine AL.blk ?_)
          refine AL.ret ?_
          try simp only [AU]
          refine ⟨by simp, Fin.data (by simp [resAs, resA]; rfl) hbox rfl htok (fun _ h => h) (Nat.le_refl _) ?_⟩
          simp [packA, hR]
        · repeat (first | refine AL.seq ?_ | refine AL.block ?_ | refine AL.skip ?_ | refine AL.blk ?_)
          refine AL.region follows_Tryz (Nat.le_refl _) (by kernel_rfl) ?_
          simp
          repeat (first | refine AL.seq ?_ | refine AL.block ?_ | refine AL.skip ?_ | refine AL.blk ?_)
          have hl2' : m.edges.length = a.edges.length := by omega
          have hRn : ∀ i, i < a.nodes.length → firstE (nodeE a b m) i = 0 → nodeE a b m i ≠ 0 → validM a b m = nodeE a b m i := fun i hi h0 hne => by
            have := firstE_stop h0 hne a.nodes.length hi
            simp [validM, hva, hvb, hl1, hl2', this, hne]
          refine AL.loopT (st53a a b m nb box tok nt) (fun i => i ≤ a.nodes.length ∧ firstE (nodeE a b m) i = 0) (fun i => a.nodes.length - i) 0 ⟨Nat.zero_le _, rfl⟩ (Weaks.mk (Nat.le_refl _) rfl (by simp [ToL, lk]) (by simp [BoxL, lk])) ?_
          rintro i S ⟨hi, hok⟩ hS
          simp only [st53a] at hS
          subst hS
          have hw : IntKind.i64.wrap (↑i + 1) = ((i + 1 : Nat) : Int) := by rw [wrap_in (by omega) (by omega)]; rfl
          repeat (first | refine AL.seq ?_ | refine AL.block ?_ | refine AL.skip ?_ | refine AL.blk ?_)
          refine AL.region follows_Tryz (Nat.le_refl _) (by kernel_rfl) ?_
          simp
          repeat (first | refine AL.seq ?_ | refine AL.block ?_ | refine AL.skip ?_ | refine AL.blk ?_)
          refine AL.cond ?_
          simp
          refine ⟨fun hlt => ?_, fun hge => ?_⟩
          · have hia : i < a.nodes.length := by omega
            have hlt : i < m.nodes.length := by omega
            have hgm : m.nodes.getD i 0 = m.nodes[i] := by simp [hlt]
            have hga : a.nodes.getD i 0 = a.nodes[i] := by simp [hia]
            repeat (first | refine AL.seq ?_ | refine AL.block ?_ | refine AL.skip ?_ | refine AL.blk ?_)
            refine AL.region follows_Tryz (Nat.le_refl _) (by kernel_rfl) ?_
            simp [hlt]
            by_cases hneg : m.nodes[i] < 0
            · simp [hneg, hlt]
              repeat (first | refine AL.seq ?_ | refine AL.block ?_ | refine AL.skip ?_ | refine AL.blk ?_)
              refine AL.cond ?_
              simp
              repeat (first | refine AL.seq ?_ | refine AL.block ?_ | refine AL.skip ?_ | refine AL.blk ?_)
              refine AL.region follows_Tryz (Nat.le_refl _) (by kernel_rfl) ?_
              simp
              have hN : nodeE a b m i = 6 := by simp only [nodeE, hgm]; rw [if_pos (.inl hneg)]
              have hR := hRn i hia hok (by rw [hN]; decide)
              repeat (first | refine AL.seq ?_ | refine AL.block ?_ | refine AL.skip ?_ | refine AL.blk ?_)
              refine AL.ret ?_
              try simp only [AU]
              refine ⟨by simp, Fin.data (by simp [resAs, resA]; rfl) hbox rfl htok (fun _ h => h) (Nat.le_refl _) ?_⟩
              simp [packA, hR, hN]
            · simp [hneg, hlt]
              repeat (first | refine AL.seq ?_ | refine AL.block ?_ | refine AL.skip ?_ | refine AL.blk ?_)
              refine AL.cond ?_
              simp
              refine ⟨fun hbig => ?_, fun hsm => ?_⟩
              · repeat (first | refine AL.seq ?_ | refine AL.block ?_ | refine AL.skip ?_ | refine AL.blk ?_)
                refine AL.region follows_Tryz (Nat.le_refl _) (by kernel_rfl) ?_
                simp
                have hN : nodeE a b m i = 6 := by simp only [nodeE, hgm]; rw [if_pos (.inr (by omega))]
                have hR := hRn i hia hok (by rw [hN]; decide)
                repeat (first | refine AL.seq ?_ | refine AL.block ?_ | refine AL.skip ?_ | refine AL.blk ?_)
                refine AL.ret ?_
                try simp only [AU]
                refine ⟨by simp, Fin.data (by simp [resAs, resA]; rfl) hbox rfl htok (fun _ h => h) (Nat.le_refl _) ?_⟩
                simp [packA, hR, hN]
              · have hkb : m.nodes[i].toNat < b.nodes.length := by omega
                have h0 : 0 ≤ m.nodes[i] := by omega
                have hgb : b.nodes.getD m.nodes[i].toNat 0 = b.nodes[m.nodes[i].toNat] := by simp [hkb]
                have hnb : ¬ (b.nodes.length : Int) ≤ m.nodes[i] := by omega
                repeat (first | refine AL.seq ?_ | refine AL.block ?_ | refine AL.skip ?_ | refine AL.blk ?_)
                refine AL.region follows_Tryz (Nat.le_refl _) (by kernel_rfl) ?_
                simp [hkb, h0, hsm, hia, hlt]
                repeat (first | refine AL.seq ?_ | refine AL.block ?_ | refine AL.skip ?_ | refine AL.blk ?_)
                refine AL.cond ?_
                simp
                refine ⟨fun hne => ?_, fun heq => ?_⟩
                · repeat (first | refine AL.seq ?_ | refine AL.block ?_ | refine AL.skip ?_ | refine AL.blk ?_)
                  refine AL.region follows_Tryz (Nat.le_refl _) (by kernel_rfl) ?_
                  simp
                  have hN : nodeE a b m i = 13 := by simp only [nodeE, hgm, hga, hgb]; rw [if_neg (by omega), if_neg hne]
                  have hR := hRn i hia hok (by rw [hN]; decide)
                  repeat (first | refine AL.seq ?_ | refine AL.block ?_ | refine AL.skip ?_ | refine AL.blk ?_)
                  refine AL.ret ?_
                  try simp only [AU]
                  refine ⟨by simp, Fin.data (by simp [resAs, resA]; rfl) hbox rfl htok (fun _ h => h) (Nat.le_refl _) ?_⟩
                  simp [packA, hR, hN]
                · repeat (first | refine AL.seq ?_ | refine AL.block ?_ | refine AL.skip ?_ | refine AL.blk ?_)
                  refine AL.region follows_Tryz (Nat.le_refl _) (by kernel_rfl) ?_
                  simp [hw]
                  repeat (first | refine AL.seq ?_ | refine AL.block ?_ | refine AL.skip ?_ | refine AL.blk ?_)
                  refine AL.nil ?_
                  refine ⟨i + 1, ⟨hia, ?_⟩, by omega, Weaks.mk (Nat.le_refl _) rfl (by simp [ToL, lk]) (by simp [BoxL, lk])⟩
                  have hN : nodeE a b m i = 0 := by simp only [nodeE, hgm, hga, hgb]; rw [if_neg (by omega), if_pos heq]
                  simp only [firstE, hok, hN, ↓reduceIte]
          · repeat (first | refine AL.seq ?_ | refine AL.block ?_ | refine AL.skip ?_ | refine AL.blk ?_)
            refine AL.exit ?_
            simp only [AU, ↓reduceIte]
            have hin : i = a.nodes.length := by omega
            subst hin
            repeat (first | refine AL.seq ?_ | refine AL.block ?_ | refine AL.skip ?_ | refine AL.blk ?_)
            refine AL.region follows_Tryz (Nat.le_refl _) (by kernel_rfl) ?_
            simp
            repeat (first | refine AL.seq ?_ | refine AL.block ?_ | refine AL.skip ?_ | refine AL.blk ?_)
            have hRe : ∀ i, i < a.edges.length → firstE (edgeE a b m) i = 0 → edgeE a b m i ≠ 0 → validM a b m = edgeE a b m i := fun i hi h0 hne => by
              have := firstE_stop h0 hne a.edges.length hi
              simp [validM, hva, hvb, hl1, hl2', hok, this]
            refine AL.loopT (st53b a b m nb box tok nt) (fun i => i ≤ a.edges.length ∧ firstE (edgeE a b m) i = 0) (fun i => a.edges.length - i) 0 ⟨Nat.zero_le _, rfl⟩ (Weaks.mk (Nat.le_refl _) rfl (by simp [ToL, lk]) (by simp [BoxL, lk])) ?_
            rintro i S ⟨hi, hoke⟩ hS
            simp only [st53b] at hS
            subst hS
            have hw : IntKind.i64.wrap (↑i + 1) = ((i + 1 : Nat) : Int) := by rw [wrap_in (by omega) (by omega)]; rfl
            repeat (first | refine AL.seq ?_ | refine AL.block ?_ | refine AL.skip ?_ | refine AL.blk ?_)
            refine AL.region follows_Tryz (Nat.le_refl _) (by kernel_rfl) ?_
            simp
            repeat (first | refine AL.seq ?_ | refine AL.block ?_ | refine AL.skip ?_ | refine AL.blk ?_)
            refine AL.cond ?_
            simp
            refine ⟨fun hlt => ?_, fun hge => ?_⟩
            · have hia : i < a.edges.length := by omega
              have hlt : i < m.edges.length := by omega
              have hgm : m.edges.getD i 0 = m.edges[i] := by simp [hlt]
              have hga : a.edges.getD i default = a.edges[i] := by simp [hia]
              obtain ⟨x1, x2, x3, x4⟩ := hxa _ (List.getElem_mem hia)
              rw [← hl1] at x2 x4
              have y1 : a.edges[i].fr.toNat < m.nodes.length := by omega
              have y2 : a.edges[i].to.toNat < m.nodes.length := by omega
              have hg1 : m.nodes.getD a.edges[i].fr.toNat 0 = m.nodes[a.edges[i].fr.toNat] := by simp [y1]
              have hg2 : m.nodes.getD a.edges[i].to.toNat 0 = m.nodes[a.edges[i].to.toNat] := by simp [y2]
              repeat (first | refine AL.seq ?_ | refine AL.block ?_ | refine AL.skip ?_ | refine AL.blk ?_)
              refine AL.region follows_Tryz (Nat.le_refl _) (by kernel_rfl) ?_
              simp [hlt]
              by_cases hneg : m.edges[i] < 0
              · simp [hneg, hlt]
                repeat (first | refine AL.seq ?_ | refine AL.block ?_ | refine AL.skip ?_ | refine AL.blk ?_)
                refine AL.cond ?_
                simp
                repeat (first | refine AL.seq ?_ | refine AL.block ?_ | refine AL.skip ?_ | refine AL.blk ?_)
                refine AL.region follows_Tryz (Nat.le_refl _) (by kernel_rfl) ?_
                simp
                have hN : edgeE a b m i = 6 := by simp only [edgeE, hgm]; rw [if_pos (.inl hneg)]
                have hR := hRe i hia hoke (by rw [hN]; decide)
                repeat (first | refine AL.seq ?_ | refine AL.block ?_ | refine AL.skip ?_ | refine AL.blk ?_)
                refine AL.ret ?_
                try simp only [AU]
                refine ⟨by simp, Fin.data (by simp [resAs, resA]; rfl) hbox rfl htok (fun _ h => h) (Nat.le_refl _) ?_⟩
                simp [packA, hR, hN]
              · simp [hneg, hlt]
                repeat (first | refine AL.seq ?_ | refine AL.block ?_ | refine AL.skip ?_ | refine AL.blk ?_)
                refine AL.cond ?_
                simp
                refine ⟨fun hbig => ?_, fun hsm => ?_⟩
                · repeat (first | refine AL.seq ?_ | refine AL.block ?_ | refine AL.skip ?_ | refine AL.blk ?_)
                  refine AL.region follows_Tryz (Nat.le_refl _) (by kernel_rfl) ?_
                  simp
                  have hN : edgeE a b m i = 6 := by simp only [edgeE, hgm]; rw [if_pos (.inr (by omega))]
                  have hR := hRe i hia hoke (by rw [hN]; decide)
                  repeat (first | refine AL.seq ?_ | refine AL.block ?_ | refine AL.skip ?_ | refine AL.blk ?_)
                  refine AL.ret ?_
                  try simp only [AU]
                  refine ⟨by simp, Fin.data (by simp [resAs, resA]; rfl) hbox rfl htok (fun _ h => h) (Nat.le_refl _) ?_⟩
                  simp [packA, hR, hN]
                · have hkb : m.edges[i].toNat < b.edges.length := by omega
                  have h0 : 0 ≤ m.edges[i] := by omega
                  have hgb : b.edges.getD m.edges[i].toNat default = b.edges[m.edges[i].toNat] := by simp [hkb]
                  have hnn : ¬ (m.edges[i] < 0 ∨ (b.edges.length : Int) ≤ m.edges[i]) := by omega
                  repeat (first | refine AL.seq ?_ | refine AL.block ?_ | refine AL.skip ?_ | refine AL.blk ?_)
                  refine AL.region2 follows_Tryz (Nat.le_refl _) (by kernel_rfl) (Side.of (by simp)) ?_
                  simp [hkb, h0, hsm, hia, hlt]
                  generalize hy : b.edges[m.edges[i].toNat] = y at *
                  repeat (first | refine AL.seq ?_ | refine AL.block ?_ | refine AL.skip ?_ | refine AL.blk ?_)
                  refine AL.region follows_Tryz (Nat.le_refl _) (by kernel_rfl) ?_
                  simp
                  repeat (first | refine AL.seq ?_ | refine AL.block ?_ | refine AL.skip ?_ | refine AL.blk ?_)
                  refine AL.cond ?_
                  simp
                  refine ⟨fun hty => ?_, fun hty => ?_⟩
                  · repeat (first | refine AL.seq ?_ | refine AL.block ?_ | refine AL.skip ?_ | refine AL.blk ?_)
                    refine AL.region follows_Tryz (Nat.le_refl _) (by kernel_rfl) ?_
                    simp
                    have hN : edgeE a b m i = 13 := by simp only [edgeE, hgm, hga, hgb]; rw [if_neg hnn, if_pos hty]
                    have hR := hRe i hia hoke (by rw [hN]; decide)
                    repeat (first | refine AL.seq ?_ | refine AL.block ?_ | refine AL.skip ?_ | refine AL.blk ?_)
                    refine AL.ret ?_
                    try simp only [AU]
                    refine ⟨by simp, Fin.data (by simp [resAs, resA]; rfl) hbox rfl htok (fun _ h => h) (Nat.le_refl _) ?_⟩
                    simp [packA, hR, hN]
                  · repeat (first | refine AL.seq ?_ | refine AL.block ?_ | refine AL.skip ?_ | refine AL.blk ?_)
                    refine AL.region follows_Tryz (Nat.le_refl _) (by kernel_rfl) ?_
                    simp [x1, x2, x3, x4, y1, y2]
                    by_cases hfr : m.nodes[a.edges[i].fr.toNat] = y.fr
                    · have hb1 : (m.nodes[a.edges[i].fr.toNat] != y.fr) = false := by simp [hfr]
                      simp only [hb1]
                      simp [x1, x2, x3, x4, y1, y2]
                      repeat (first | refine AL.seq ?_ | refine AL.block ?_ | refine AL.skip ?_ | refine AL.blk ?_)
                      refine AL.cond ?_
                      simp
                      refine ⟨fun hto => ?_, fun hto => ?_⟩
                      · repeat (first | refine AL.seq ?_ | refine AL.block ?_ | refine AL.skip ?_ | refine AL.blk ?_)
                        refine AL.region follows_Tryz (Nat.le_refl _) (by kernel_rfl) ?_
                        simp
                        have hN : edgeE a b m i = 11 := by simp only [edgeE, hgm, hga, hgb, hg1, hg2]; rw [if_neg hnn, if_neg (by simp [hty]), if_pos (.inr hto)]
                        have hR := hRe i hia hoke (by rw [hN]; decide)
                        repeat (first | refine AL.seq ?_ | refine AL.block ?_ | refine AL.skip ?_ | refine AL.blk ?_)
                        refine AL.ret ?_
                        try simp only [AU]
                        refine ⟨by simp, Fin.data (by simp [resAs, resA]; rfl) hbox rfl htok (fun _ h => h) (Nat.le_refl _) ?_⟩
                        simp [packA, hR, hN]
                      · repeat (first | refine AL.seq ?_ | refine AL.block ?_ | refine AL.skip ?_ | refine AL.blk ?_)
                        refine AL.region follows_Tryz (Nat.le_refl _) (by kernel_rfl) ?_
                        simp [hw]
                        repeat (first | refine AL.seq ?_ | refine AL.block ?_ | refine AL.skip ?_ | refine AL.blk ?_)
                        refine AL.nil ?_
                        refine ⟨i + 1, ⟨hia, ?_⟩, by omega, Weaks.mk (Nat.le_refl _) rfl (by simp [ToL, lk]) (by simp [BoxL, lk])⟩
                        have hN : edgeE a b m i = 0 := by simp only [edgeE, hgm, hga, hgb, hg1, hg2]; rw [if_neg hnn, if_neg (by simp [hty]), if_neg (by simp [hfr, hto])]
                        simp only [firstE, hoke, hN, ↓reduceIte]
                    · have hb1 : (m.nodes[a.edges[i].fr.toNat] != y.fr) = true := by simp [hfr]
                      simp only [hb1]
                      simp
                      repeat (first | refine AL.seq ?_ | refine AL.block ?_ | refine AL.skip ?_ | refine AL.blk ?_)
                      refine AL.cond ?_
                      simp
                      repeat (first | refine AL.seq ?_ | refine AL.block ?_ | refine AL.skip ?_ | refine AL.blk ?_)
                      refine AL.region follows_Tryz (Nat.le_refl _) (by kernel_rfl) ?_
                      simp
                      have hN : edgeE a b m i = 11 := by simp only [edgeE, hgm, hga, hgb, hg1, hg2]; rw [if_neg hnn, if_neg (by simp [hty]), if_pos (.inl hfr)]
                      have hR := hRe i hia hoke (by rw [hN]; decide)
                      repeat (first | refine AL.seq ?_ | refine AL.block ?_ | refine AL.skip ?_ | refine AL.blk ?_)
                      refine AL.ret ?_
                      try simp only [AU]
                      refine ⟨by simp, Fin.data (by simp [resAs, resA]; rfl) hbox rfl htok (fun _ h => h) (Nat.le_refl _) ?_⟩
                      simp [packA, hR, hN]
            · repeat (first | refine AL.seq ?_ | refine AL.block ?_ | refine AL.skip ?_ | refine AL.blk ?_)
              refine AL.exit ?_
              simp only [AU, ↓reduceIte]
              have hin : i = a.edges.length := by omega
              subst hin
              repeat (first | refine AL.seq ?_ | refine AL.block ?_ | refine AL.skip ?_ | refine AL.blk ?_)
              refine AL.region follows_Tryz (Nat.le_refl _) (by kernel_rfl) ?_
              simp
              have hR : validM a b m = 0 := by simp [validM, hva, hvb, hl1, hl2', hok, hoke]
              repeat (first | refine AL.seq ?_ | refine AL.block ?_ | refine AL.skip ?_ | refine AL.blk ?_)
              refine AL.ret ?_
              try simp only [AU]
              refine ⟨by simp, Fin.data (by simp [resAs, resA]; rfl) hbox rfl htok (fun _ h => h) (Nat.le_refl _) ?_⟩
              simp [packA, hR]
      · have hb1 : ((m.nodes.length : Int) != (a.nodes.length : Int)) = true := by simp; omega
        simp only [hb1]
        simp
        repeat (first | refine AL.seq ?_ | refine AL.block ?_ | refine AL.skip ?_ | refine AL.blk ?_)
        refine AL.cond ?_
        simp
        repeat (first | refine AL.seq ?_ | refine AL.block ?_ | refine AL.skip ?_ | refine AL.blk ?_)
        refine AL.region follows_Tryz (Nat.le_refl _) (by kernel_rfl) ?_
        simp
        have hR : validM a b m = 20 := by simp [validM, hva, hvb, hl1]
        repeat (first | refine AL.seq ?_ | refine AL.block ?_ | refine AL.skip ?_ | refine AL.blk ?_)
        refine AL.ret ?_
        try simp only [AU]
        refine ⟨by simp, Fin.data (by simp [resAs, resA]; rfl) hbox rfl htok (fun _ h => h) (Nat.le_refl _) ?_⟩
        simp [packA, hR]
    · repeat (first | refine AL.seq ?_ | refine AL.block ?_ | refine AL.skip ?_ | refine AL.blk ?_)
      refine AL.region follows_Tryz (Nat.le_refl _) (by kernel_rfl) ?_
      simp
      repeat (first | refine AL.seq ?_ | refine AL.block ?_ | refine AL.skip ?_ | refine AL.blk ?_)
      refine AL.cond ?_
      simp [hvb]
      repeat (first | refine AL.seq ?_ | refine AL.block ?_ | refine AL.skip ?_ | refine AL.blk ?_)
      refine AL.region follows_Tryz (Nat.le_refl _) (by kernel_rfl) ?_
      simp
      repeat (first | refine AL.seq ?_ | refine AL.block ?_ | refine AL.skip ?_ | refine AL.blk ?_)
      refine AL.ret ?_
      try simp only [AU]
      refine ⟨by simp, Fin.data (by simp [resAs, resA]; rfl) hbox rfl htok (fun _ h => h) (Nat.le_refl _) ?_⟩
      simp [packA, validM, hva, hvb]
  · repeat (first | refine AL.seq ?_ | refine AL.block ?_ | refine AL.skip ?_ | refine AL.blk ?_)
    refine AL.region follows_Tryz (Nat.le_refl _) (by kernel_rfl) ?_
    simp
    repeat (first | refine AL.seq ?_ | refine AL.block ?_ | refine AL.skip ?_ | refine AL.blk ?_)
    refine AL.cond ?_
    simp [hva]
    repeat (first | refine AL.seq ?_ | refine AL.block ?_ | refine AL.skip ?_ | refine AL.blk ?_)
    refine AL.region follows_Tryz (Nat.le_refl _) (by kernel_rfl) ?_
    simp
    repeat (first | refine AL.seq ?_ | refine AL.block ?_ | refine AL.skip ?_ | refine AL.blk ?_)
    refine AL.ret ?_
    try simp only [AU]
    refine ⟨by simp, Fin.data (by simp [resAs, resA]; rfl) hbox rfl htok (fun _ h => h) (Nat.le_refl _) ?_⟩
    simp [packA, validM, hva]
end Go.AM
namespace Go.AM
open Go Go.Proofs
set_option linter.unusedSimpArgs false
set_option linter.unusedVariables false

/-! ### covered, covers, Few, Jointly -/
def covK (l k : List Int) (i : Nat) : Bool := (List.range i).all fun j => decide ((j : Int) ∈ l) || decide ((j : Int) ∈ k)
def fewM (m : Mo) (n : Int) : Bool := decide ((m.nodes.length : Int) + m.edges.length ≤ n)
theorem few06_c (m : Mo) (n : Int) (h1 : m.nodes.length ≤ 281474976710656) (h2 : m.edges.length ≤ 281474976710656) (tok : Nat → Bool) (nt : Nat) : DCall Tryz.prog 25 [m.av, I n] tok nt (B (fewM m n)) tok nt := by
  intro box nb
  have hw : IntKind.i64.wrap (↑m.nodes.length + ↑m.edges.length) = (m.nodes.length : Int) + m.edges.length := wrap_in (by omega) (by omega)
  refine ACalls.of_body Tryz.func25 rfl (by kernel_rfl) follows_Tryz (by kernel_rfl) (by simp [Tryz.ntmps25]) ?_
  intro hbox htok
  simp only at hbox htok
  apply AL.start
  repeat (first | refine AL.seq ?_ | refine AL.block ?_ | refine AL.skip ?_ | refine AL.blk ?_)
  refine AL.region follows_Tryz (Nat.le_refl _) (by kernel_rfl) ?_
  simp
  repeat (first | refine AL.seq ?_ | refine AL.block ?_ | refine AL.skip ?_ | refine AL.blk ?_)
  refine AL.region follows_Tryz (Nat.le_refl _) (by kernel_rfl) ?_
  simp [hw]
  repeat (first | refine AL.seq ?_ | refine AL.block ?_ | refine AL.skip ?_ | refine AL.blk ?_)
  refine AL.ret ?_
  try simp only [AU]
  refine ⟨by simp, Fin.data (by simp [resAs, resA]; rfl) hbox rfl htok (fun _ h => h) (Nat.le_refl _) ?_⟩
  simp [packA, fewM]

def jointly (a b x : Gr) (h k : Mo) : Bool := decide (validM a x h = 0) && (decide (validM b x k = 0) && (covK h.nodes k.nodes x.nodes.length && covK h.edges k.edges x.edges.length))

end Go.AM
/-
  The plain law of the standard overlaps: what is listed are the partial matchings, each once; turning one around matches the other way. No program in sight.
-/
namespace Go.AM
open Go
set_option linter.unusedSimpArgs false
set_option linter.unusedVariables false

/-! ### Partial matchings, listed -/
def choicesM (ok : Nat → Nat → Bool) (na : Nat) (l : List Int) : List Int := -1 :: ((List.range na).filter fun k => ok l.length k && !decide ((k : Int) ∈ l)).map fun (k : Nat) => (k : Int)
def dM (ok : Nat → Nat → Bool) (na : Nat) : Nat → List Int → List (List Int)
  | 0, l => [l]
  | n + 1, l => (choicesM ok na l).flatMap fun k => dM ok na n (l ++ [k])

def okAt (ok : Nat → Nat → Bool) (na : Nat) (x : List Int) (i : Nat) : Prop := x.getD i 0 = -1 ∨ ∃ k : Nat, x.getD i 0 = k ∧ k < na ∧ ok i k = true ∧ (k : Int) ∉ x.take i

theorem dM_mem (ok : Nat → Nat → Bool) (na : Nat) : ∀ (n : Nat) (l x : List Int), x ∈ dM ok na n l ↔ (x.take l.length = l ∧ x.length = l.length + n ∧ ∀ i, l.length ≤ i → i < x.length → okAt ok na x i)
  | 0, l, x => by
    simp only [dM, List.mem_singleton, Nat.add_zero]
    constructor
    · rintro rfl
      exact ⟨by simp, rfl, fun i h1 h2 => by omega⟩
    · rintro ⟨h1, h2, _⟩
      rw [← h1, List.take_of_length_le (by omega)]
  | n + 1, l, x => by
    simp only [dM, List.mem_flatMap]
    constructor
    · rintro ⟨k, hk, hx⟩
      rw [dM_mem ok na n (l ++ [k]) x] at hx
      obtain ⟨h1, h2, h3⟩ := hx
      simp only [List.length_append, List.length_cons, List.length_nil] at h1 h2 h3
      have hlt : l.length < x.length := by omega
      have h4 : x.take l.length = l := by
        have := congrArg (List.take l.length) h1
        rw [List.take_take, Nat.min_eq_left (by omega)] at this
        simpa using this
      have h5 : x.getD l.length 0 = k := by
        have := congrArg (fun y => y[l.length]?) h1
        simp only [List.getElem?_take] at this
        rw [if_pos (by omega)] at this
        rw [List.getD_eq_getElem?_getD, this]
        simp
      refine ⟨h4, by omega, fun i hi1 hi2 => ?_⟩
      by_cases e : i = l.length
      · subst e
        unfold okAt
        rw [h5, h4]
        simp only [choicesM, List.mem_cons, List.mem_map, List.mem_filter, List.mem_range, Bool.and_eq_true, Bool.not_eq_true', decide_eq_false_iff_not] at hk
        rcases hk with rfl | ⟨q, ⟨hq1, hq2, hq3⟩, rfl⟩
        · exact .inl rfl
        · exact .inr ⟨q, rfl, hq1, hq2, hq3⟩
      · exact h3 i (by omega) hi2
    · rintro ⟨h1, h2, h3⟩
      have hlt : l.length < x.length := by omega
      refine ⟨x.getD l.length 0, ?_, ?_⟩
      · have := h3 l.length (Nat.le_refl _) hlt
        unfold okAt at this
        rw [h1] at this
        simp only [choicesM, List.mem_cons, List.mem_map, List.mem_filter, List.mem_range, Bool.and_eq_true, Bool.not_eq_true', decide_eq_false_iff_not]
        rcases this with h | ⟨k, hk1, hk2, hk3, hk4⟩
        · exact .inl h
        · exact .inr ⟨k, ⟨hk2, hk3, hk4⟩, hk1.symm⟩
      · rw [dM_mem ok na n _ x]
        refine ⟨?_, by simp; omega, fun i hi1 hi2 => h3 i (by simp at hi1; omega) hi2⟩
        simp only [List.length_append, List.length_cons, List.length_nil, Nat.zero_add]
        rw [List.take_succ_eq_append_getElem hlt, h1]
        simp [hlt]

/-- A partial matching. -/
def isM (ok : Nat → Nat → Bool) (na nb : Nat) (x : List Int) : Prop := x.length = nb ∧ ∀ i, i < nb → okAt ok na x i
theorem dM_isM (ok : Nat → Nat → Bool) (na nb : Nat) (x : List Int) : x ∈ dM ok na nb [] ↔ isM ok na nb x := by
  rw [dM_mem]
  simp only [List.length_nil, Nat.zero_add, Nat.zero_le, true_implies, List.take_zero, true_and, isM]
  constructor
  · rintro ⟨h1, h2⟩; exact ⟨h1, fun i hi => h2 i (by omega)⟩
  · rintro ⟨h1, h2⟩; exact ⟨h1, fun i hi => h2 i (by omega)⟩

/-! ### Turned around -/
theorem isM_inj {ok : Nat → Nat → Bool} {na nb : Nat} {x : List Int} (h : isM ok na nb x) {i j k : Nat} (hi : i < nb) (hj : j < nb) (h1 : x.getD i 0 = (k : Int)) (h2 : x.getD j 0 = (k : Int)) : i = j := by
  have key : ∀ i j : Nat, i < j → j < nb → x.getD i 0 = (k : Int) → x.getD j 0 = (k : Int) → False := by
    intro i j hij hj h1 h2
    rcases h.2 j hj with e | ⟨q, e, _, _, hq⟩
    · rw [e] at h2; omega
    · have : (q : Int) = k := e.symm.trans h2
      rw [this] at hq
      apply hq
      have hlen := h.1
      rw [List.mem_take_iff_getElem]
      refine ⟨i, by omega, ?_⟩
      have : x.getD i 0 = x[i]'(by omega) := by rw [List.getD_eq_getElem?_getD, List.getElem?_eq_getElem (by omega)]; rfl
      rw [← this]; exact h1
  rcases Nat.lt_trichotomy i j with h' | h' | h'
  · exact (key i j h' hj h1 h2).elim
  · exact h'
  · exact (key j i h' hi h2 h1).elim

/-! ### Counting -/
def okN (a b : Gr) (i k : Nat) : Bool := decide (a.nodes.getD k 0 = b.nodes.getD i 0)
def okE (a b : Gr) (x : List Int) (i k : Nat) : Bool := decide (a.edges.getD k default = ⟨(b.edges.getD i default).ty, x.getD (b.edges.getD i default).fr.toNat 0, x.getD (b.edges.getD i default).to.toNat 0⟩)

def pairsM (a b : Gr) : List (List Int × List Int) := (dM (okN a b) a.nodes.length b.nodes.length []).flatMap fun x => (dM (okE a b x) a.edges.length b.edges.length []).map fun es => (x, es)

def isPair (a b : Gr) (p : List Int × List Int) : Prop := isM (okN a b) a.nodes.length b.nodes.length p.1 ∧ isM (okE a b p.1) a.edges.length b.edges.length p.2

theorem pairsM_mem (a b : Gr) (p : List Int × List Int) : p ∈ pairsM a b ↔ isPair a b p := by
  simp only [pairsM, List.mem_flatMap, List.mem_map, dM_isM, isPair]
  constructor
  · rintro ⟨x, hx, es, hes, rfl⟩; exact ⟨hx, hes⟩
  · rintro ⟨h1, h2⟩; exact ⟨p.1, h1, p.2, h2, rfl⟩

def EOk (g : Gr) : Prop := ∀ e ∈ g.edges, 0 ≤ e.fr ∧ e.fr < g.nodes.length ∧ 0 ≤ e.to ∧ e.to < g.nodes.length

/-! ### What the program lists -/
theorem foldl_lim' {α : Type} (c : Nat → Bool) (f : Nat → List α → List α) (g : Nat → List α) (ks : List Nat) (out : List α) (h : ∀ k ∈ ks, ∀ out, f k out = lim out (g k)) :
    ks.foldl (fun out k => if c k = true then f k out else out) out = lim out ((ks.filter c).flatMap g) := foldl_lim c f g ks out h

theorem ovE_lim (a b : Gr) (nodes : List Int) : ∀ (n : Nat) (es : List Int) (out : List Ov), ovE a b nodes n es out = lim out ((dM (okE a b nodes) a.edges.length n es).map (glue a b nodes))
  | 0, es, out => by
    unfold ovE
    split
    · rename_i h; rw [lim_full _ _ h]
    · rename_i h; simp only [dM, List.map_cons, List.map_nil]; rw [lim_one _ _ h]
  | n + 1, es, out => by
    unfold ovE
    split
    · rename_i h; rw [lim_full _ _ h]
    · have h1 : (fun (out : List Ov) (k : Nat) => if a.edges.getD k default = wantE b nodes es ∧ (k : Int) ∉ es then ovE a b nodes n (es ++ [(k : Int)]) out else out) =
          fun out k => if (okE a b nodes es.length k && !decide ((k : Int) ∈ es)) = true then ovE a b nodes n (es ++ [(k : Int)]) out else out := by
        funext out k
        have ic : ∀ {p q : Prop} [Decidable p] [Decidable q] {x y : List Ov}, (p ↔ q) → (if p then x else y) = if q then x else y := by
          intro p q _ _ x y h
          by_cases hp : p
          · rw [if_pos hp, if_pos (h.1 hp)]
          · rw [if_neg hp, if_neg fun hq => hp (h.2 hq)]
        refine ic ?_
        simp only [okE, wantE, Bool.and_eq_true, decide_eq_true_eq, Bool.not_eq_true', decide_eq_false_iff_not]
      rw [h1, foldl_lim' _ (fun (k : Nat) out => ovE a b nodes n (es ++ [(k : Int)]) out) (fun (k : Nat) => (dM (okE a b nodes) a.edges.length n (es ++ [(k : Int)])).map (glue a b nodes)) _ _ (fun k _ out => ovE_lim a b nodes n _ out), ovE_lim a b nodes n, lim_append]
      congr 1
      simp only [dM, choicesM, List.flatMap_cons, List.map_append, List.map_flatMap, List.flatMap_map]

theorem ovN_lim (a b : Gr) : ∀ (n : Nat) (l : List Int) (out : List Ov), ovN a b n l out = lim out ((dM (okN a b) a.nodes.length n l).flatMap fun x => (dM (okE a b x) a.edges.length b.edges.length []).map (glue a b x))
  | 0, l, out => by
    unfold ovN
    split
    · rename_i h; rw [lim_full _ _ h]
    · simp only [dM, List.flatMap_cons, List.flatMap_nil, List.append_nil]; rw [ovE_lim]
  | n + 1, l, out => by
    unfold ovN
    split
    · rename_i h; rw [lim_full _ _ h]
    · have h1 : (ovStepN a b (ovN a b n) l) = fun out k => if (okN a b l.length k && !decide ((k : Int) ∈ l)) = true then ovN a b n (l ++ [(k : Int)]) out else out := by
        funext out k
        unfold ovStepN
        have ic : ∀ {p q : Prop} [Decidable p] [Decidable q] {x y : List Ov}, (p ↔ q) → (if p then x else y) = if q then x else y := by
          intro p q _ _ x y h
          by_cases hp : p
          · rw [if_pos hp, if_pos (h.1 hp)]
          · rw [if_neg hp, if_neg fun hq => hp (h.2 hq)]
        refine ic ?_
        simp only [okN, Bool.and_eq_true, decide_eq_true_eq, Bool.not_eq_true', decide_eq_false_iff_not]
      rw [h1, foldl_lim' _ (fun (k : Nat) out => ovN a b n (l ++ [(k : Int)]) out) (fun (k : Nat) => (dM (okN a b) a.nodes.length n (l ++ [(k : Int)])).flatMap fun x => (dM (okE a b x) a.edges.length b.edges.length []).map (glue a b x)) _ _ (fun k _ out => ovN_lim a b n _ out), ovN_lim a b n, lim_append]
      congr 1
      simp only [dM, choicesM, List.flatMap_cons, List.flatMap_append, List.flatMap_assoc, List.flatMap_map]

def listO (a b : Gr) : List Ov := (pairsM a b).map fun p => glue a b p.1 p.2

theorem ovN_list (a b : Gr) : ovN a b b.nodes.length [] [] = (listO a b).take 2001 := by
  rw [ovN_lim]
  have : ((dM (okN a b) a.nodes.length b.nodes.length []).flatMap fun x => (dM (okE a b x) a.edges.length b.edges.length []).map (glue a b x)) = listO a b := by
    unfold listO pairsM
    rw [List.map_flatMap]
    congr 1
    funext x
    rw [List.map_map]
    rfl
  rw [this]
  simp [lim]

theorem overlapsR_list (a b : Gr) (ha : validG a = 0) (hb : validG b = 0) (hs : ¬ (40 < a.nodes.length + b.nodes.length ∨ 80 < a.edges.length + b.edges.length)) : overlapsR a b = if 2000 < (pairsM a b).length then ([], 3) else (listO a b, 0) := by
  have hl : (listO a b).length = (pairsM a b).length := by simp [listO]
  unfold overlapsR
  simp only [ha, hb, hs, ovN_list, ne_eq, not_true_eq_false, ↓reduceIte]
  by_cases hb : 2000 < (pairsM a b).length
  · have : 2000 < ((listO a b).take 2001).length := by simp; omega
    rw [if_pos this, if_pos hb]
  · have : (listO a b).take 2001 = listO a b := List.take_of_length_le (by omega)
    rw [this, if_neg (by omega), if_neg hb]
end Go.AM
