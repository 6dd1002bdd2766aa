import Derived.Test.YtgonmjghdkoekaaFacC
namespace Go.AM
open Go Go.Proofs
set_option linter.unusedSimpArgs false
set_option linter.unusedVariables false

/-! ### ref05: kind, right, Valid, Few, Copied; ref13: Small -/
theorem kind_c (n : Int) (tok : Nat → Bool) (nt : Nat) : DCall Try.prog 75 [I n] tok nt (B (withinB n 99)) tok nt := by
  intro box nb
  refine ACalls.of_body Try.func75 rfl (by kernel_rfl) follows_Try (by kernel_rfl) (by simp [Try.ntmps75]) ?_
  intro hbox htok
  simp only at hbox htok
  apply AL.start
  repeat (first | refine AL.seq ?_ | refine AL.block ?_ | refine AL.skip ?_ | refine AL.blk ?_)
  refine AL.region follows_Try (Nat.le_refl _) (by kernel_rfl) ?_
  simp
  repeat (first | refine AL.seq ?_ | refine AL.block ?_ | refine AL.skip ?_ | refine AL.blk ?_)
  refine AL.region follows_Try (Nat.le_refl _) (by kernel_rfl) ?_
  simp
  first | refine Gd.dt (fun h => ?_) (fun h => ?_) | refine Gd.df (fun h => ?_) (fun h => ?_) | refine Gd.t (fun h => ?_) (fun h => ?_) | refine Gd.f (fun h => ?_) (fun h => ?_)
  · simp [h]
    repeat (first | refine AL.seq ?_ | refine AL.block ?_ | refine AL.skip ?_ | refine AL.blk ?_)
    refine AL.ret ?_
    try simp only [AU]
    refine ⟨by simp, Fin.data (by simp [resAs, resA]; rfl) hbox rfl htok (fun _ h => h) (Nat.le_refl _) ?_⟩
    simp [packA, withinB, h]
  · simp [h]
    repeat (first | refine AL.seq ?_ | refine AL.block ?_ | refine AL.skip ?_ | refine AL.blk ?_)
    refine AL.ret ?_
    try simp only [AU]
    refine ⟨by simp, Fin.data (by simp [resAs, resA]; rfl) hbox rfl htok (fun _ h => h) (Nat.le_refl _) ?_⟩
    simp [packA, withinB, h]

theorem right_c (e : E) (nodes : Int) (tok : Nat → Bool) (nt : Nat) : DCall Try.prog 76 [.agg [I e.ty, I e.fr, I e.to], I nodes] tok nt (B (fitsB e nodes)) tok nt := by
  intro box nb
  refine ACalls.of_body Try.func76 rfl (by kernel_rfl) follows_Try (by kernel_rfl) (by simp [Try.ntmps76]) ?_
  intro hbox htok
  simp only at hbox htok
  apply AL.start
  repeat (first | refine AL.seq ?_ | refine AL.block ?_ | refine AL.skip ?_ | refine AL.blk ?_)
  refine AL.region follows_Try (Nat.le_refl _) (by kernel_rfl) ?_
  simp
  repeat (first | refine AL.seq ?_ | refine AL.block ?_ | refine AL.skip ?_ | refine AL.blk ?_)
  refine AL.region follows_Try (Nat.le_refl _) (by kernel_rfl) ?_
  simp
  refine Stop.of_d (kind_c _ _ _) ?_
  simp
  first | refine Gd.dt (fun h1 => ?_) (fun h1 => ?_) | refine Gd.df (fun h1 => ?_) (fun h1 => ?_) | refine Gd.t (fun h1 => ?_) (fun h1 => ?_) | refine Gd.f (fun h1 => ?_) (fun h1 => ?_)
  · simp [h1]
    first | refine Gd.dt (fun h2 => ?_) (fun h2 => ?_) | refine Gd.df (fun h2 => ?_) (fun h2 => ?_) | refine Gd.t (fun h2 => ?_) (fun h2 => ?_) | refine Gd.f (fun h2 => ?_) (fun h2 => ?_)
    · simp [h1, h2]
      first | refine Gd.dt (fun h3 => ?_) (fun h3 => ?_) | refine Gd.df (fun h3 => ?_) (fun h3 => ?_) | refine Gd.t (fun h3 => ?_) (fun h3 => ?_) | refine Gd.f (fun h3 => ?_) (fun h3 => ?_)
      · simp [h1, h2, h3]
        first | refine Gd.dt (fun h4 => ?_) (fun h4 => ?_) | refine Gd.df (fun h4 => ?_) (fun h4 => ?_) | refine Gd.t (fun h4 => ?_) (fun h4 => ?_) | refine Gd.f (fun h4 => ?_) (fun h4 => ?_)
        · simp [h1, h2, h3, h4]
          have k1 : e.fr ≤ nodes - 1 := by omega
          have k2 : (e.to < nodes) ↔ (e.to ≤ nodes - 1) := by omega
          repeat (first | refine AL.seq ?_ | refine AL.block ?_ | refine AL.skip ?_ | refine AL.blk ?_)
          refine AL.ret ?_
          try simp only [AU]
          refine ⟨by simp, Fin.data (by simp [resAs, resA]; rfl) hbox rfl htok (fun _ h => h) (Nat.le_refl _) ?_⟩
          simp [packA, fitsB, h1, h2, h3, h4, withinB, k1, k2]
          simp [withinB] at h1
          simp [h1]
        · simp [h1, h2, h3, h4]
          repeat (first | refine AL.seq ?_ | refine AL.block ?_ | refine AL.skip ?_ | refine AL.blk ?_)
          refine AL.ret ?_
          try simp only [AU]
          refine ⟨by simp, Fin.data (by simp [resAs, resA]; rfl) hbox rfl htok (fun _ h => h) (Nat.le_refl _) ?_⟩
          simp [packA, fitsB, h1, h2, h3, h4, withinB]
      · simp [h1, h2, h3]
        have k1 : ¬ e.fr ≤ nodes - 1 := by omega
        repeat (first | refine AL.seq ?_ | refine AL.block ?_ | refine AL.skip ?_ | refine AL.blk ?_)
        refine AL.ret ?_
        try simp only [AU]
        refine ⟨by simp, Fin.data (by simp [resAs, resA]; rfl) hbox rfl htok (fun _ h => h) (Nat.le_refl _) ?_⟩
        simp [packA, fitsB, h1, h2, h3, withinB, k1]
    · simp [h1, h2]
      repeat (first | refine AL.seq ?_ | refine AL.block ?_ | refine AL.skip ?_ | refine AL.blk ?_)
      refine AL.ret ?_
      try simp only [AU]
      refine ⟨by simp, Fin.data (by simp [resAs, resA]; rfl) hbox rfl htok (fun _ h => h) (Nat.le_refl _) ?_⟩
      simp [packA, fitsB, h1, h2, withinB]
  · simp [h1]
    repeat (first | refine AL.seq ?_ | refine AL.block ?_ | refine AL.skip ?_ | refine AL.blk ?_)
    refine AL.ret ?_
    try simp only [AU]
    refine ⟨by simp, Fin.data (by simp [resAs, resA]; rfl) hbox rfl htok (fun _ h => h) (Nat.le_refl _) ?_⟩
    simp [packA, fitsB, h1]

def st41a (g : Gr) (nb : Nat) (box : Nat → Option (List (List AV))) (tok : Nat → Bool) (nt : Nat) (i : Nat) : AState := ⟨tl [(1, .ptr (nb + 1) 0 0), (3, I i)], lb nb box [(1, [[.d (ints g.nodes), .d (AM.edges g.edges)]])], tok, nt⟩
def st41b (g : Gr) (nb : Nat) (box : Nat → Option (List (List AV))) (tok : Nat → Bool) (nt : Nat) (i : Nat) : AState := ⟨tl [(1, .ptr (nb + 1) 0 0), (4, I i)], lb nb box [(1, [[.d (ints g.nodes), .d (AM.edges g.edges)]])], tok, nt⟩

theorem anyB_take {α : Type} {p : α → Bool} {xs : List α} {i : Nat} (h : i < xs.length) (h2 : p xs[i] = true) : anyB p xs = true := List.any_eq_true.2 ⟨_, List.getElem_mem h, h2⟩
theorem anyB_all {α : Type} {p : α → Bool} {xs : List α} {i : Nat} (h : xs.length ≤ i) (h2 : ∀ x ∈ xs.take i, p x = false) : anyB p xs = false := by
  rw [List.take_of_length_le h] at h2
  exact List.any_eq_false.2 fun x hx => by simp [h2 x hx]
theorem anyB_step {α : Type} {p : α → Bool} {xs : List α} {i : Nat} (h : i < xs.length) (h1 : ∀ x ∈ xs.take i, p x = false) (h2 : p xs[i] = false) : ∀ x ∈ xs.take (i + 1), p x = false := by
  intro x hx
  rw [List.take_succ_eq_append_getElem h] at hx
  rcases List.mem_append.1 hx with hx | hx
  · exact h1 x hx
  · simp at hx; rw [hx]; exact h2

theorem valid05_c (g : Gr) (hg : g.Fit) (tok : Nat → Bool) (nt : Nat) : DCall Try.prog 41 [g.av] tok nt (I (validG g)) tok nt := by
  intro box nb
  have hn := hg.n
  have he := hg.e
  refine ACalls.of_body Try.func41 rfl (by kernel_rfl) follows_Try (by kernel_rfl) (by simp [Try.ntmps41]) ?_
  intro hbox htok
  simp only at hbox htok
  apply AL.start
  repeat (first | refine AL.seq ?_ | refine AL.block ?_ | refine AL.skip ?_ | refine AL.blk ?_)
  refine AL.region follows_Try (Nat.le_refl _) (by kernel_rfl) ?_
  simp
  repeat (first | refine AL.seq ?_ | refine AL.block ?_ | refine AL.skip ?_ | refine AL.blk ?_)
  refine AL.region follows_Try (Nat.le_refl _) (by kernel_rfl) ?_
  simp
  first | refine Gd.dt (fun h1 => ?_) (fun h1 => ?_) | refine Gd.df (fun h1 => ?_) (fun h1 => ?_) | refine Gd.t (fun h1 => ?_) (fun h1 => ?_) | refine Gd.f (fun h1 => ?_) (fun h1 => ?_)
  · simp [h1]
    repeat (first | refine AL.seq ?_ | refine AL.block ?_ | refine AL.skip ?_ | refine AL.blk ?_)
    refine AL.cond ?_
    simp
    repeat (first | refine AL.seq ?_ | refine AL.block ?_ | refine AL.skip ?_ | refine AL.blk ?_)
    refine AL.region follows_Try (Nat.le_refl _) (by kernel_rfl) ?_
    simp
    repeat (first | refine AL.seq ?_ | refine AL.block ?_ | refine AL.skip ?_ | refine AL.blk ?_)
    refine AL.ret ?_
    try simp only [AU]
    refine ⟨by simp, Fin.data (by simp [resAs, resA]; rfl) hbox rfl htok (fun _ h => h) (Nat.le_refl _) ?_⟩
    simp [packA, validG, show 40 < g.nodes.length by omega]
  · simp [h1]
    repeat (first | refine AL.seq ?_ | refine AL.block ?_ | refine AL.skip ?_ | refine AL.blk ?_)
    refine AL.cond ?_
    simp
    refine ⟨fun h2 => ?_, fun h2 => ?_⟩
    · repeat (first | refine AL.seq ?_ | refine AL.block ?_ | refine AL.skip ?_ | refine AL.blk ?_)
      refine AL.region follows_Try (Nat.le_refl _) (by kernel_rfl) ?_
      simp
      repeat (first | refine AL.seq ?_ | refine AL.block ?_ | refine AL.skip ?_ | refine AL.blk ?_)
      refine AL.ret ?_
      try simp only [AU]
      refine ⟨by simp, Fin.data (by simp [resAs, resA]; rfl) hbox rfl htok (fun _ h => h) (Nat.le_refl _) ?_⟩
      simp [packA, validG, show 80 < g.edges.length by omega]
    · have hn1 : ¬ 40 < g.nodes.length := by omega
      have hn2 : ¬ 80 < g.edges.length := by omega
      repeat (first | refine AL.seq ?_ | refine AL.block ?_ | refine AL.skip ?_ | refine AL.blk ?_)
      refine AL.region follows_Try (Nat.le_refl _) (by kernel_rfl) ?_
      simp
      repeat (first | refine AL.seq ?_ | refine AL.block ?_ | refine AL.skip ?_ | refine AL.blk ?_)
      refine AL.loopT (st41a g nb box tok nt) (fun i => i ≤ g.nodes.length ∧ ∀ x ∈ g.nodes.take i, (!withinB x 99) = false) (fun i => g.nodes.length - i) 0 ⟨Nat.zero_le _, by simp⟩ (Weaks.mk (Nat.le_refl _) rfl (by simp [ToL, lk]) (by simp [BoxL, lk])) ?_
      rintro i S ⟨hi, htk⟩ hS
      simp only [st41a] at hS
      subst hS
      have hw : IntKind.i64.wrap (↑i + 1) = ((i + 1 : Nat) : Int) := by rw [wrap_in (by omega) (by omega)]; rfl
      repeat (first | refine AL.seq ?_ | refine AL.block ?_ | refine AL.skip ?_ | refine AL.blk ?_)
      refine AL.region follows_Try (Nat.le_refl _) (by kernel_rfl) ?_
      simp
      repeat (first | refine AL.seq ?_ | refine AL.block ?_ | refine AL.skip ?_ | refine AL.blk ?_)
      refine AL.cond ?_
      simp
      refine ⟨fun hlt => ?_, fun hge => ?_⟩
      · repeat (first | refine AL.seq ?_ | refine AL.block ?_ | refine AL.skip ?_ | refine AL.blk ?_)
        refine AL.region follows_Try (Nat.le_refl _) (by kernel_rfl) ?_
        simp [hlt]
        refine Stop.of_d (kind_c _ _ _) ?_
        simp
        repeat (first | refine AL.seq ?_ | refine AL.block ?_ | refine AL.skip ?_ | refine AL.blk ?_)
        refine AL.cond ?_
        simp
        refine ⟨fun hb => ?_, fun hb => ?_⟩
        · repeat (first | refine AL.seq ?_ | refine AL.block ?_ | refine AL.skip ?_ | refine AL.blk ?_)
          refine AL.region follows_Try (Nat.le_refl _) (by kernel_rfl) ?_
          simp
          have h3 : anyB (fun n => !withinB n 99) g.nodes = true := anyB_take hlt (by simp [hb])
          repeat (first | refine AL.seq ?_ | refine AL.block ?_ | refine AL.skip ?_ | refine AL.blk ?_)
          refine AL.ret ?_
          try simp only [AU]
          refine ⟨by simp, Fin.data (by simp [resAs, resA]; rfl) hbox rfl htok (fun _ h => h) (Nat.le_refl _) ?_⟩
          simp [packA, validG, hn1, hn2, h3]
        · repeat (first | refine AL.seq ?_ | refine AL.block ?_ | refine AL.skip ?_ | refine AL.blk ?_)
          refine AL.region follows_Try (Nat.le_refl _) (by kernel_rfl) ?_
          simp [hw]
          repeat (first | refine AL.seq ?_ | refine AL.block ?_ | refine AL.skip ?_ | refine AL.blk ?_)
          refine AL.nil ?_
          refine ⟨i + 1, ⟨hlt, ?_⟩, by omega, Weaks.mk (Nat.le_refl _) rfl (by simp [ToL, lk]) (by simp [BoxL, lk])⟩
          have := anyB_step (p := fun n => !withinB n 99) hlt (by simpa using htk) (by simp [hb])
          simpa using this
      · repeat (first | refine AL.seq ?_ | refine AL.block ?_ | refine AL.skip ?_ | refine AL.blk ?_)
        refine AL.exit ?_
        simp only [AU, ↓reduceIte]
        have h3 : anyB (fun n => !withinB n 99) g.nodes = false := anyB_all hge (by simpa using htk)
        repeat (first | refine AL.seq ?_ | refine AL.block ?_ | refine AL.skip ?_ | refine AL.blk ?_)
        refine AL.region follows_Try (Nat.le_refl _) (by kernel_rfl) ?_
        simp
        repeat (first | refine AL.seq ?_ | refine AL.block ?_ | refine AL.skip ?_ | refine AL.blk ?_)
        refine AL.loopT (st41b g nb box tok nt) (fun i => i ≤ g.edges.length ∧ ∀ x ∈ g.edges.take i, (!fitsB x g.nodes.length) = false) (fun i => g.edges.length - i) 0 ⟨Nat.zero_le _, by simp⟩ (Weaks.mk (Nat.le_refl _) rfl (by simp [ToL, lk]) (by simp [BoxL, lk])) ?_
        rintro i S ⟨hi, htk⟩ hS
        simp only [st41b] at hS
        subst hS
        have hw : IntKind.i64.wrap (↑i + 1) = ((i + 1 : Nat) : Int) := by rw [wrap_in (by omega) (by omega)]; rfl
        repeat (first | refine AL.seq ?_ | refine AL.block ?_ | refine AL.skip ?_ | refine AL.blk ?_)
        refine AL.region follows_Try (Nat.le_refl _) (by kernel_rfl) ?_
        simp
        repeat (first | refine AL.seq ?_ | refine AL.block ?_ | refine AL.skip ?_ | refine AL.blk ?_)
        refine AL.cond ?_
        simp
        refine ⟨fun hlt => ?_, fun hge => ?_⟩
        · repeat (first | refine AL.seq ?_ | refine AL.block ?_ | refine AL.skip ?_ | refine AL.blk ?_)
          refine AL.region follows_Try (Nat.le_refl _) (by kernel_rfl) ?_
          simp [hlt]
          refine Stop.of_d (right_c g.edges[i] _ _ _) ?_
          simp
          repeat (first | refine AL.seq ?_ | refine AL.block ?_ | refine AL.skip ?_ | refine AL.blk ?_)
          refine AL.cond ?_
          simp
          refine ⟨fun hb => ?_, fun hb => ?_⟩
          · repeat (first | refine AL.seq ?_ | refine AL.block ?_ | refine AL.skip ?_ | refine AL.blk ?_)
            refine AL.region follows_Try (Nat.le_refl _) (by kernel_rfl) ?_
            simp
            have h4 : anyB (fun e => !fitsB e g.nodes.length) g.edges = true := anyB_take hlt (by simp [hb])
            repeat (first | refine AL.seq ?_ | refine AL.block ?_ | refine AL.skip ?_ | refine AL.blk ?_)
            refine AL.ret ?_
            try simp only [AU]
            refine ⟨by simp, Fin.data (by simp [resAs, resA]; rfl) hbox rfl htok (fun _ h => h) (Nat.le_refl _) ?_⟩
            simp [packA, validG, hn1, hn2, h3, h4]
          · repeat (first | refine AL.seq ?_ | refine AL.block ?_ | refine AL.skip ?_ | refine AL.blk ?_)
            refine AL.region follows_Try (Nat.le_refl _) (by kernel_rfl) ?_
            simp [hw]
            repeat (first | refine AL.seq ?_ | refine AL.block ?_ | refine AL.skip ?_ | refine AL.blk ?_)
            refine AL.nil ?_
            refine ⟨i + 1, ⟨hlt, ?_⟩, by omega, Weaks.mk (Nat.le_refl _) rfl (by simp [ToL, lk]) (by simp [BoxL, lk])⟩
            have := anyB_step (p := fun e => !fitsB e g.nodes.length) hlt (by simpa using htk) (by simp [hb])
            simpa using this
        · repeat (first | refine AL.seq ?_ | refine AL.block ?_ | refine AL.skip ?_ | refine AL.blk ?_)
          refine AL.exit ?_
          simp only [AU, ↓reduceIte]
          have h4 : anyB (fun e => !fitsB e g.nodes.length) g.edges = false := anyB_all hge (by simpa using htk)
          repeat (first | refine AL.seq ?_ | refine AL.block ?_ | refine AL.skip ?_ | refine AL.blk ?_)
          refine AL.region follows_Try (Nat.le_refl _) (by kernel_rfl) ?_
          simp
          repeat (first | refine AL.seq ?_ | refine AL.block ?_ | refine AL.skip ?_ | refine AL.blk ?_)
          refine AL.ret ?_
          try simp only [AU]
          refine ⟨by simp, Fin.data (by simp [resAs, resA]; rfl) hbox rfl htok (fun _ h => h) (Nat.le_refl _) ?_⟩
          simp [packA, validG, hn1, hn2, h3, h4]

def fewG (g : Gr) : Bool := decide ((g.nodes.length : Int) ≤ 45) && decide ((g.edges.length : Int) ≤ 90)

theorem few05_c (g : Gr) (tok : Nat → Bool) (nt : Nat) : DCall Try.prog 17 [g.av] tok nt (B (fewG g)) tok nt := by
  intro box nb
  refine ACalls.of_body Try.func17 rfl (by kernel_rfl) follows_Try (by kernel_rfl) (by simp [Try.ntmps17]) ?_
  intro hbox htok
  simp only at hbox htok
  apply AL.start
  repeat (first | refine AL.seq ?_ | refine AL.block ?_ | refine AL.skip ?_ | refine AL.blk ?_)
  refine AL.region follows_Try (Nat.le_refl _) (by kernel_rfl) ?_
  simp
  repeat (first | refine AL.seq ?_ | refine AL.block ?_ | refine AL.skip ?_ | refine AL.blk ?_)
  refine AL.region follows_Try (Nat.le_refl _) (by kernel_rfl) ?_
  simp
  first | refine Gd.dt (fun h1 => ?_) (fun h1 => ?_) | refine Gd.df (fun h1 => ?_) (fun h1 => ?_) | refine Gd.t (fun h1 => ?_) (fun h1 => ?_) | refine Gd.f (fun h1 => ?_) (fun h1 => ?_)
  · simp [h1]
    repeat (first | refine AL.seq ?_ | refine AL.block ?_ | refine AL.skip ?_ | refine AL.blk ?_)
    refine AL.ret ?_
    try simp only [AU]
    refine ⟨by simp, Fin.data (by simp [resAs, resA]; rfl) hbox rfl htok (fun _ h => h) (Nat.le_refl _) ?_⟩
    simp [packA, fewG, h1]
  · simp [h1]
    repeat (first | refine AL.seq ?_ | refine AL.block ?_ | refine AL.skip ?_ | refine AL.blk ?_)
    refine AL.ret ?_
    try simp only [AU]
    refine ⟨by simp, Fin.data (by simp [resAs, resA]; rfl) hbox rfl htok (fun _ h => h) (Nat.le_refl _) ?_⟩
    simp [packA, fewG, h1]

theorem fewG_fit {g : Gr} (h : fewG g = true) : g.Fit := by
  simp [fewG] at h
  exact ⟨by omega, by omega⟩

def smallG (g : Gr) (n m : Int) : Bool := fewG g && (validG g != 0 || (decide ((g.nodes.length : Int) ≤ n) && decide ((g.edges.length : Int) ≤ m)))

theorem small_c (g : Gr) (n m : Int) (tok : Nat → Bool) (nt : Nat) : DCall Try.prog 12 [g.av, I n, I m] tok nt (B (smallG g n m)) tok nt := by
  intro box nb
  refine ACalls.of_body Try.func12 rfl (by kernel_rfl) follows_Try (by kernel_rfl) (by simp [Try.ntmps12]) ?_
  intro hbox htok
  simp only at hbox htok
  apply AL.start
  repeat (first | refine AL.seq ?_ | refine AL.block ?_ | refine AL.skip ?_ | refine AL.blk ?_)
  refine AL.region follows_Try (Nat.le_refl _) (by kernel_rfl) ?_
  simp
  repeat (first | refine AL.seq ?_ | refine AL.block ?_ | refine AL.skip ?_ | refine AL.blk ?_)
  refine AL.region follows_Try (Nat.le_refl _) (by kernel_rfl) ?_
  simp
  refine Stop.of_d (few05_c g _ _) ?_
  simp
  first | refine Gd.dt (fun h1 => ?_) (fun h1 => ?_) | refine Gd.df (fun h1 => ?_) (fun h1 => ?_) | refine Gd.t (fun h1 => ?_) (fun h1 => ?_) | refine Gd.f (fun h1 => ?_) (fun h1 => ?_)
  · have hf := fewG_fit h1
    simp [h1]
    refine Stop.of_d (valid05_c g hf _ _) ?_
    simp [h1]
    first | refine Gd.dt (fun h2 => ?_) (fun h2 => ?_) | refine Gd.df (fun h2 => ?_) (fun h2 => ?_) | refine Gd.t (fun h2 => ?_) (fun h2 => ?_) | refine Gd.f (fun h2 => ?_) (fun h2 => ?_)
    · simp [h1, h2]
      repeat (first | refine AL.seq ?_ | refine AL.block ?_ | refine AL.skip ?_ | refine AL.blk ?_)
      refine AL.ret ?_
      try simp only [AU]
      refine ⟨by simp, Fin.data (by simp [resAs, resA]; rfl) hbox rfl htok (fun _ h => h) (Nat.le_refl _) ?_⟩
      simp [packA, smallG, h1, h2]
    · simp [h1, h2]
      first | refine Gd.dt (fun h3 => ?_) (fun h3 => ?_) | refine Gd.df (fun h3 => ?_) (fun h3 => ?_) | refine Gd.t (fun h3 => ?_) (fun h3 => ?_) | refine Gd.f (fun h3 => ?_) (fun h3 => ?_)
      · simp [h1, h2, h3]
        repeat (first | refine AL.seq ?_ | refine AL.block ?_ | refine AL.skip ?_ | refine AL.blk ?_)
        refine AL.ret ?_
        try simp only [AU]
        refine ⟨by simp, Fin.data (by simp [resAs, resA]; rfl) hbox rfl htok (fun _ h => h) (Nat.le_refl _) ?_⟩
        simp [packA, smallG, h1, h2, h3]
      · simp [h1, h2, h3]
        repeat (first | refine AL.seq ?_ | refine AL.block ?_ | refine AL.skip ?_ | refine AL.blk ?_)
        refine AL.ret ?_
        try simp only [AU]
        refine ⟨by simp, Fin.data (by simp [resAs, resA]; rfl) hbox rfl htok (fun _ h => h) (Nat.le_refl _) ?_⟩
        simp [packA, smallG, h1, h2, h3]
  · simp [h1]
    repeat (first | refine AL.seq ?_ | refine AL.block ?_ | refine AL.skip ?_ | refine AL.blk ?_)
    refine AL.ret ?_
    try simp only [AU]
    refine ⟨by simp, Fin.data (by simp [resAs, resA]; rfl) hbox rfl htok (fun _ h => h) (Nat.le_refl _) ?_⟩
    simp [packA, smallG, h1]
end Go.AM
