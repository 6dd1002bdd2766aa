import Derived.Test.YtgonmjghdkoekaaFacM
namespace Go.AM
open Go Go.Proofs
set_option linter.unusedSimpArgs false
set_option linter.unusedVariables false

/-! ### Overlaps -/
theorem Conv.sub {v v' : AV} {m : AMem} (h : Sub v v') : Conv v m v' m := ⟨rfl, rfl, fun G w u h1 h2 => ⟨G, h1, h _ _ _ h2, Le.refl G w, fun _ h => h⟩⟩
theorem Sub.tup {xs ys : List AV} (h : SubL xs ys) : Sub (.tup xs) (.tup ys) := fun G w v r => by
  cases r with
  | tup hl hh => have := h.rvs ⟨hl, hh⟩; exact .tup this.1 this.2

def overlapsR (a b : Gr) : List Ov × Int :=
  if validG a ≠ 0 then ([], validG a) else if validG b ≠ 0 then ([], validG b) else if 40 < a.nodes.length + b.nodes.length ∨ 80 < a.edges.length + b.edges.length then ([], 3)
  else if 2000 < (ovN a b b.nodes.length [] []).length then ([], 3) else (ovN a b b.nodes.length [] [], 0)

theorem validG_edges {g : Gr} (h : validG g = 0) : ∀ e ∈ g.edges, 0 ≤ e.fr ∧ e.fr < g.nodes.length ∧ 0 ≤ e.to ∧ e.to < g.nodes.length := by
  intro e he
  unfold validG at h
  split at h
  · cases h
  · split at h
    · cases h
    · split at h
      · cases h
      · rename_i h3
        have := List.any_eq_false.1 (Bool.not_eq_true _ ▸ h3) e he
        simp [fitsB, withinB] at this
        omega

theorem overlaps13_c (a b : Gr) (ha : a.Fit) (hb : b.Fit) (tok : Nat → Bool) (nt : Nat) : DCall Try.prog 15 [a.av, b.av] tok nt (.tup [.d (ovs (overlapsR a b).1), I (overlapsR a b).2]) tok nt := by
  intro box nb
  have han := ha.n
  have hae := ha.e
  have hbn := hb.n
  have hbe := hb.e
  have main : ACalls Try.prog 15 [a.av, b.av] ⟨box, nb, tok, nt⟩ fun v m => (v = .tup [.d (ovs (overlapsR a b).1), I (overlapsR a b).2] ∨ (overlapsR a b).1 = [] ∧ v = .tup [.osl 0 [] .full, I (overlapsR a b).2]) ∧ m = ⟨box, nb, tok, nt⟩ := by
    refine ACalls.of_body Try.func15 rfl (by kernel_rfl) follows_Try (by kernel_rfl) (by simp [Try.ntmps15]) ?_
    intro hbox htok
    simp only at hbox htok
    apply AL.start
    repeat (first | refine AL.seq ?_ | refine AL.block ?_ | refine AL.skip ?_ | refine AL.blk ?_)
    refine AL.region follows_Try (Nat.le_refl _) (by kernel_rfl) ?_
    simp
    repeat (first | refine AL.seq ?_ | refine AL.block ?_ | refine AL.skip ?_ | refine AL.blk ?_)
    refine AL.region follows_Try (Nat.le_refl _) (by kernel_rfl) ?_
    simp
    refine Stop.of_d (valid05_c a ha _ _) ?_
    simp
    by_cases hva : validG a = 0
    · repeat (first | refine AL.seq ?_ | refine AL.block ?_ | refine AL.skip ?_ | refine AL.blk ?_)
      refine AL.region follows_Try (Nat.le_refl _) (by kernel_rfl) ?_
      simp [hva]
      repeat (first | refine AL.seq ?_ | refine AL.block ?_ | refine AL.skip ?_ | refine AL.blk ?_)
      refine AL.cond ?_
      simp
      repeat (first | refine AL.seq ?_ | refine AL.block ?_ | refine AL.skip ?_ | refine AL.blk ?_)
      refine AL.region follows_Try (Nat.le_refl _) (by kernel_rfl) ?_
      simp
      refine Stop.of_d (valid05_c b hb _ _) ?_
      simp
      by_cases hvb : validG b = 0
      · repeat (first | refine AL.seq ?_ | refine AL.block ?_ | refine AL.skip ?_ | refine AL.blk ?_)
        refine AL.region follows_Try (Nat.le_refl _) (by kernel_rfl) ?_
        simp [hvb]
        repeat (first | refine AL.seq ?_ | refine AL.block ?_ | refine AL.skip ?_ | refine AL.blk ?_)
        refine AL.cond ?_
        simp
        have hw1 : IntKind.i64.wrap (↑a.nodes.length + ↑b.nodes.length) = (a.nodes.length : Int) + b.nodes.length := wrap_in (by omega) (by omega)
        have hw2 : IntKind.i64.wrap (↑a.edges.length + ↑b.edges.length) = (a.edges.length : Int) + b.edges.length := wrap_in (by omega) (by omega)
        have big : (40 < a.nodes.length + b.nodes.length ∨ 80 < a.edges.length + b.edges.length) → ∀ {l loc}, Fin Try.prog ⟨nb, nb + 53, 53, box⟩ nt [ResultVar.tmp 4, ResultVar.tmp 5] (fun v m => (v = .tup [.d (ovs (overlapsR a b).1), I (overlapsR a b).2] ∨ (overlapsR a b).1 = [] ∧ v = .tup [.osl 0 [] .full, I (overlapsR a b).2]) ∧ m = ⟨box, nb, tok, nt⟩)
            ⟨tl ((5, I 3) :: (4, .osl 0 [] .full) :: l), lb nb box loc, tok, nt⟩ := fun hbig {l loc} => by
          have hR : overlapsR a b = ([], 3) := by simp [overlapsR, hva, hvb, hbig]
          exact (Fin.data (av := .tup [.osl 0 [] .full, I 3]) (by simp [resAs, resA]; rfl) hbox rfl htok (fun _ h => h) (Nat.le_refl _) (by simp [packA])).mono fun v m hq => ⟨.inr ⟨by rw [hR], by rw [hR, hq.1]⟩, hq.2⟩
        repeat (first | refine AL.seq ?_ | refine AL.block ?_ | refine AL.skip ?_ | refine AL.blk ?_)
        refine AL.region follows_Try (Nat.le_refl _) (by kernel_rfl) ?_
        simp [hw1, hw2]
        first | refine Gd.dt (fun hs1 => ?_) (fun hs1 => ?_) | refine Gd.df (fun hs1 => ?_) (fun hs1 => ?_) | refine Gd.t (fun hs1 => ?_) (fun hs1 => ?_) | refine Gd.f (fun hs1 => ?_) (fun hs1 => ?_)
        · simp [hs1, hw1, hw2]
          repeat (first | refine AL.seq ?_ | refine AL.block ?_ | refine AL.skip ?_ | refine AL.blk ?_)
          refine AL.cond ?_
          simp
          repeat (first | refine AL.seq ?_ | refine AL.block ?_ | refine AL.skip ?_ | refine AL.blk ?_)
          refine AL.region follows_Try (Nat.le_refl _) (by kernel_rfl) ?_
          simp
          repeat (first | refine AL.seq ?_ | refine AL.block ?_ | refine AL.skip ?_ | refine AL.blk ?_)
          refine AL.ret ?_
          try simp only [AU]
          exact ⟨by simp, big (by omega)⟩
        · simp [hs1, hw1, hw2]
          repeat (first | refine AL.seq ?_ | refine AL.block ?_ | refine AL.skip ?_ | refine AL.blk ?_)
          refine AL.cond ?_
          simp
          refine ⟨fun hs2 => ?_, fun hs2 => ?_⟩
          · repeat (first | refine AL.seq ?_ | refine AL.block ?_ | refine AL.skip ?_ | refine AL.blk ?_)
            refine AL.region follows_Try (Nat.le_refl _) (by kernel_rfl) ?_
            simp
            repeat (first | refine AL.seq ?_ | refine AL.block ?_ | refine AL.skip ?_ | refine AL.blk ?_)
            refine AL.ret ?_
            try simp only [AU]
            exact ⟨by simp, big (by omega)⟩
          · have hsm : ¬ (40 < a.nodes.length + b.nodes.length ∨ 80 < a.edges.length + b.edges.length) := by omega
            repeat (first | refine AL.seq ?_ | refine AL.block ?_ | refine AL.skip ?_ | refine AL.blk ?_)
            refine AL.region follows_Try (Nat.le_refl _) (by kernel_rfl) ?_
            simp
            refine AL.weak (Weaks.mk (l' := [(8, .ptr (nb + 40) 0 0)]) (loc' := [(40, [ovRow a b [] .full])]) (Nat.le_refl _) rfl (by simp [ToL, lk]) (by simp [BoxL, lk])) ?_
            repeat (first | refine AL.seq ?_ | refine AL.block ?_ | refine AL.skip ?_ | refine AL.blk ?_)
            refine AL.region follows_Try (Nat.le_refl _) (by kernel_rfl) ?_
            simp
            refine Stop.sub (args' := [.ptr (nb + 40) 0 0, .d (ints [])]) ⟨Sub.refl _, Sub.nil _ _ _, trivial⟩ ?_
            refine Stop.of_a (nodes13_c a b ⟨ha, hva, hb, validG_edges hvb⟩ b.nodes.length [] [] .full _ _ (nb + 40) _ _ (by simp) (by simp) trivial) ?_
            rintro v m' ⟨rfl, own1, tok1, nt1, rfl, hadv⟩
            simp
            repeat (first | refine AL.seq ?_ | refine AL.block ?_ | refine AL.skip ?_ | refine AL.blk ?_)
            refine AL.region follows_Try (Nat.le_refl _) (by kernel_rfl) ?_
            simp
            repeat (first | refine AL.seq ?_ | refine AL.block ?_ | refine AL.skip ?_ | refine AL.blk ?_)
            refine AL.cond ?_
            simp
            have hkeep : ∀ t, tok t = true → tok1 t = true := fun t ht => hadv.keep t ht (by simp)
            refine ⟨fun hmany => ?_, fun hfew => ?_⟩
            · have hR : overlapsR a b = ([], 3) := by
                have : 2000 < (ovN a b b.nodes.length [] []).length := by omega
                simp [overlapsR, hva, hvb, hsm, this]
              repeat (first | refine AL.seq ?_ | refine AL.block ?_ | refine AL.skip ?_ | refine AL.blk ?_)
              refine AL.region follows_Try (Nat.le_refl _) (by kernel_rfl) ?_
              simp
              repeat (first | refine AL.seq ?_ | refine AL.block ?_ | refine AL.skip ?_ | refine AL.blk ?_)
              refine AL.ret ?_
              try simp only [AU]
              exact ⟨by simp, (Fin.data (av := .tup [.osl 0 [] .full, I 3]) (by simp [resAs, resA]; rfl) hbox rfl htok hkeep hadv.le (by simp [packA])).mono fun v m hq => ⟨.inr ⟨by rw [hR], by rw [hR, hq.1]⟩, hq.2⟩⟩
            · have hR : overlapsR a b = (ovN a b b.nodes.length [] [], 0) := by
                have : ¬ 2000 < (ovN a b b.nodes.length [] []).length := by omega
                simp [overlapsR, hva, hvb, hsm, this]
              repeat (first | refine AL.seq ?_ | refine AL.block ?_ | refine AL.skip ?_ | refine AL.blk ?_)
              refine AL.region follows_Try (Nat.le_refl _) (by kernel_rfl) ?_
              simp
              repeat (first | refine AL.seq ?_ | refine AL.block ?_ | refine AL.skip ?_ | refine AL.blk ?_)
              refine AL.ret ?_
              try simp only [AU]
              exact ⟨by simp, (Fin.data (av := .tup [.d (ovs (ovN a b b.nodes.length [] [])), I 0]) (by simp [resAs, resA]; rfl) hbox rfl htok hkeep hadv.le (by simp [packA])).mono fun v m hq => ⟨.inl (by rw [hR, hq.1]), hq.2⟩⟩
      · repeat (first | refine AL.seq ?_ | refine AL.block ?_ | refine AL.skip ?_ | refine AL.blk ?_)
        refine AL.region follows_Try (Nat.le_refl _) (by kernel_rfl) ?_
        simp
        repeat (first | refine AL.seq ?_ | refine AL.block ?_ | refine AL.skip ?_ | refine AL.blk ?_)
        refine AL.cond ?_
        simp [hvb]
        repeat (first | refine AL.seq ?_ | refine AL.block ?_ | refine AL.skip ?_ | refine AL.blk ?_)
        refine AL.region follows_Try (Nat.le_refl _) (by kernel_rfl) ?_
        simp
        have hR : overlapsR a b = ([], validG b) := by simp [overlapsR, hva, hvb]
        repeat (first | refine AL.seq ?_ | refine AL.block ?_ | refine AL.skip ?_ | refine AL.blk ?_)
        refine AL.ret ?_
        try simp only [AU]
        refine ⟨by simp, (Fin.data (av := .tup [.osl 0 [] .full, I (validG b)]) (by simp [resAs, resA]; rfl) hbox rfl htok (fun _ h => h) (Nat.le_refl _) (by simp [packA])).mono fun v m hq => ⟨.inr ⟨by rw [hR], by rw [hR, hq.1]⟩, hq.2⟩⟩
    · repeat (first | refine AL.seq ?_ | refine AL.block ?_ | refine AL.skip ?_ | refine AL.blk ?_)
      refine AL.region follows_Try (Nat.le_refl _) (by kernel_rfl) ?_
      simp
      repeat (first | refine AL.seq ?_ | refine AL.block ?_ | refine AL.skip ?_ | refine AL.blk ?_)
      refine AL.cond ?_
      simp [hva]
      repeat (first | refine AL.seq ?_ | refine AL.block ?_ | refine AL.skip ?_ | refine AL.blk ?_)
      refine AL.region follows_Try (Nat.le_refl _) (by kernel_rfl) ?_
      simp
      have hR : overlapsR a b = ([], validG a) := by simp [overlapsR, hva]
      repeat (first | refine AL.seq ?_ | refine AL.block ?_ | refine AL.skip ?_ | refine AL.blk ?_)
      refine AL.ret ?_
      try simp only [AU]
      refine ⟨by simp, (Fin.data (av := .tup [.osl 0 [] .full, I (validG a)]) (by simp [resAs, resA]; rfl) hbox rfl htok (fun _ h => h) (Nat.le_refl _) (by simp [packA])).mono fun v m hq => ⟨.inr ⟨by rw [hR], by rw [hR, hq.1]⟩, hq.2⟩⟩
  refine main.conv fun v m h => ?_
  obtain ⟨rfl | ⟨h1, rfl⟩, rfl⟩ := h
  · exact ⟨_, _, Conv.refl _ _, rfl, rfl⟩
  · refine ⟨_, _, Conv.sub (v' := .tup [.d (ovs (overlapsR a b).1), I (overlapsR a b).2]) (Sub.tup ⟨?_, Sub.refl _, trivial⟩), rfl, rfl⟩
    rw [h1]
    exact Sub.nil _ _ _
end Go.AM
