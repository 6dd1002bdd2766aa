import Derived.Test.YtbihadcpidlfoaaGreatPSL5
namespace Go.AM
open Go Go.Proofs
set_option linter.unusedSimpArgs false
set_option linter.unusedVariables false

/-! ### factor.Overlaps -/
def st13 (a b : Gr) (nb : Nat) (box : Nat → Option (List (List AV))) (tok : Nat → Bool) (nt : Nat) (i : Nat) : AState :=
  ⟨tl [(2, .ptr (nb + 2) 0 0), (3, .ptr (nb + 3) 0 0), (12, .osl 2 [[ints a.nodes, AM.edges a.edges], [ints b.nodes, AM.edges b.edges]] .full), (13, I 2), (14, I i)],
    lb nb box [(2, [[.d (ints a.nodes), .d (AM.edges a.edges)]]), (3, [[.d (ints b.nodes), .d (AM.edges b.edges)]])], tok, nt⟩

def inv13 (a b : Gr) (i : Nat) : Prop := i ≤ 2 ∧ (0 < i → validG a = 0) ∧ (1 < i → validG b = 0)
def mu13 (i : Nat) : Nat := 2 - i

theorem overlapsF_c (a b : Gr) (ha : a.Fit) (hb : b.Fit) (tok : Nat → Bool) (nt : Nat) : DCall Tryz.prog 76 [a.av, b.av] tok nt (.tup [.d (ovs (overlapsR a b).1), I (overlapsR a b).2]) tok nt := by
  intro box nb
  have han := ha.n
  have hae := ha.e
  have hbn := hb.n
  have hbe := hb.e
  have main : ACalls Tryz.prog 76 [a.av, b.av] ⟨box, nb, tok, nt⟩ fun v m => (v = .tup [.d (ovs (overlapsR a b).1), I (overlapsR a b).2] ∨ (overlapsR a b).1 = [] ∧ v = .tup [.osl 0 [] .full, I (overlapsR a b).2]) ∧ m = ⟨box, nb, tok, nt⟩ := by
    refine ACalls.of_body Tryz.func76 rfl (by kernel_rfl) follows_Tryz (by kernel_rfl) (by simp [Tryz.ntmps76]) ?_
    intro hbox htok
    simp only at hbox htok
    apply AL.start
    repeat (first | refine AL.seq ?_ | refine AL.block ?_ | refine AL.skip ?_ | refine AL.blk ?_)
    refine AL.region follows_Tryz (Nat.le_refl _) (by kernel_rfl) ?_
    simp
    repeat (first | refine AL.seq ?_ | refine AL.block ?_ | refine AL.skip ?_ | refine AL.blk ?_)
    refine AL.region follows_Tryz (Nat.le_refl _) (by kernel_rfl) ?_
    simp
    refine ⟨rfl, ?_⟩
    repeat (first | refine AL.seq ?_ | refine AL.block ?_ | refine AL.skip ?_ | refine AL.blk ?_)
    refine AL.loopT (st13 a b nb box tok nt) (inv13 a b) mu13 0 ⟨by omega, by omega, by omega⟩ (Weaks.mk (Nat.le_refl _) rfl (by simp [ToL, lk]) (by simp [BoxL, lk])) ?_
    rintro i S ⟨hi, h0, h1⟩ hS
    simp only [st13] at hS
    subst hS
    repeat (first | refine AL.seq ?_ | refine AL.block ?_ | refine AL.skip ?_ | refine AL.blk ?_)
    refine AL.region follows_Tryz (Nat.le_refl _) (by kernel_rfl) ?_
    simp
    repeat (first | refine AL.seq ?_ | refine AL.block ?_ | refine AL.skip ?_ | refine AL.blk ?_)
    refine AL.cond ?_
    simp
    have h012 : i = 0 ∨ i = 1 ∨ i = 2 := by omega
    rcases h012 with rfl | rfl | rfl
    · simp
      repeat (first | refine AL.seq ?_ | refine AL.block ?_ | refine AL.skip ?_ | refine AL.blk ?_)
      refine AL.region follows_Tryz (Nat.le_refl _) (by kernel_rfl) ?_
      simp
      repeat (first | refine AL.seq ?_ | refine AL.block ?_ | refine AL.skip ?_ | refine AL.blk ?_)
      refine AL.region follows_Tryz (Nat.le_refl _) (by kernel_rfl) ?_
      simp
      refine Stop.of_d (graphValid_c a ha _ _) ?_
      simp
      by_cases hv : validG a = 0
      · repeat (first | refine AL.seq ?_ | refine AL.block ?_ | refine AL.skip ?_ | refine AL.blk ?_)
        refine AL.region follows_Tryz (Nat.le_refl _) (by kernel_rfl) ?_
        simp [hv]
        repeat (first | refine AL.seq ?_ | refine AL.block ?_ | refine AL.skip ?_ | refine AL.blk ?_)
        refine AL.cond ?_
        simp
        repeat (first | refine AL.seq ?_ | refine AL.block ?_ | refine AL.skip ?_ | refine AL.blk ?_)
        refine AL.region follows_Tryz (Nat.le_refl _) (by kernel_rfl) ?_
        simp [show IntKind.i64.wrap 1 = 1 from rfl]
        repeat (first | refine AL.seq ?_ | refine AL.block ?_ | refine AL.skip ?_ | refine AL.blk ?_)
        refine AL.nil ?_
        refine ⟨1, ⟨by omega, fun _ => hv, by omega⟩, by decide, Weaks.mk (Nat.le_refl _) rfl (by simp [ToL, lk]) (by simp [BoxL, lk])⟩
      · repeat (first | refine AL.seq ?_ | refine AL.block ?_ | refine AL.skip ?_ | refine AL.blk ?_)
        refine AL.region follows_Tryz (Nat.le_refl _) (by kernel_rfl) ?_
        simp
        repeat (first | refine AL.seq ?_ | refine AL.block ?_ | refine AL.skip ?_ | refine AL.blk ?_)
        refine AL.cond ?_
        simp [hv]
        repeat (first | refine AL.seq ?_ | refine AL.block ?_ | refine AL.skip ?_ | refine AL.blk ?_)
        refine AL.region follows_Tryz (Nat.le_refl _) (by kernel_rfl) ?_
        simp
        have hR : overlapsR a b = ([], validG a) := by simp [overlapsR, hv]
        repeat (first | refine AL.seq ?_ | refine AL.block ?_ | refine AL.skip ?_ | refine AL.blk ?_)
        refine AL.ret ?_
        try simp only [AU]
        refine ⟨by simp, (Fin.data (av := .tup [.osl 0 [] .full, I (validG a)]) (by simp [resAs, resA]; rfl) hbox rfl htok (fun _ h => h) (Nat.le_refl _) (by simp [packA])).mono fun v m hq => ⟨.inr ⟨by rw [hR], by rw [hR, hq.1]⟩, hq.2⟩⟩
    · simp
      have h0 : validG a = 0 := h0 (by omega)
      repeat (first | refine AL.seq ?_ | refine AL.block ?_ | refine AL.skip ?_ | refine AL.blk ?_)
      refine AL.region follows_Tryz (Nat.le_refl _) (by kernel_rfl) ?_
      simp
      repeat (first | refine AL.seq ?_ | refine AL.block ?_ | refine AL.skip ?_ | refine AL.blk ?_)
      refine AL.region follows_Tryz (Nat.le_refl _) (by kernel_rfl) ?_
      simp
      refine Stop.of_d (graphValid_c b hb _ _) ?_
      simp
      by_cases hv : validG b = 0
      · repeat (first | refine AL.seq ?_ | refine AL.block ?_ | refine AL.skip ?_ | refine AL.blk ?_)
        refine AL.region follows_Tryz (Nat.le_refl _) (by kernel_rfl) ?_
        simp [hv]
        repeat (first | refine AL.seq ?_ | refine AL.block ?_ | refine AL.skip ?_ | refine AL.blk ?_)
        refine AL.cond ?_
        simp
        repeat (first | refine AL.seq ?_ | refine AL.block ?_ | refine AL.skip ?_ | refine AL.blk ?_)
        refine AL.region follows_Tryz (Nat.le_refl _) (by kernel_rfl) ?_
        simp [show IntKind.i64.wrap 2 = 2 from rfl]
        repeat (first | refine AL.seq ?_ | refine AL.block ?_ | refine AL.skip ?_ | refine AL.blk ?_)
        refine AL.nil ?_
        refine ⟨2, ⟨by omega, fun _ => h0, fun _ => hv⟩, by decide, Weaks.mk (Nat.le_refl _) rfl (by simp [ToL, lk]) (by simp [BoxL, lk])⟩
      · repeat (first | refine AL.seq ?_ | refine AL.block ?_ | refine AL.skip ?_ | refine AL.blk ?_)
        refine AL.region follows_Tryz (Nat.le_refl _) (by kernel_rfl) ?_
        simp
        repeat (first | refine AL.seq ?_ | refine AL.block ?_ | refine AL.skip ?_ | refine AL.blk ?_)
        refine AL.cond ?_
        simp [hv]
        repeat (first | refine AL.seq ?_ | refine AL.block ?_ | refine AL.skip ?_ | refine AL.blk ?_)
        refine AL.region follows_Tryz (Nat.le_refl _) (by kernel_rfl) ?_
        simp
        have hR : overlapsR a b = ([], validG b) := by simp [overlapsR, hv, h0]
        repeat (first | refine AL.seq ?_ | refine AL.block ?_ | refine AL.skip ?_ | refine AL.blk ?_)
        refine AL.ret ?_
        try simp only [AU]
        refine ⟨by simp, (Fin.data (av := .tup [.osl 0 [] .full, I (validG b)]) (by simp [resAs, resA]; rfl) hbox rfl htok (fun _ h => h) (Nat.le_refl _) (by simp [packA])).mono fun v m hq => ⟨.inr ⟨by rw [hR], by rw [hR, hq.1]⟩, hq.2⟩⟩
    · simp
      repeat (first | refine AL.seq ?_ | refine AL.block ?_ | refine AL.skip ?_ | refine AL.blk ?_)
      refine AL.exit ?_
      simp only [AU, ↓reduceIte]
      have hva : validG a = 0 := h0 (by omega)
      have hvb : validG b = 0 := h1 (by omega)
      have hw1 : IntKind.i64.wrap (↑a.nodes.length + ↑b.nodes.length) = (a.nodes.length : Int) + b.nodes.length := wrap_in (by omega) (by omega)
      have hw2 : IntKind.i64.wrap (↑a.edges.length + ↑b.edges.length) = (a.edges.length : Int) + b.edges.length := wrap_in (by omega) (by omega)
      have big : (40 < a.nodes.length + b.nodes.length ∨ 80 < a.edges.length + b.edges.length) → ∀ {l loc}, Fin Tryz.prog ⟨nb, nb + 58, 58, box⟩ nt [ResultVar.tmp 4, ResultVar.tmp 5] (fun v m => (v = .tup [.d (ovs (overlapsR a b).1), I (overlapsR a b).2] ∨ (overlapsR a b).1 = [] ∧ v = .tup [.osl 0 [] .full, I (overlapsR a b).2]) ∧ m = ⟨box, nb, tok, nt⟩)
          ⟨tl ((5, I 3) :: (4, .osl 0 [] .full) :: l), lb nb box loc, tok, nt⟩ := fun hbig {l loc} => by
        have hR : overlapsR a b = ([], 3) := by simp [overlapsR, hva, hvb, hbig]
        exact (Fin.data (av := .tup [.osl 0 [] .full, I 3]) (by simp [resAs, resA]; rfl) hbox rfl htok (fun _ h => h) (Nat.le_refl _) (by simp [packA])).mono fun v m hq => ⟨.inr ⟨by rw [hR], by rw [hR, hq.1]⟩, hq.2⟩
      repeat (first | refine AL.seq ?_ | refine AL.block ?_ | refine AL.skip ?_ | refine AL.blk ?_)
      refine AL.region follows_Tryz (Nat.le_refl _) (by kernel_rfl) ?_
      simp [hw1, hw2]
      first | refine Gd.dt (fun hs1 => ?_) (fun hs1 => ?_) | refine Gd.df (fun hs1 => ?_) (fun hs1 => ?_) | refine Gd.t (fun hs1 => ?_) (fun hs1 => ?_) | refine Gd.f (fun hs1 => ?_) (fun hs1 => ?_)
      · simp [hs1, hw1, hw2]
        repeat (first | refine AL.seq ?_ | refine AL.block ?_ | refine AL.skip ?_ | refine AL.blk ?_)
        refine AL.cond ?_
        simp
        repeat (first | refine AL.seq ?_ | refine AL.block ?_ | refine AL.skip ?_ | refine AL.blk ?_)
        refine AL.region follows_Tryz (Nat.le_refl _) (by kernel_rfl) ?_
        simp
        repeat (first | refine AL.seq ?_ | refine AL.block ?_ | refine AL.skip ?_ | refine AL.blk ?_)
        refine AL.ret ?_
        try simp only [AU]
        exact ⟨by simp, big (by omega)⟩
      · simp [hs1, hw1, hw2]
        repeat (first | refine AL.seq ?_ | refine AL.block ?_ | refine AL.skip ?_ | refine AL.blk ?_)
        refine AL.cond ?_
        simp
        refine ⟨fun hs2 => ?_, fun hs2 => ?_⟩
        · repeat (first | refine AL.seq ?_ | refine AL.block ?_ | refine AL.skip ?_ | refine AL.blk ?_)
          refine AL.region follows_Tryz (Nat.le_refl _) (by kernel_rfl) ?_
          simp
          repeat (first | refine AL.seq ?_ | refine AL.block ?_ | refine AL.skip ?_ | refine AL.blk ?_)
          refine AL.ret ?_
          try simp only [AU]
          exact ⟨by simp, big (by omega)⟩
        · have hsm : ¬ (40 < a.nodes.length + b.nodes.length ∨ 80 < a.edges.length + b.edges.length) := by omega
          repeat (first | refine AL.seq ?_ | refine AL.block ?_ | refine AL.skip ?_ | refine AL.blk ?_)
          refine AL.region follows_Tryz (Nat.le_refl _) (by kernel_rfl) ?_
          simp
          refine AL.weak (Weaks.mk (l' := [(9, .ptr (nb + 45) 0 0)]) (loc' := [(45, [ovRow a b [] .full])]) (Nat.le_refl _) rfl (by simp [ToL, lk]) (by simp [BoxL, lk])) ?_
          repeat (first | refine AL.seq ?_ | refine AL.block ?_ | refine AL.skip ?_ | refine AL.blk ?_)
          refine AL.region follows_Tryz (Nat.le_refl _) (by kernel_rfl) ?_
          simp
          refine Stop.sub (args' := [.ptr (nb + 45) 0 0, .d (ints [])]) ⟨Sub.refl _, Sub.nil _ _ _, trivial⟩ ?_
          refine Stop.of_a (nodes_c a b ⟨ha, hva, hb, validG_edges hvb⟩ b.nodes.length [] [] .full _ _ (nb + 45) _ _ (by simp) (by simp) trivial) ?_
          rintro v m' ⟨rfl, own1, tok1, nt1, rfl, hadv⟩
          simp
          repeat (first | refine AL.seq ?_ | refine AL.block ?_ | refine AL.skip ?_ | refine AL.blk ?_)
          refine AL.region follows_Tryz (Nat.le_refl _) (by kernel_rfl) ?_
          simp
          repeat (first | refine AL.seq ?_ | refine AL.block ?_ | refine AL.skip ?_ | refine AL.blk ?_)
          refine AL.cond ?_
          simp
          have hkeep : ∀ t, tok t = true → tok1 t = true := fun t ht => hadv.keep t ht (by simp)
          refine ⟨fun hmany => ?_, fun hfew => ?_⟩
          · have hR : overlapsR a b = ([], 3) := by
              have : 2000 < (ovN a b b.nodes.length [] []).length := by omega
              simp [overlapsR, hva, hvb, hsm, this]
            repeat (first | refine AL.seq ?_ | refine AL.block ?_ | refine AL.skip ?_ | refine AL.blk ?_)
            refine AL.region follows_Tryz (Nat.le_refl _) (by kernel_rfl) ?_
            simp
            repeat (first | refine AL.seq ?_ | refine AL.block ?_ | refine AL.skip ?_ | refine AL.blk ?_)
            refine AL.ret ?_
            try simp only [AU]
            exact ⟨by simp, (Fin.data (av := .tup [.osl 0 [] .full, I 3]) (by simp [resAs, resA]; rfl) hbox rfl htok hkeep hadv.le (by simp [packA])).mono fun v m hq => ⟨.inr ⟨by rw [hR], by rw [hR, hq.1]⟩, hq.2⟩⟩
          · have hR : overlapsR a b = (ovN a b b.nodes.length [] [], 0) := by
              have : ¬ 2000 < (ovN a b b.nodes.length [] []).length := by omega
              simp [overlapsR, hva, hvb, hsm, this]
            repeat (first | refine AL.seq ?_ | refine AL.block ?_ | refine AL.skip ?_ | refine AL.blk ?_)
            refine AL.region follows_Tryz (Nat.le_refl _) (by kernel_rfl) ?_
            simp
            repeat (first | refine AL.seq ?_ | refine AL.block ?_ | refine AL.skip ?_ | refine AL.blk ?_)
            refine AL.ret ?_
            try simp only [AU]
            exact ⟨by simp, (Fin.data (av := .tup [.d (ovs (ovN a b b.nodes.length [] [])), I 0]) (by simp [resAs, resA]; rfl) hbox rfl htok hkeep hadv.le (by simp [packA])).mono fun v m hq => ⟨.inl (by rw [hR, hq.1]), hq.2⟩⟩
  refine main.conv fun v m h => ?_
  obtain ⟨rfl | ⟨h1, rfl⟩, rfl⟩ := h
  · exact ⟨_, _, Conv.refl _ _, rfl, rfl⟩
  · refine ⟨_, _, Conv.sub (v' := .tup [.d (ovs (overlapsR a b).1), I (overlapsR a b).2]) (Sub.tup ⟨?_, Sub.refl _, trivial⟩), rfl, rfl⟩
    rw [h1]
    exact Sub.nil _ _ _
end Go.AM
namespace Go.AM
open Go Go.Proofs
set_option linter.unusedSimpArgs false
set_option linter.unusedVariables false

/-! ### partition.right, one, Quotient -/
end Go.AM
namespace Go.AM
open Go Go.Proofs
set_option linter.unusedSimpArgs false
set_option linter.unusedVariables false

/-! ### partition.All -/
end Go.AM
namespace Go.AM
open Go Go.Proofs
set_option linter.unusedSimpArgs false
set_option linter.unusedVariables false

/-! ### ref13.numbered, quotient -/
end Go.AM
namespace Go.AM
open Go Go.Proofs
set_option linter.unusedSimpArgs false
set_option linter.unusedVariables false

/-! ### ref13.quotients.edges, nodes -/
end Go.AM
namespace Go.AM
open Go Go.Proofs
set_option linter.unusedSimpArgs false
set_option linter.unusedVariables false

/-! ### ref13.quotients.nodes, Quotients -/
end Go.AM
namespace Go.AM
open Go Go.Proofs
set_option linter.unusedSimpArgs false
set_option linter.unusedVariables false

/-! ### factor.alike, its closures -/
end Go.AM
namespace Go.AM
open Go Go.Proofs
set_option linter.unusedSimpArgs false
set_option linter.unusedVariables false

/-! ### factor.quotient -/
end Go.AM
/-
  The plain law of the standard quotients: listing all partitions and choosing those that fit is going on from the least elements, class by class. No program in sight.
-/
namespace Go.AM
open Go
set_option linter.unusedSimpArgs false
set_option linter.unusedVariables false

/-! ### Lists that grow up to 2001 -/
def lim {α : Type} (out L : List α) : List α := out ++ L.take (2001 - out.length)
theorem lim_nil {α : Type} (out : List α) : lim out [] = out := by simp [lim]
theorem lim_append {α : Type} (out A B : List α) : lim (lim out A) B = lim out (A ++ B) := by
  unfold lim
  rw [List.take_append, List.append_assoc]
  congr 2
  simp only [List.length_append, List.length_take]
  congr 1
  omega
theorem lim_full {α : Type} (out L : List α) (h : 2000 < out.length) : lim out L = out := by
  unfold lim
  have : 2001 - out.length = 0 := by omega
  simp [this]
theorem lim_one {α : Type} (out : List α) (x : α) (h : ¬ 2000 < out.length) : lim out [x] = out ++ [x] := by
  unfold lim
  have : 2001 - out.length = (2001 - out.length - 1) + 1 := by omega
  rw [this]
  simp
theorem foldl_lim {α : Type} (c : Nat → Bool) (f : Nat → List α → List α) (g : Nat → List α) : ∀ (ks : List Nat) (out : List α), (∀ k ∈ ks, ∀ out, f k out = lim out (g k)) →
    ks.foldl (fun out k => if c k = true then f k out else out) out = lim out ((ks.filter c).flatMap g)
  | [], out, _ => by simp [lim_nil]
  | k :: ks, out, h => by
    rw [List.foldl_cons, foldl_lim c f g ks _ (fun k hk => h k (by simp [hk]))]
    by_cases hk : c k = true
    · rw [List.filter_cons_of_pos hk, List.flatMap_cons, if_pos hk, h k (by simp), lim_append]
    · rw [List.filter_cons_of_neg hk, if_neg hk]

/-! ### One element after the other -/
/-! ### The reference's lists -/
/-! ### Numbers by least elements -/
section
variable {α : Type}
end

end Go.AM
namespace Go.AM
open Go Go.Proofs
set_option linter.unusedSimpArgs false
set_option linter.unusedVariables false

/-! ### factor.Quotients -/
end Go.AM
namespace Go.AM
open Go Go.Proofs
set_option linter.unusedSimpArgs false
set_option linter.unusedVariables false

/-! ### awake -/
theorem Sub.agg {xs ys : List AV} (h : SubL xs ys) : Sub (.agg xs) (.agg ys) := fun G w v r => by
  cases r with
  | agg hl hh h1 => have := h.rvs ⟨hl, hh⟩; exact .agg this.1 this.2 h1

end Go.AM
namespace Go.AM
open Go Go.Proofs
set_option linter.unusedSimpArgs false
set_option linter.unusedVariables false

/-! ### What the lists hold is small -/
theorem foldl_all {α β : Type} {P : α → Prop} (f : List α → β → List α) : ∀ (l : List β) (out : List α), (∀ out b, b ∈ l → (∀ o ∈ out, P o) → ∀ o ∈ f out b, P o) → (∀ o ∈ out, P o) → ∀ o ∈ l.foldl f out, P o
  | [], out, _, h => h
  | b :: l, out, hf, h => foldl_all f l _ (fun out b hb => hf out b (by simp [hb])) (hf out b (by simp) h)

theorem ovE_all {P : Ov → Prop} (a b : Gr) (nodes : List Int) : ∀ (n : Nat) (es : List Int) (out : List Ov), (∀ o ∈ out, P o) → (∀ es', es'.length = es.length + n → P (glue a b nodes es')) → ∀ o ∈ ovE a b nodes n es out, P o
  | 0, es, out, h, hg => by
    unfold ovE
    split
    · exact h
    · intro o ho
      rcases List.mem_append.1 ho with ho | ho
      · exact h o ho
      · simp at ho; subst ho; exact hg es (by simp)
  | n + 1, es, out, h, hg => by
    unfold ovE
    split
    · exact h
    · refine foldl_all _ _ _ (fun out k _ ho => ?_) (ovE_all a b nodes n _ _ h fun es' he => hg es' (by simp at he; omega))
      split
      · exact ovE_all a b nodes n _ _ ho fun es' he => hg es' (by simp at he; omega)
      · exact ho

theorem ovN_all {P : Ov → Prop} (a b : Gr) : ∀ (n : Nat) (l : List Int) (out : List Ov), (∀ o ∈ out, P o) → (∀ l' es', l'.length = l.length + n → es'.length = b.edges.length → P (glue a b l' es')) → ∀ o ∈ ovN a b n l out, P o
  | 0, l, out, h, hg => by
    unfold ovN
    split
    · exact h
    · exact ovE_all a b l _ _ _ h fun es' he => hg l es' (by simp) (by simpa using he)
  | n + 1, l, out, h, hg => by
    unfold ovN
    split
    · exact h
    · refine foldl_all _ _ _ (fun out k _ ho => ?_) (ovN_all a b n _ _ h fun l' es' hl he => hg l' es' (by simp at hl; omega) he)
      unfold ovStepN
      split
      · exact ovN_all a b n _ _ ho fun l' es' hl he => hg l' es' (by simp at hl; omega) he
      · exact ho

theorem glue_fit (a b : Gr) (l k : List Int) (ha : a.nodes.length ≤ 90 ∧ a.edges.length ≤ 90) (hl : l.length ≤ 90) (hk : k.length ≤ 90) : (glue a b l k).Fit := by
  have h1 := glueN_len a.nodes b.nodes l l.length
  have h2 := glueE_len a.edges b.edges (glueN a.nodes b.nodes l l.length).2 k k.length
  exact ⟨⟨by simp only [glue]; omega, by simp only [glue]; omega⟩, ⟨by simp [glue, idM]; omega, by simp [glue, idM]; omega⟩, ⟨by simp only [glue]; omega, by simp only [glue]; omega⟩⟩

theorem overlapsR_fit (a b : Gr) (ha : a.nodes.length ≤ 90 ∧ a.edges.length ≤ 90) (hb : b.nodes.length ≤ 90 ∧ b.edges.length ≤ 90) : (overlapsR a b).1.length ≤ 1000000 ∧ ∀ o ∈ (overlapsR a b).1, o.Fit := by
  have key : ∀ o ∈ ovN a b b.nodes.length [] [], o.Fit := ovN_all a b _ _ _ (by simp) fun l' es' h1 h2 => glue_fit a b l' es' ha (by simp at h1; omega) (by omega)
  unfold overlapsR
  split
  · simp
  · split
    · simp
    · split
      · simp
      · split
        · simp
        · exact ⟨by simp only; omega, key⟩

/-! ### The first two laws -/
end Go.AM
namespace Go.AM
open Go Go.Proofs
set_option linter.unusedSimpArgs false
set_option linter.unusedVariables false

/-! ### morphism.Valid, ref06.Valid -/
/-- The first error of a list. -/
def firstE (f : Nat → Int) : Nat → Int
  | 0 => 0
  | n + 1 => if firstE f n = 0 then f n else firstE f n
theorem firstE_stop {f : Nat → Int} {i : Nat} (h0 : firstE f i = 0) (h : f i ≠ 0) : ∀ n, i < n → firstE f n = f i
  | 0, hn => by omega
  | n + 1, hn => by
    simp only [firstE]
    by_cases e : i = n
    · subst e; rw [if_pos h0]
    · rw [firstE_stop h0 h n (by omega), if_neg h]

def nodeE (a b : Gr) (m : Mo) (i : Nat) : Int :=
  if m.nodes.getD i 0 < 0 ∨ (b.nodes.length : Int) ≤ m.nodes.getD i 0 then 6 else if b.nodes.getD (m.nodes.getD i 0).toNat 0 = a.nodes.getD i 0 then 0 else 13
def edgeE (a b : Gr) (m : Mo) (i : Nat) : Int :=
  if m.edges.getD i 0 < 0 ∨ (b.edges.length : Int) ≤ m.edges.getD i 0 then 6 else
    let x := a.edges.getD i default
    let y := b.edges.getD (m.edges.getD i 0).toNat default
    if x.ty ≠ y.ty then 13 else if m.nodes.getD x.fr.toNat 0 ≠ y.fr ∨ m.nodes.getD x.to.toNat 0 ≠ y.to then 11 else 0

def validM (a b : Gr) (m : Mo) : Int :=
  if validG a ≠ 0 then validG a else if validG b ≠ 0 then validG b else if m.nodes.length ≠ a.nodes.length ∨ m.edges.length ≠ a.edges.length then 20
  else if firstE (nodeE a b m) a.nodes.length ≠ 0 then firstE (nodeE a b m) a.nodes.length else firstE (edgeE a b m) a.edges.length

def st51a (a b : Gr) (m : Mo) (nb : Nat) (box : Nat → Option (List (List AV))) (tok : Nat → Bool) (nt : Nat) (i : Nat) : AState :=
  ⟨tl [(3, .ptr (nb + 3) 0 0), (4, .ptr (nb + 4) 0 0), (5, .ptr (nb + 5) 0 0), (42, .d (ints m.nodes)), (43, I m.nodes.length), (44, I i)],
    lb nb box [(3, [[.d (ints a.nodes), .d (AM.edges a.edges)]]), (4, [[.d (ints b.nodes), .d (AM.edges b.edges)]]), (5, [[.d (ints m.nodes), .d (ints m.edges)]])], tok, nt⟩

def st51b (a b : Gr) (m : Mo) (nb : Nat) (box : Nat → Option (List (List AV))) (tok : Nat → Bool) (nt : Nat) (i : Nat) : AState :=
  ⟨tl [(3, .ptr (nb + 3) 0 0), (4, .ptr (nb + 4) 0 0), (5, .ptr (nb + 5) 0 0), (71, .d (ints m.edges)), (72, I m.edges.length), (73, I i)],
    lb nb box [(3, [[.d (ints a.nodes), .d (AM.edges a.edges)]]), (4, [[.d (ints b.nodes), .d (AM.edges b.edges)]]), (5, [[.d (ints m.nodes), .d (ints m.edges)]])], tok, nt⟩

theorem valid51_c (a b : Gr) (m : Mo) (ha : a.Fit) (hb : b.Fit) (tok : Nat → Bool) (nt : Nat) : DCall Tryz.prog 44 [a.av, b.av, m.av] tok nt (I (validM a b m)) tok nt := by
  intro box nb
  have han := ha.n
  have hae := ha.e
  have hbn := hb.n
  have hbe := hb.e
  refine ACalls.of_body Tryz.func44 rfl (by kernel_rfl) follows_Tryz (by kernel_rfl) (by simp [Tryz.ntmps44]) ?_
  intro hbox htok
  simp only at hbox htok
  apply AL.start
  repeat (first | refine AL.seq ?_ | refine AL.block ?_ | refine AL.skip ?_ | refine AL.blk ?_)
  refine AL.region follows_Tryz (Nat.le_refl _) (by kernel_rfl) ?_
  simp
  repeat (first | refine AL.seq ?_ | refine AL.block ?_ | refine AL.skip ?_ | refine AL.blk ?_)
  refine AL.region follows_Tryz (Nat.le_refl _) (by kernel_rfl) ?_
  simp
  refine Stop.of_d (graphValid_c a ha _ _) ?_
  simp
  by_cases hva : validG a = 0
  · repeat (first | refine AL.seq ?_ | refine AL.block ?_ | refine AL.skip ?_ | refine AL.blk ?_)
    refine AL.region follows_Tryz (Nat.le_refl _) (by kernel_rfl) ?_
    simp [hva]
    repeat (first | refine AL.seq ?_ | refine AL.block ?_ | refine AL.skip ?_ | refine AL.blk ?_)
    refine AL.cond ?_
    simp
    repeat (first | refine AL.seq ?_ | refine AL.block ?_ | refine AL.skip ?_ | refine AL.blk ?_)
    refine AL.region follows_Tryz (Nat.le_refl _) (by kernel_rfl) ?_
    simp
    refine Stop.of_d (graphValid_c b hb _ _) ?_
    simp
    by_cases hvb : validG b = 0
    · repeat (first | refine AL.seq ?_ | refine AL.block ?_ | refine AL.skip ?_ | refine AL.blk ?_)
      refine AL.region follows_Tryz (Nat.le_refl _) (by kernel_rfl) ?_
      simp [hvb]
      repeat (first | refine AL.seq ?_ | refine AL.block ?_ | refine AL.skip ?_ | refine AL.blk ?_)
      refine AL.cond ?_
      simp
      have hxa := validG_edges hva
      have hxb := validG_edges hvb
      repeat (first | refine AL.seq ?_ | refine AL.block ?_ | refine AL.skip ?_ | refine AL.blk ?_)
      refine AL.region follows_Tryz (Nat.le_refl _) (by kernel_rfl) ?_
      simp
      by_cases hl1 : m.nodes.length = a.nodes.length
      · simp [hl1]
        repeat (first | refine AL.seq ?_ | refine AL.block ?_ | refine AL.skip ?_ | refine AL.blk ?_)
        refine AL.cond ?_
        simp
        refine ⟨fun hl2 => ?_, fun hl2 => ?_⟩
        · repeat (first | refine AL.seq ?_ | refine AL.block ?_ | refine AL.skip ?_ | refine AL.blk ?_)
          refine AL.region follows_Tryz (Nat.le_refl _) (by kernel_rfl) ?_
          simp
          have hR : validM a b m = 20 := by
            have : ¬ m.edges.length = a.edges.length := by omega
            simp [validM, hva, hvb, this]
          repeat (first | refine AL.seq ?_ | refine AL.block ?_ | refine AL.skip ?_ | refine AL.blk ?_)
          refine AL.ret ?_
          try simp only [AU]
          refine ⟨by simp, Fin.data (by simp [resAs, resA]; rfl) hbox rfl htok (fun _ h => h) (Nat.le_refl _) ?_⟩
          simp [packA, hR]
        · repeat (first | refine AL.seq ?_ | refine AL.block ?_ | refine AL.skip ?_ | refine AL.blk ?_)
          refine AL.region follows_Tryz (Nat.le_refl _) (by kernel_rfl) ?_
          simp
          repeat (first | refine AL.seq ?_ | refine AL.block ?_ | refine AL.skip ?_ | refine AL.blk ?_)
          have hl2' : m.edges.length = a.edges.length := by omega
          have hRn : ∀ i, i < a.nodes.length → firstE (nodeE a b m) i = 0 → nodeE a b m i ≠ 0 → validM a b m = nodeE a b m i := fun i hi h0 hne => by
            have := firstE_stop h0 hne a.nodes.length hi
            simp [validM, hva, hvb, hl1, hl2', this, hne]
          refine AL.loopT (st51a a b m nb box tok nt) (fun i => i ≤ m.nodes.length ∧ firstE (nodeE a b m) i = 0) (fun i => m.nodes.length - i) 0 ⟨Nat.zero_le _, rfl⟩ (Weaks.mk (Nat.le_refl _) rfl (by simp [ToL, lk]) (by simp [BoxL, lk])) ?_
          rintro i S ⟨hi, hok⟩ hS
          simp only [st51a] at hS
          subst hS
          have hw : IntKind.i64.wrap (↑i + 1) = ((i + 1 : Nat) : Int) := by rw [wrap_in (by omega) (by omega)]; rfl
          repeat (first | refine AL.seq ?_ | refine AL.block ?_ | refine AL.skip ?_ | refine AL.blk ?_)
          refine AL.region follows_Tryz (Nat.le_refl _) (by kernel_rfl) ?_
          simp
          repeat (first | refine AL.seq ?_ | refine AL.block ?_ | refine AL.skip ?_ | refine AL.blk ?_)
          refine AL.cond ?_
          simp
          refine ⟨fun hlt => ?_, fun hge => ?_⟩
          · have hia : i < a.nodes.length := by omega
            have hgm : m.nodes.getD i 0 = m.nodes[i] := by simp [hlt]
            have hga : a.nodes.getD i 0 = a.nodes[i] := by simp [hia]
            repeat (first | refine AL.seq ?_ | refine AL.block ?_ | refine AL.skip ?_ | refine AL.blk ?_)
            refine AL.region follows_Tryz (Nat.le_refl _) (by kernel_rfl) ?_
            simp [hlt]
            by_cases hneg : m.nodes[i] < 0
            · repeat (first | refine AL.seq ?_ | refine AL.block ?_ | refine AL.skip ?_ | refine AL.blk ?_)
              refine AL.region follows_Tryz (Nat.le_refl _) (by kernel_rfl) ?_
              simp [hneg]
              repeat (first | refine AL.seq ?_ | refine AL.block ?_ | refine AL.skip ?_ | refine AL.blk ?_)
              refine AL.cond ?_
              simp
              repeat (first | refine AL.seq ?_ | refine AL.block ?_ | refine AL.skip ?_ | refine AL.blk ?_)
              refine AL.region follows_Tryz (Nat.le_refl _) (by kernel_rfl) ?_
              simp
              have hN : nodeE a b m i = 6 := by simp only [nodeE, hgm]; rw [if_pos (.inl hneg)]
              have hR := hRn i hia hok (by rw [hN]; decide)
              repeat (first | refine AL.seq ?_ | refine AL.block ?_ | refine AL.skip ?_ | refine AL.blk ?_)
              refine AL.ret ?_
              try simp only [AU]
              refine ⟨by simp, Fin.data (by simp [resAs, resA]; rfl) hbox rfl htok (fun _ h => h) (Nat.le_refl _) ?_⟩
              simp [packA, hR, hN]
            · repeat (first | refine AL.seq ?_ | refine AL.block ?_ | refine AL.skip ?_ | refine AL.blk ?_)
              refine AL.region follows_Tryz (Nat.le_refl _) (by kernel_rfl) ?_
              simp [hneg]
              repeat (first | refine AL.seq ?_ | refine AL.block ?_ | refine AL.skip ?_ | refine AL.blk ?_)
              refine AL.cond ?_
              simp
              refine ⟨fun hbig => ?_, fun hsm => ?_⟩
              · repeat (first | refine AL.seq ?_ | refine AL.block ?_ | refine AL.skip ?_ | refine AL.blk ?_)
                refine AL.region follows_Tryz (Nat.le_refl _) (by kernel_rfl) ?_
                simp
                have hN : nodeE a b m i = 6 := by simp only [nodeE, hgm]; rw [if_pos (.inr (by omega))]
                have hR := hRn i hia hok (by rw [hN]; decide)
                repeat (first | refine AL.seq ?_ | refine AL.block ?_ | refine AL.skip ?_ | refine AL.blk ?_)
                refine AL.ret ?_
                try simp only [AU]
                refine ⟨by simp, Fin.data (by simp [resAs, resA]; rfl) hbox rfl htok (fun _ h => h) (Nat.le_refl _) ?_⟩
                simp [packA, hR, hN]
              · have hkb : m.nodes[i].toNat < b.nodes.length := by omega
                have h0 : 0 ≤ m.nodes[i] := by omega
                have hgb : b.nodes.getD m.nodes[i].toNat 0 = b.nodes[m.nodes[i].toNat] := by simp [hkb]
                have hnb : ¬ (b.nodes.length : Int) ≤ m.nodes[i] := by omega
                repeat (first | refine AL.seq ?_ | refine AL.block ?_ | refine AL.skip ?_ | refine AL.blk ?_)
                refine AL.region follows_Tryz (Nat.le_refl _) (by kernel_rfl) ?_
                simp [hkb, h0, hsm, hia]
                repeat (first | refine AL.seq ?_ | refine AL.block ?_ | refine AL.skip ?_ | refine AL.blk ?_)
                refine AL.cond ?_
                simp
                refine ⟨fun hne => ?_, fun heq => ?_⟩
                · repeat (first | refine AL.seq ?_ | refine AL.block ?_ | refine AL.skip ?_ | refine AL.blk ?_)
                  refine AL.region follows_Tryz (Nat.le_refl _) (by kernel_rfl) ?_
                  simp
                  have hN : nodeE a b m i = 13 := by simp only [nodeE, hgm, hga, hgb]; rw [if_neg (by omega), if_neg hne]
                  have hR := hRn i hia hok (by rw [hN]; decide)
                  repeat (first | refine AL.seq ?_ | refine AL.block ?_ | refine AL.skip ?_ | refine AL.blk ?_)
                  refine AL.ret ?_
                  try simp only [AU]
                  refine ⟨by simp, Fin.data (by simp [resAs, resA]; rfl) hbox rfl htok (fun _ h => h) (Nat.le_refl _) ?_⟩
                  simp [packA, hR, hN]
                · repeat (first | refine AL.seq ?_ | refine AL.block ?_ | refine AL.skip ?_ | refine AL.blk ?_)
                  refine AL.region follows_Tryz (Nat.le_refl _) (by kernel_rfl) ?_
                  simp [hw]
                  repeat (first | refine AL.seq ?_ | refine AL.block ?_ | refine AL.skip ?_ | refine AL.blk ?_)
                  refine AL.nil ?_
                  refine ⟨i + 1, ⟨hlt, ?_⟩, by omega, Weaks.mk (Nat.le_refl _) rfl (by simp [ToL, lk]) (by simp [BoxL, lk])⟩
                  have hN : nodeE a b m i = 0 := by simp only [nodeE, hgm, hga, hgb]; rw [if_neg (by omega), if_pos heq]
                  simp only [firstE, hok, hN, ↓reduceIte]
          · repeat (first | refine AL.seq ?_ | refine AL.block ?_ | refine AL.skip ?_ | refine AL.blk ?_)
            refine AL.exit ?_
            simp only [AU, ↓reduceIte]
            have hin : i = a.nodes.length := by omega
            subst hin
            repeat (first | refine AL.seq ?_ | refine AL.block ?_ | refine AL.skip ?_ | refine AL.blk ?_)
            refine AL.region follows_Tryz (Nat.le_refl _) (by kernel_rfl) ?_
            simp
            repeat (first | refine AL.seq ?_ | refine AL.block ?_ | refine AL.skip ?_ | refine AL.blk ?_)
            have hRe : ∀ i, i < a.edges.length → firstE (edgeE a b m) i = 0 → edgeE a b m i ≠ 0 → validM a b m = edgeE a b m i := fun i hi h0 hne => by
              have := firstE_stop h0 hne a.edges.length hi
              simp [validM, hva, hvb, hl1, hl2', hok, this]
            refine AL.loopT (st51b a b m nb box tok nt) (fun i => i ≤ m.edges.length ∧ firstE (edgeE a b m) i = 0) (fun i => m.edges.length - i) 0 ⟨Nat.zero_le _, rfl⟩ (Weaks.mk (Nat.le_refl _) rfl (by simp [ToL, lk]) (by simp [BoxL, lk])) ?_
            rintro i S ⟨hi, hoke⟩ hS
            simp only [st51b] at hS
            subst hS
            have hw : IntKind.i64.wrap (↑i + 1) = ((i + 1 : Nat) : Int) := by rw [wrap_in (by omega) (by omega)]; rfl
            repeat (first | refine AL.seq ?_ | refine AL.block ?_ | refine AL.skip ?_ | refine AL.blk ?_)
            refine AL.region follows_Tryz (Nat.le_refl _) (by kernel_rfl) ?_
            simp
            repeat (first | refine AL.seq ?_ | refine AL.block ?_ | refine AL.skip ?_ | refine AL.blk ?_)
            refine AL.cond ?_
            simp
            refine ⟨fun hlt => ?_, fun hge => ?_⟩
            · have hia : i < a.edges.length := by omega
              have hgm : m.edges.getD i 0 = m.edges[i] := by simp [hlt]
              have hga : a.edges.getD i default = a.edges[i] := by simp [hia]
              obtain ⟨x1, x2, x3, x4⟩ := hxa _ (List.getElem_mem hia)
              rw [← hl1] at x2 x4
              have y1 : a.edges[i].fr.toNat < m.nodes.length := by omega
              have y2 : a.edges[i].to.toNat < m.nodes.length := by omega
              have hg1 : m.nodes.getD a.edges[i].fr.toNat 0 = m.nodes[a.edges[i].fr.toNat] := by simp [y1]
              have hg2 : m.nodes.getD a.edges[i].to.toNat 0 = m.nodes[a.edges[i].to.toNat] := by simp [y2]
              repeat (first | refine AL.seq ?_ | refine AL.block ?_ | refine AL.skip ?_ | refine AL.blk ?_)
              refine AL.region follows_Tryz (Nat.le_refl _) (by kernel_rfl) ?_
              simp [hlt]
              by_cases hneg : m.edges[i] < 0
              · repeat (first | refine AL.seq ?_ | refine AL.block ?_ | refine AL.skip ?_ | refine AL.blk ?_)
                refine AL.region follows_Tryz (Nat.le_refl _) (by kernel_rfl) ?_
                simp [hneg]
                repeat (first | refine AL.seq ?_ | refine AL.block ?_ | refine AL.skip ?_ | refine AL.blk ?_)
                refine AL.cond ?_
                simp
                repeat (first | refine AL.seq ?_ | refine AL.block ?_ | refine AL.skip ?_ | refine AL.blk ?_)
                refine AL.region follows_Tryz (Nat.le_refl _) (by kernel_rfl) ?_
                simp
                have hN : edgeE a b m i = 6 := by simp only [edgeE, hgm]; rw [if_pos (.inl hneg)]
                have hR := hRe i hia hoke (by rw [hN]; decide)
                repeat (first | refine AL.seq ?_ | refine AL.block ?_ | refine AL.skip ?_ | refine AL.blk ?_)
                refine AL.ret ?_
                try simp only [AU]
                refine ⟨by simp, Fin.data (by simp [resAs, resA]; rfl) hbox rfl htok (fun _ h => h) (Nat.le_refl _) ?_⟩
                simp [packA, hR, hN]
              · repeat (first | refine AL.seq ?_ | refine AL.block ?_ | refine AL.skip ?_ | refine AL.blk ?_)
                refine AL.region follows_Tryz (Nat.le_refl _) (by kernel_rfl) ?_
                simp [hneg]
                repeat (first | refine AL.seq ?_ | refine AL.block ?_ | refine AL.skip ?_ | refine AL.blk ?_)
                refine AL.cond ?_
                simp
                refine ⟨fun hbig => ?_, fun hsm => ?_⟩
                · repeat (first | refine AL.seq ?_ | refine AL.block ?_ | refine AL.skip ?_ | refine AL.blk ?_)
                  refine AL.region follows_Tryz (Nat.le_refl _) (by kernel_rfl) ?_
                  simp
                  have hN : edgeE a b m i = 6 := by simp only [edgeE, hgm]; rw [if_pos (.inr (by omega))]
                  have hR := hRe i hia hoke (by rw [hN]; decide)
                  repeat (first | refine AL.seq ?_ | refine AL.block ?_ | refine AL.skip ?_ | refine AL.blk ?_)
                  refine AL.ret ?_
                  try simp only [AU]
                  refine ⟨by simp, Fin.data (by simp [resAs, resA]; rfl) hbox rfl htok (fun _ h => h) (Nat.le_refl _) ?_⟩
                  simp [packA, hR, hN]
                · have hkb : m.edges[i].toNat < b.edges.length := by omega
                  have h0 : 0 ≤ m.edges[i] := by omega
                  have hgb : b.edges.getD m.edges[i].toNat default = b.edges[m.edges[i].toNat] := by simp [hkb]
                  have hnn : ¬ (m.edges[i] < 0 ∨ (b.edges.length : Int) ≤ m.edges[i]) := by omega
                  repeat (first | refine AL.seq ?_ | refine AL.block ?_ | refine AL.skip ?_ | refine AL.blk ?_)
                  refine AL.region2 follows_Tryz (Nat.le_refl _) (by kernel_rfl) (Side.of (by simp)) ?_
                  simp [hkb, h0, hsm, hia]
                  generalize hy : b.edges[m.edges[i].toNat] = y at *
                  repeat (first | refine AL.seq ?_ | refine AL.block ?_ | refine AL.skip ?_ | refine AL.blk ?_)
                  refine AL.region follows_Tryz (Nat.le_refl _) (by kernel_rfl) ?_
                  simp
                  repeat (first | refine AL.seq ?_ | refine AL.block ?_ | refine AL.skip ?_ | refine AL.blk ?_)
                  refine AL.cond ?_
                  simp
                  refine ⟨fun hty => ?_, fun hty => ?_⟩
                  · repeat (first | refine AL.seq ?_ | refine AL.block ?_ | refine AL.skip ?_ | refine AL.blk ?_)
                    refine AL.region follows_Tryz (Nat.le_refl _) (by kernel_rfl) ?_
                    simp
                    have hN : edgeE a b m i = 13 := by simp only [edgeE, hgm, hga, hgb]; rw [if_neg hnn, if_pos hty]
                    have hR := hRe i hia hoke (by rw [hN]; decide)
                    repeat (first | refine AL.seq ?_ | refine AL.block ?_ | refine AL.skip ?_ | refine AL.blk ?_)
                    refine AL.ret ?_
                    try simp only [AU]
                    refine ⟨by simp, Fin.data (by simp [resAs, resA]; rfl) hbox rfl htok (fun _ h => h) (Nat.le_refl _) ?_⟩
                    simp [packA, hR, hN]
                  · repeat (first | refine AL.seq ?_ | refine AL.block ?_ | refine AL.skip ?_ | refine AL.blk ?_)
                    refine AL.region follows_Tryz (Nat.le_refl _) (by kernel_rfl) ?_
                    simp [x1, x2, x3, x4, y1, y2]
                    by_cases hfr : m.nodes[a.edges[i].fr.toNat] = y.fr
                    · have hb1 : (m.nodes[a.edges[i].fr.toNat] != y.fr) = false := by simp [hfr]
                      simp only [hb1]
                      simp [x1, x2, x3, x4, y1, y2]
                      repeat (first | refine AL.seq ?_ | refine AL.block ?_ | refine AL.skip ?_ | refine AL.blk ?_)
                      refine AL.cond ?_
                      simp
                      refine ⟨fun hto => ?_, fun hto => ?_⟩
                      · repeat (first | refine AL.seq ?_ | refine AL.block ?_ | refine AL.skip ?_ | refine AL.blk ?_)
                        refine AL.region follows_Tryz (Nat.le_refl _) (by kernel_rfl) ?_
                        simp
                        have hN : edgeE a b m i = 11 := by simp only [edgeE, hgm, hga, hgb, hg1, hg2]; rw [if_neg hnn, if_neg (by simp [hty]), if_pos (.inr hto)]
                        have hR := hRe i hia hoke (by rw [hN]; decide)
                        repeat (first | refine AL.seq ?_ | refine AL.block ?_ | refine AL.skip ?_ | refine AL.blk ?_)
                        refine AL.ret ?_
                        try simp only [AU]
                        refine ⟨by simp, Fin.data (by simp [resAs, resA]; rfl) hbox rfl htok (fun _ h => h) (Nat.le_refl _) ?_⟩
                        simp [packA, hR, hN]
                      · repeat (first | refine AL.seq ?_ | refine AL.block ?_ | refine AL.skip ?_ | refine AL.blk ?_)
                        refine AL.region follows_Tryz (Nat.le_refl _) (by kernel_rfl) ?_
                        simp [hw]
                        repeat (first | refine AL.seq ?_ | refine AL.block ?_ | refine AL.skip ?_ | refine AL.blk ?_)
                        refine AL.nil ?_
                        refine ⟨i + 1, ⟨hlt, ?_⟩, by omega, Weaks.mk (Nat.le_refl _) rfl (by simp [ToL, lk]) (by simp [BoxL, lk])⟩
                        have hN : edgeE a b m i = 0 := by simp only [edgeE, hgm, hga, hgb, hg1, hg2]; rw [if_neg hnn, if_neg (by simp [hty]), if_neg (by simp [hfr, hto])]
                        simp only [firstE, hoke, hN, ↓reduceIte]
                    · have hb1 : (m.nodes[a.edges[i].fr.toNat] != y.fr) = true := by simp [hfr]
                      simp only [hb1]
                      simp
                      repeat (first | refine AL.seq ?_ | refine AL.block ?_ | refine AL.skip ?_ | refine AL.blk ?_)
                      refine AL.cond ?_
                      simp
                      repeat (first | refine AL.seq ?_ | refine AL.block ?_ | refine AL.skip ?_ | refine AL.blk ?_)
                      refine AL.region follows_Tryz (Nat.le_refl _) (by kernel_rfl) ?_
                      simp
                      have hN : edgeE a b m i = 11 := by simp only [edgeE, hgm, hga, hgb, hg1, hg2]; rw [if_neg hnn, if_neg (by simp [hty]), if_pos (.inl hfr)]
                      have hR := hRe i hia hoke (by rw [hN]; decide)
                      repeat (first | refine AL.seq ?_ | refine AL.block ?_ | refine AL.skip ?_ | refine AL.blk ?_)
                      refine AL.ret ?_
                      try simp only [AU]
                      refine ⟨by simp, Fin.data (by simp [resAs, resA]; rfl) hbox rfl htok (fun _ h => h) (Nat.le_refl _) ?_⟩
                      simp [packA, hR, hN]
            · repeat (first | refine AL.seq ?_ | refine AL.block ?_ | refine AL.skip ?_ | refine AL.blk ?_)
              refine AL.exit ?_
              simp only [AU, ↓reduceIte]
              have hin : i = a.edges.length := by omega
              subst hin
              repeat (first | refine AL.seq ?_ | refine AL.block ?_ | refine AL.skip ?_ | refine AL.blk ?_)
              refine AL.region follows_Tryz (Nat.le_refl _) (by kernel_rfl) ?_
              simp
              have hR : validM a b m = 0 := by simp [validM, hva, hvb, hl1, hl2', hok, hoke]
              repeat (first | refine AL.seq ?_ | refine AL.block ?_ | refine AL.skip ?_ | refine AL.blk ?_)
              refine AL.ret ?_
              try simp only [AU]
              refine ⟨by simp, Fin.data (by simp [resAs, resA]; rfl) hbox rfl htok (fun _ h => h) (Nat.le_refl _) ?_⟩
              simp [packA, hR]
      · have hb1 : ((m.nodes.length : Int) != (a.nodes.length : Int)) = true := by simp; omega
        simp only [hb1]
        simp
        repeat (first | refine AL.seq ?_ | refine AL.block ?_ | refine AL.skip ?_ | refine AL.blk ?_)
        refine AL.cond ?_
        simp
        repeat (first | refine AL.seq ?_ | refine AL.block ?_ | refine AL.skip ?_ | refine AL.blk ?_)
        refine AL.region follows_Tryz (Nat.le_refl _) (by kernel_rfl) ?_
        simp
        have hR : validM a b m = 20 := by simp [validM, hva, hvb, hl1]
        repeat (first | refine AL.seq ?_ | refine AL.block ?_ | refine AL.skip ?_ | refine AL.blk ?_)
        refine AL.ret ?_
        try simp only [AU]
        refine ⟨by simp, Fin.data (by simp [resAs, resA]; rfl) hbox rfl htok (fun _ h => h) (Nat.le_refl _) ?_⟩
        simp [packA, hR]
    · repeat (first | refine AL.seq ?_ | refine AL.block ?_ | refine AL.skip ?_ | refine AL.blk ?_)
      refine AL.region follows_Tryz (Nat.le_refl _) (by kernel_rfl) ?_
      simp
      repeat (first | refine AL.seq ?_ | refine AL.block ?_ | refine AL.skip ?_ | refine AL.blk ?_)
      refine AL.cond ?_
      simp [hvb]
      repeat (first | refine AL.seq ?_ | refine AL.block ?_ | refine AL.skip ?_ | refine AL.blk ?_)
      refine AL.region follows_Tryz (Nat.le_refl _) (by kernel_rfl) ?_
      simp
      repeat (first | refine AL.seq ?_ | refine AL.block ?_ | refine AL.skip ?_ | refine AL.blk ?_)
      refine AL.ret ?_
      try simp only [AU]
      refine ⟨by simp, Fin.data (by simp [resAs, resA]; rfl) hbox rfl htok (fun _ h => h) (Nat.le_refl _) ?_⟩
      simp [packA, validM, hva, hvb]
  · repeat (first | refine AL.seq ?_ | refine AL.block ?_ | refine AL.skip ?_ | refine AL.blk ?_)
    refine AL.region follows_Tryz (Nat.le_refl _) (by kernel_rfl) ?_
    simp
    repeat (first | refine AL.seq ?_ | refine AL.block ?_ | refine AL.skip ?_ | refine AL.blk ?_)
    refine AL.cond ?_
    simp [hva]
    repeat (first | refine AL.seq ?_ | refine AL.block ?_ | refine AL.skip ?_ | refine AL.blk ?_)
    refine AL.region follows_Tryz (Nat.le_refl _) (by kernel_rfl) ?_
    simp
    repeat (first | refine AL.seq ?_ | refine AL.block ?_ | refine AL.skip ?_ | refine AL.blk ?_)
    refine AL.ret ?_
    try simp only [AU]
    refine ⟨by simp, Fin.data (by simp [resAs, resA]; rfl) hbox rfl htok (fun _ h => h) (Nat.le_refl _) ?_⟩
    simp [packA, validM, hva]
end Go.AM
namespace Go.AM
open Go Go.Proofs
set_option linter.unusedSimpArgs false
set_option linter.unusedVariables false

def st53a (a b : Gr) (m : Mo) (nb : Nat) (box : Nat → Option (List (List AV))) (tok : Nat → Bool) (nt : Nat) (i : Nat) : AState :=
  ⟨tl [(3, .ptr (nb + 3) 0 0), (4, .ptr (nb + 4) 0 0), (5, .ptr (nb + 5) 0 0), (9, I i)],
    lb nb box [(3, [[.d (ints a.nodes), .d (AM.edges a.edges)]]), (4, [[.d (ints b.nodes), .d (AM.edges b.edges)]]), (5, [[.d (ints m.nodes), .d (ints m.edges)]])], tok, nt⟩

def st53b (a b : Gr) (m : Mo) (nb : Nat) (box : Nat → Option (List (List AV))) (tok : Nat → Bool) (nt : Nat) (i : Nat) : AState :=
  ⟨tl [(3, .ptr (nb + 3) 0 0), (4, .ptr (nb + 4) 0 0), (5, .ptr (nb + 5) 0 0), (10, I i)],
    lb nb box [(3, [[.d (ints a.nodes), .d (AM.edges a.edges)]]), (4, [[.d (ints b.nodes), .d (AM.edges b.edges)]]), (5, [[.d (ints m.nodes), .d (ints m.edges)]])], tok, nt⟩

theorem valid53_c (a b : Gr) (m : Mo) (ha : a.Fit) (hb : b.Fit) (tok : Nat → Bool) (nt : Nat) : DCall Tryz.prog 53 [a.av, b.av, m.av] tok nt (I (validM a b m)) tok nt := by
  intro box nb
  have han := ha.n
  have hae := ha.e
  have hbn := hb.n
  have hbe := hb.e
  refine ACalls.of_body Tryz.func53 rfl (by kernel_rfl) follows_Tryz (by kernel_rfl) (by simp [Tryz.ntmps53]) ?_
  intro hbox htok
  simp only at hbox htok
  apply AL.start
  repeat (first | refine AL.seq ?_ | refine AL.block ?_ | refine AL.skip ?_ | refine AL.blk ?_)
  refine AL.region follows_Tryz (Nat.le_refl _) (by kernel_rfl) ?_
  simp
  repeat (first | refine AL.seq ?_ | refine AL.block ?_ | refine AL.skip ?_ | refine AL.blk ?_)
  refine AL.region follows_Tryz (Nat.le_refl _) (by kernel_rfl) ?_
  simp
  refine Stop.of_d (valid05_c a ha _ _) ?_
  simp
  by_cases hva : validG a = 0
  · repeat (first | refine AL.seq ?_ | refine AL.block ?_ | refine AL.skip ?_ | refine AL.blk ?_)
    refine AL.region follows_Tryz (Nat.le_refl _) (by kernel_rfl) ?_
    simp [hva]
    repeat (first | refine AL.seq ?_ | refine AL.block ?_ | refine AL.skip ?_ | refine AL.blk ?_)
    refine AL.cond ?_
    simp
    repeat (first | refine AL.seq ?_ | refine AL.block ?_ | refine AL.skip ?_ | refine AL.blk ?_)
    refine AL.region follows_Tryz (Nat.le_refl _) (by kernel_rfl) ?_
    simp
    refine Stop.of_d (valid05_c b hb _ _) ?_
    simp
    by_cases hvb : validG b = 0
    · repeat (first | refine AL.seq ?_ | refine AL.block ?_ | refine AL.skip ?_ | refine AL.blk ?_)
      refine AL.region follows_Tryz (Nat.le_refl _) (by kernel_rfl) ?_
      simp [hvb]
      repeat (first | refine AL.seq ?_ | refine AL.block ?_ | refine AL.skip ?_ | refine AL.blk ?_)
      refine AL.cond ?_
      simp
      have hxa := validG_edges hva
      have hxb := validG_edges hvb
      repeat (first | refine AL.seq ?_ | refine AL.block ?_ | refine AL.skip ?_ | refine AL.blk ?_)
      refine AL.region follows_Tryz (Nat.le_refl _) (by kernel_rfl) ?_
      simp
      by_cases hl1 : m.nodes.length = a.nodes.length
      · simp [hl1]
        repeat (first | refine AL.seq ?_ | refine AL.block ?_ | refine AL.skip ?_ | refine AL.blk ?_)
        refine AL.cond ?_
        simp
        refine ⟨fun hl2 => ?_, fun hl2 => ?_⟩
        · repeat (first | refine AL.seq ?_ | refine AL.block ?_ | refine AL.skip ?_ | refine AL.blk ?_)
          refine AL.region follows_Tryz (Nat.le_refl _) (by kernel_rfl) ?_
          simp
          have hR : validM a b m = 20 := by
            have : ¬ m.edges.length = a.edges.length := by omega
            simp [validM, hva, hvb, this]
          repeat (first | refine AL.seq ?_ | refine AL.block ?_ | refine AL.skip ?_ | refine AL.blk ?_)
          refine AL.ret ?_
          try simp only [AU]
          refine ⟨by simp, Fin.data (by simp [resAs, resA]; rfl) hbox rfl htok (fun _ h => h) (Nat.le_refl _) ?_⟩
          simp [packA, hR]
        · repeat (first | refine AL.seq ?_ | refine AL.block ?_ | refine AL.skip ?_ | refine AL.blk ?_)
          refine AL.region follows_Tryz (Nat.le_refl _) (by kernel_rfl) ?_
          simp
          repeat (first | refine AL.seq ?_ | refine AL.block ?_ | refine AL.skip ?_ | refine AL.blk ?_)
          have hl2' : m.edges.length = a.edges.length := by omega
          have hRn : ∀ i, i < a.nodes.length → firstE (nodeE a b m) i = 0 → nodeE a b m i ≠ 0 → validM a b m = nodeE a b m i := fun i hi h0 hne => by
            have := firstE_stop h0 hne a.nodes.length hi
            simp [validM, hva, hvb, hl1, hl2', this, hne]
          refine AL.loopT (st53a a b m nb box tok nt) (fun i => i ≤ a.nodes.length ∧ firstE (nodeE a b m) i = 0) (fun i => a.nodes.length - i) 0 ⟨Nat.zero_le _, rfl⟩ (Weaks.mk (Nat.le_refl _) rfl (by simp [ToL, lk]) (by simp [BoxL, lk])) ?_
          rintro i S ⟨hi, hok⟩ hS
          simp only [st53a] at hS
          subst hS
          have hw : IntKind.i64.wrap (↑i + 1) = ((i + 1 : Nat) : Int) := by rw [wrap_in (by omega) (by omega)]; rfl
          repeat (first | refine AL.seq ?_ | refine AL.block ?_ | refine AL.skip ?_ | refine AL.blk ?_)
          refine AL.region follows_Tryz (Nat.le_refl _) (by kernel_rfl) ?_
          simp
          repeat (first | refine AL.seq ?_ | refine AL.block ?_ | refine AL.skip ?_ | refine AL.blk ?_)
          refine AL.cond ?_
          simp
          refine ⟨fun hlt => ?_, fun hge => ?_⟩
          · have hia : i < a.nodes.length := by omega
            have hlt : i < m.nodes.length := by omega
            have hgm : m.nodes.getD i 0 = m.nodes[i] := by simp [hlt]
            have hga : a.nodes.getD i 0 = a.nodes[i] := by simp [hia]
            repeat (first | refine AL.seq ?_ | refine AL.block ?_ | refine AL.skip ?_ | refine AL.blk ?_)
            refine AL.region follows_Tryz (Nat.le_refl _) (by kernel_rfl) ?_
            simp [hlt]
            by_cases hneg : m.nodes[i] < 0
            · simp [hneg, hlt]
              repeat (first | refine AL.seq ?_ | refine AL.block ?_ | refine AL.skip ?_ | refine AL.blk ?_)
              refine AL.cond ?_
              simp
              repeat (first | refine AL.seq ?_ | refine AL.block ?_ | refine AL.skip ?_ | refine AL.blk ?_)
              refine AL.region follows_Tryz (Nat.le_refl _) (by kernel_rfl) ?_
              simp
              have hN : nodeE a b m i = 6 := by simp only [nodeE, hgm]; rw [if_pos (.inl hneg)]
              have hR := hRn i hia hok (by rw [hN]; decide)
              repeat (first | refine AL.seq ?_ | refine AL.block ?_ | refine AL.skip ?_ | refine AL.blk ?_)
              refine AL.ret ?_
              try simp only [AU]
              refine ⟨by simp, Fin.data (by simp [resAs, resA]; rfl) hbox rfl htok (fun _ h => h) (Nat.le_refl _) ?_⟩
              simp [packA, hR, hN]
            · simp [hneg, hlt]
              repeat (first | refine AL.seq ?_ | refine AL.block ?_ | refine AL.skip ?_ | refine AL.blk ?_)
              refine AL.cond ?_
              simp
              refine ⟨fun hbig => ?_, fun hsm => ?_⟩
              · repeat (first | refine AL.seq ?_ | refine AL.block ?_ | refine AL.skip ?_ | refine AL.blk ?_)
                refine AL.region follows_Tryz (Nat.le_refl _) (by kernel_rfl) ?_
                simp
                have hN : nodeE a b m i = 6 := by simp only [nodeE, hgm]; rw [if_pos (.inr (by omega))]
                have hR := hRn i hia hok (by rw [hN]; decide)
                repeat (first | refine AL.seq ?_ | refine AL.block ?_ | refine AL.skip ?_ | refine AL.blk ?_)
                refine AL.ret ?_
                try simp only [AU]
                refine ⟨by simp, Fin.data (by simp [resAs, resA]; rfl) hbox rfl htok (fun _ h => h) (Nat.le_refl _) ?_⟩
                simp [packA, hR, hN]
              · have hkb : m.nodes[i].toNat < b.nodes.length := by omega
                have h0 : 0 ≤ m.nodes[i] := by omega
                have hgb : b.nodes.getD m.nodes[i].toNat 0 = b.nodes[m.nodes[i].toNat] := by simp [hkb]
                have hnb : ¬ (b.nodes.length : Int) ≤ m.nodes[i] := by omega
                repeat (first | refine AL.seq ?_ | refine AL.block ?_ | refine AL.skip ?_ | refine AL.blk ?_)
                refine AL.region follows_Tryz (Nat.le_refl _) (by kernel_rfl) ?_
                simp [hkb, h0, hsm, hia, hlt]
                repeat (first | refine AL.seq ?_ | refine AL.block ?_ | refine AL.skip ?_ | refine AL.blk ?_)
                refine AL.cond ?_
                simp
                refine ⟨fun hne => ?_, fun heq => ?_⟩
                · repeat (first | refine AL.seq ?_ | refine AL.block ?_ | refine AL.skip ?_ | refine AL.blk ?_)
                  refine AL.region follows_Tryz (Nat.le_refl _) (by kernel_rfl) ?_
                  simp
                  have hN : nodeE a b m i = 13 := by simp only [nodeE, hgm, hga, hgb]; rw [if_neg (by omega), if_neg hne]
                  have hR := hRn i hia hok (by rw [hN]; decide)
                  repeat (first | refine AL.seq ?_ | refine AL.block ?_ | refine AL.skip ?_ | refine AL.blk ?_)
                  refine AL.ret ?_
                  try simp only [AU]
                  refine ⟨by simp, Fin.data (by simp [resAs, resA]; rfl) hbox rfl htok (fun _ h => h) (Nat.le_refl _) ?_⟩
                  simp [packA, hR, hN]
                · repeat (first | refine AL.seq ?_ | refine AL.block ?_ | refine AL.skip ?_ | refine AL.blk ?_)
                  refine AL.region follows_Tryz (Nat.le_refl _) (by kernel_rfl) ?_
                  simp [hw]
                  repeat (first | refine AL.seq ?_ | refine AL.block ?_ | refine AL.skip ?_ | refine AL.blk ?_)
                  refine AL.nil ?_
                  refine ⟨i + 1, ⟨hia, ?_⟩, by omega, Weaks.mk (Nat.le_refl _) rfl (by simp [ToL, lk]) (by simp [BoxL, lk])⟩
                  have hN : nodeE a b m i = 0 := by simp only [nodeE, hgm, hga, hgb]; rw [if_neg (by omega), if_pos heq]
                  simp only [firstE, hok, hN, ↓reduceIte]
          · repeat (first | refine AL.seq ?_ | refine AL.block ?_ | refine AL.skip ?_ | refine AL.blk ?_)
            refine AL.exit ?_
            simp only [AU, ↓reduceIte]
            have hin : i = a.nodes.length := by omega
            subst hin
            repeat (first | refine AL.seq ?_ | refine AL.block ?_ | refine AL.skip ?_ | refine AL.blk ?_)
            refine AL.region follows_Tryz (Nat.le_refl _) (by kernel_rfl) ?_
            simp
            repeat (first | refine AL.seq ?_ | refine AL.block ?_ | refine AL.skip ?_ | refine AL.blk ?_)
            have hRe : ∀ i, i < a.edges.length → firstE (edgeE a b m) i = 0 → edgeE a b m i ≠ 0 → validM a b m = edgeE a b m i := fun i hi h0 hne => by
              have := firstE_stop h0 hne a.edges.length hi
              simp [validM, hva, hvb, hl1, hl2', hok, this]
            refine AL.loopT (st53b a b m nb box tok nt) (fun i => i ≤ a.edges.length ∧ firstE (edgeE a b m) i = 0) (fun i => a.edges.length - i) 0 ⟨Nat.zero_le _, rfl⟩ (Weaks.mk (Nat.le_refl _) rfl (by simp [ToL, lk]) (by simp [BoxL, lk])) ?_
            rintro i S ⟨hi, hoke⟩ hS
            simp only [st53b] at hS
            subst hS
            have hw : IntKind.i64.wrap (↑i + 1) = ((i + 1 : Nat) : Int) := by rw [wrap_in (by omega) (by omega)]; rfl
            repeat (first | refine AL.seq ?_ | refine AL.block ?_ | refine AL.skip ?_ | refine AL.blk ?_)
            refine AL.region follows_Tryz (Nat.le_refl _) (by kernel_rfl) ?_
            simp
            repeat (first | refine AL.seq ?_ | refine AL.block ?_ | refine AL.skip ?_ | refine AL.blk ?_)
            refine AL.cond ?_
            simp
            refine ⟨fun hlt => ?_, fun hge => ?_⟩
            · have hia : i < a.edges.length := by omega
              have hlt : i < m.edges.length := by omega
              have hgm : m.edges.getD i 0 = m.edges[i] := by simp [hlt]
              have hga : a.edges.getD i default = a.edges[i] := by simp [hia]
              obtain ⟨x1, x2, x3, x4⟩ := hxa _ (List.getElem_mem hia)
              rw [← hl1] at x2 x4
              have y1 : a.edges[i].fr.toNat < m.nodes.length := by omega
              have y2 : a.edges[i].to.toNat < m.nodes.length := by omega
              have hg1 : m.nodes.getD a.edges[i].fr.toNat 0 = m.nodes[a.edges[i].fr.toNat] := by simp [y1]
              have hg2 : m.nodes.getD a.edges[i].to.toNat 0 = m.nodes[a.edges[i].to.toNat] := by simp [y2]
              repeat (first | refine AL.seq ?_ | refine AL.block ?_ | refine AL.skip ?_ | refine AL.blk ?_)
              refine AL.region follows_Tryz (Nat.le_refl _) (by kernel_rfl) ?_
              simp [hlt]
              by_cases hneg : m.edges[i] < 0
              · simp [hneg, hlt]
                repeat (first | refine AL.seq ?_ | refine AL.block ?_ | refine AL.skip ?_ | refine AL.blk ?_)
                refine AL.cond ?_
                simp
                repeat (first | refine AL.seq ?_ | refine AL.block ?_ | refine AL.skip ?_ | refine AL.blk ?_)
                refine AL.region follows_Tryz (Nat.le_refl _) (by kernel_rfl) ?_
                simp
                have hN : edgeE a b m i = 6 := by simp only [edgeE, hgm]; rw [if_pos (.inl hneg)]
                have hR := hRe i hia hoke (by rw [hN]; decide)
                repeat (first | refine AL.seq ?_ | refine AL.block ?_ | refine AL.skip ?_ | refine AL.blk ?_)
                refine AL.ret ?_
                try simp only [AU]
                refine ⟨by simp, Fin.data (by simp [resAs, resA]; rfl) hbox rfl htok (fun _ h => h) (Nat.le_refl _) ?_⟩
                simp [packA, hR, hN]
              · simp [hneg, hlt]
                repeat (first | refine AL.seq ?_ | refine AL.block ?_ | refine AL.skip ?_ | refine AL.blk ?_)
                refine AL.cond ?_
                simp
                refine ⟨fun hbig => ?_, fun hsm => ?_⟩
                · repeat (first | refine AL.seq ?_ | refine AL.block ?_ | refine AL.skip ?_ | refine AL.blk ?_)
                  refine AL.region follows_Tryz (Nat.le_refl _) (by kernel_rfl) ?_
                  simp
                  have hN : edgeE a b m i = 6 := by simp only [edgeE, hgm]; rw [if_pos (.inr (by omega))]
                  have hR := hRe i hia hoke (by rw [hN]; decide)
                  repeat (first | refine AL.seq ?_ | refine AL.block ?_ | refine AL.skip ?_ | refine AL.blk ?_)
                  refine AL.ret ?_
                  try simp only [AU]
                  refine ⟨by simp, Fin.data (by simp [resAs, resA]; rfl) hbox rfl htok (fun _ h => h) (Nat.le_refl _) ?_⟩
                  simp [packA, hR, hN]
                · have hkb : m.edges[i].toNat < b.edges.length := by omega
                  have h0 : 0 ≤ m.edges[i] := by omega
                  have hgb : b.edges.getD m.edges[i].toNat default = b.edges[m.edges[i].toNat] := by simp [hkb]
                  have hnn : ¬ (m.edges[i] < 0 ∨ (b.edges.length : Int) ≤ m.edges[i]) := by omega
                  repeat (first | refine AL.seq ?_ | refine AL.block ?_ | refine AL.skip ?_ | refine AL.blk ?_)
                  refine AL.region2 follows_Tryz (Nat.le_refl _) (by kernel_rfl) (Side.of (by simp)) ?_
                  simp [hkb, h0, hsm, hia, hlt]
                  generalize hy : b.edges[m.edges[i].toNat] = y at *
                  repeat (first | refine AL.seq ?_ | refine AL.block ?_ | refine AL.skip ?_ | refine AL.blk ?_)
                  refine AL.region follows_Tryz (Nat.le_refl _) (by kernel_rfl) ?_
                  simp
                  repeat (first | refine AL.seq ?_ | refine AL.block ?_ | refine AL.skip ?_ | refine AL.blk ?_)
                  refine AL.cond ?_
                  simp
                  refine ⟨fun hty => ?_, fun hty => ?_⟩
                  · repeat (first | refine AL.seq ?_ | refine AL.block ?_ | refine AL.skip ?_ | refine AL.blk ?_)
                    refine AL.region follows_Tryz (Nat.le_refl _) (by kernel_rfl) ?_
                    simp
                    have hN : edgeE a b m i = 13 := by simp only [edgeE, hgm, hga, hgb]; rw [if_neg hnn, if_pos hty]
                    have hR := hRe i hia hoke (by rw [hN]; decide)
                    repeat (first | refine AL.seq ?_ | refine AL.block ?_ | refine AL.skip ?_ | refine AL.blk ?_)
                    refine AL.ret ?_
                    try simp only [AU]
                    refine ⟨by simp, Fin.data (by simp [resAs, resA]; rfl) hbox rfl htok (fun _ h => h) (Nat.le_refl _) ?_⟩
                    simp [packA, hR, hN]
                  · repeat (first | refine AL.seq ?_ | refine AL.block ?_ | refine AL.skip ?_ | refine AL.blk ?_)
                    refine AL.region follows_Tryz (Nat.le_refl _) (by kernel_rfl) ?_
                    simp [x1, x2, x3, x4, y1, y2]
                    by_cases hfr : m.nodes[a.edges[i].fr.toNat] = y.fr
                    · have hb1 : (m.nodes[a.edges[i].fr.toNat] != y.fr) = false := by simp [hfr]
                      simp only [hb1]
                      simp [x1, x2, x3, x4, y1, y2]
                      repeat (first | refine AL.seq ?_ | refine AL.block ?_ | refine AL.skip ?_ | refine AL.blk ?_)
                      refine AL.cond ?_
                      simp
                      refine ⟨fun hto => ?_, fun hto => ?_⟩
                      · repeat (first | refine AL.seq ?_ | refine AL.block ?_ | refine AL.skip ?_ | refine AL.blk ?_)
                        refine AL.region follows_Tryz (Nat.le_refl _) (by kernel_rfl) ?_
                        simp
                        have hN : edgeE a b m i = 11 := by simp only [edgeE, hgm, hga, hgb, hg1, hg2]; rw [if_neg hnn, if_neg (by simp [hty]), if_pos (.inr hto)]
                        have hR := hRe i hia hoke (by rw [hN]; decide)
                        repeat (first | refine AL.seq ?_ | refine AL.block ?_ | refine AL.skip ?_ | refine AL.blk ?_)
                        refine AL.ret ?_
                        try simp only [AU]
                        refine ⟨by simp, Fin.data (by simp [resAs, resA]; rfl) hbox rfl htok (fun _ h => h) (Nat.le_refl _) ?_⟩
                        simp [packA, hR, hN]
                      · repeat (first | refine AL.seq ?_ | refine AL.block ?_ | refine AL.skip ?_ | refine AL.blk ?_)
                        refine AL.region follows_Tryz (Nat.le_refl _) (by kernel_rfl) ?_
                        simp [hw]
                        repeat (first | refine AL.seq ?_ | refine AL.block ?_ | refine AL.skip ?_ | refine AL.blk ?_)
                        refine AL.nil ?_
                        refine ⟨i + 1, ⟨hia, ?_⟩, by omega, Weaks.mk (Nat.le_refl _) rfl (by simp [ToL, lk]) (by simp [BoxL, lk])⟩
                        have hN : edgeE a b m i = 0 := by simp only [edgeE, hgm, hga, hgb, hg1, hg2]; rw [if_neg hnn, if_neg (by simp [hty]), if_neg (by simp [hfr, hto])]
                        simp only [firstE, hoke, hN, ↓reduceIte]
                    · have hb1 : (m.nodes[a.edges[i].fr.toNat] != y.fr) = true := by simp [hfr]
                      simp only [hb1]
                      simp
                      repeat (first | refine AL.seq ?_ | refine AL.block ?_ | refine AL.skip ?_ | refine AL.blk ?_)
                      refine AL.cond ?_
                      simp
                      repeat (first | refine AL.seq ?_ | refine AL.block ?_ | refine AL.skip ?_ | refine AL.blk ?_)
                      refine AL.region follows_Tryz (Nat.le_refl _) (by kernel_rfl) ?_
                      simp
                      have hN : edgeE a b m i = 11 := by simp only [edgeE, hgm, hga, hgb, hg1, hg2]; rw [if_neg hnn, if_neg (by simp [hty]), if_pos (.inl hfr)]
                      have hR := hRe i hia hoke (by rw [hN]; decide)
                      repeat (first | refine AL.seq ?_ | refine AL.block ?_ | refine AL.skip ?_ | refine AL.blk ?_)
                      refine AL.ret ?_
                      try simp only [AU]
                      refine ⟨by simp, Fin.data (by simp [resAs, resA]; rfl) hbox rfl htok (fun _ h => h) (Nat.le_refl _) ?_⟩
                      simp [packA, hR, hN]
            · repeat (first | refine AL.seq ?_ | refine AL.block ?_ | refine AL.skip ?_ | refine AL.blk ?_)
              refine AL.exit ?_
              simp only [AU, ↓reduceIte]
              have hin : i = a.edges.length := by omega
              subst hin
              repeat (first | refine AL.seq ?_ | refine AL.block ?_ | refine AL.skip ?_ | refine AL.blk ?_)
              refine AL.region follows_Tryz (Nat.le_refl _) (by kernel_rfl) ?_
              simp
              have hR : validM a b m = 0 := by simp [validM, hva, hvb, hl1, hl2', hok, hoke]
              repeat (first | refine AL.seq ?_ | refine AL.block ?_ | refine AL.skip ?_ | refine AL.blk ?_)
              refine AL.ret ?_
              try simp only [AU]
              refine ⟨by simp, Fin.data (by simp [resAs, resA]; rfl) hbox rfl htok (fun _ h => h) (Nat.le_refl _) ?_⟩
              simp [packA, hR]
      · have hb1 : ((m.nodes.length : Int) != (a.nodes.length : Int)) = true := by simp; omega
        simp only [hb1]
        simp
        repeat (first | refine AL.seq ?_ | refine AL.block ?_ | refine AL.skip ?_ | refine AL.blk ?_)
        refine AL.cond ?_
        simp
        repeat (first | refine AL.seq ?_ | refine AL.block ?_ | refine AL.skip ?_ | refine AL.blk ?_)
        refine AL.region follows_Tryz (Nat.le_refl _) (by kernel_rfl) ?_
        simp
        have hR : validM a b m = 20 := by simp [validM, hva, hvb, hl1]
        repeat (first | refine AL.seq ?_ | refine AL.block ?_ | refine AL.skip ?_ | refine AL.blk ?_)
        refine AL.ret ?_
        try simp only [AU]
        refine ⟨by simp, Fin.data (by simp [resAs, resA]; rfl) hbox rfl htok (fun _ h => h) (Nat.le_refl _) ?_⟩
        simp [packA, hR]
    · repeat (first | refine AL.seq ?_ | refine AL.block ?_ | refine AL.skip ?_ | refine AL.blk ?_)
      refine AL.region follows_Tryz (Nat.le_refl _) (by kernel_rfl) ?_
      simp
      repeat (first | refine AL.seq ?_ | refine AL.block ?_ | refine AL.skip ?_ | refine AL.blk ?_)
      refine AL.cond ?_
      simp [hvb]
      repeat (first | refine AL.seq ?_ | refine AL.block ?_ | refine AL.skip ?_ | refine AL.blk ?_)
      refine AL.region follows_Tryz (Nat.le_refl _) (by kernel_rfl) ?_
      simp
      repeat (first | refine AL.seq ?_ | refine AL.block ?_ | refine AL.skip ?_ | refine AL.blk ?_)
      refine AL.ret ?_
      try simp only [AU]
      refine ⟨by simp, Fin.data (by simp [resAs, resA]; rfl) hbox rfl htok (fun _ h => h) (Nat.le_refl _) ?_⟩
      simp [packA, validM, hva, hvb]
  · repeat (first | refine AL.seq ?_ | refine AL.block ?_ | refine AL.skip ?_ | refine AL.blk ?_)
    refine AL.region follows_Tryz (Nat.le_refl _) (by kernel_rfl) ?_
    simp
    repeat (first | refine AL.seq ?_ | refine AL.block ?_ | refine AL.skip ?_ | refine AL.blk ?_)
    refine AL.cond ?_
    simp [hva]
    repeat (first | refine AL.seq ?_ | refine AL.block ?_ | refine AL.skip ?_ | refine AL.blk ?_)
    refine AL.region follows_Tryz (Nat.le_refl _) (by kernel_rfl) ?_
    simp
    repeat (first | refine AL.seq ?_ | refine AL.block ?_ | refine AL.skip ?_ | refine AL.blk ?_)
    refine AL.ret ?_
    try simp only [AU]
    refine ⟨by simp, Fin.data (by simp [resAs, resA]; rfl) hbox rfl htok (fun _ h => h) (Nat.le_refl _) ?_⟩
    simp [packA, validM, hva]
end Go.AM
namespace Go.AM
open Go Go.Proofs
set_option linter.unusedSimpArgs false
set_option linter.unusedVariables false

/-! ### covered, covers, Few, Jointly -/
def covK (l k : List Int) (i : Nat) : Bool := (List.range i).all fun j => decide ((j : Int) ∈ l) || decide ((j : Int) ∈ k)
def jointly (a b x : Gr) (h k : Mo) : Bool := decide (validM a x h = 0) && (decide (validM b x k = 0) && (covK h.nodes k.nodes x.nodes.length && covK h.edges k.edges x.edges.length))

end Go.AM
/-
  The plain law of the standard overlaps: what is listed are the partial matchings, each once; turning one around matches the other way. No program in sight.
-/
namespace Go.AM
open Go
set_option linter.unusedSimpArgs false
set_option linter.unusedVariables false

/-! ### Partial matchings, listed -/
def choicesM (ok : Nat → Nat → Bool) (na : Nat) (l : List Int) : List Int := -1 :: ((List.range na).filter fun k => ok l.length k && !decide ((k : Int) ∈ l)).map fun (k : Nat) => (k : Int)
def dM (ok : Nat → Nat → Bool) (na : Nat) : Nat → List Int → List (List Int)
  | 0, l => [l]
  | n + 1, l => (choicesM ok na l).flatMap fun k => dM ok na n (l ++ [k])

def okAt (ok : Nat → Nat → Bool) (na : Nat) (x : List Int) (i : Nat) : Prop := x.getD i 0 = -1 ∨ ∃ k : Nat, x.getD i 0 = k ∧ k < na ∧ ok i k = true ∧ (k : Int) ∉ x.take i

theorem dM_mem (ok : Nat → Nat → Bool) (na : Nat) : ∀ (n : Nat) (l x : List Int), x ∈ dM ok na n l ↔ (x.take l.length = l ∧ x.length = l.length + n ∧ ∀ i, l.length ≤ i → i < x.length → okAt ok na x i)
  | 0, l, x => by
    simp only [dM, List.mem_singleton, Nat.add_zero]
    constructor
    · rintro rfl
      exact ⟨by simp, rfl, fun i h1 h2 => by omega⟩
    · rintro ⟨h1, h2, _⟩
      rw [← h1, List.take_of_length_le (by omega)]
  | n + 1, l, x => by
    simp only [dM, List.mem_flatMap]
    constructor
    · rintro ⟨k, hk, hx⟩
      rw [dM_mem ok na n (l ++ [k]) x] at hx
      obtain ⟨h1, h2, h3⟩ := hx
      simp only [List.length_append, List.length_cons, List.length_nil] at h1 h2 h3
      have hlt : l.length < x.length := by omega
      have h4 : x.take l.length = l := by
        have := congrArg (List.take l.length) h1
        rw [List.take_take, Nat.min_eq_left (by omega)] at this
        simpa using this
      have h5 : x.getD l.length 0 = k := by
        have := congrArg (fun y => y[l.length]?) h1
        simp only [List.getElem?_take] at this
        rw [if_pos (by omega)] at this
        rw [List.getD_eq_getElem?_getD, this]
        simp
      refine ⟨h4, by omega, fun i hi1 hi2 => ?_⟩
      by_cases e : i = l.length
      · subst e
        unfold okAt
        rw [h5, h4]
        simp only [choicesM, List.mem_cons, List.mem_map, List.mem_filter, List.mem_range, Bool.and_eq_true, Bool.not_eq_true', decide_eq_false_iff_not] at hk
        rcases hk with rfl | ⟨q, ⟨hq1, hq2, hq3⟩, rfl⟩
        · exact .inl rfl
        · exact .inr ⟨q, rfl, hq1, hq2, hq3⟩
      · exact h3 i (by omega) hi2
    · rintro ⟨h1, h2, h3⟩
      have hlt : l.length < x.length := by omega
      refine ⟨x.getD l.length 0, ?_, ?_⟩
      · have := h3 l.length (Nat.le_refl _) hlt
        unfold okAt at this
        rw [h1] at this
        simp only [choicesM, List.mem_cons, List.mem_map, List.mem_filter, List.mem_range, Bool.and_eq_true, Bool.not_eq_true', decide_eq_false_iff_not]
        rcases this with h | ⟨k, hk1, hk2, hk3, hk4⟩
        · exact .inl h
        · exact .inr ⟨k, ⟨hk2, hk3, hk4⟩, hk1.symm⟩
      · rw [dM_mem ok na n _ x]
        refine ⟨?_, by simp; omega, fun i hi1 hi2 => h3 i (by simp at hi1; omega) hi2⟩
        simp only [List.length_append, List.length_cons, List.length_nil, Nat.zero_add]
        rw [List.take_succ_eq_append_getElem hlt, h1]
        simp [hlt]

/-- A partial matching. -/
def isM (ok : Nat → Nat → Bool) (na nb : Nat) (x : List Int) : Prop := x.length = nb ∧ ∀ i, i < nb → okAt ok na x i
theorem dM_isM (ok : Nat → Nat → Bool) (na nb : Nat) (x : List Int) : x ∈ dM ok na nb [] ↔ isM ok na nb x := by
  rw [dM_mem]
  simp only [List.length_nil, Nat.zero_add, Nat.zero_le, true_implies, List.take_zero, true_and, isM]
  constructor
  · rintro ⟨h1, h2⟩; exact ⟨h1, fun i hi => h2 i (by omega)⟩
  · rintro ⟨h1, h2⟩; exact ⟨h1, fun i hi => h2 i (by omega)⟩

/-! ### Turned around -/
theorem isM_inj {ok : Nat → Nat → Bool} {na nb : Nat} {x : List Int} (h : isM ok na nb x) {i j k : Nat} (hi : i < nb) (hj : j < nb) (h1 : x.getD i 0 = (k : Int)) (h2 : x.getD j 0 = (k : Int)) : i = j := by
  have key : ∀ i j : Nat, i < j → j < nb → x.getD i 0 = (k : Int) → x.getD j 0 = (k : Int) → False := by
    intro i j hij hj h1 h2
    rcases h.2 j hj with e | ⟨q, e, _, _, hq⟩
    · rw [e] at h2; omega
    · have : (q : Int) = k := e.symm.trans h2
      rw [this] at hq
      apply hq
      have hlen := h.1
      rw [List.mem_take_iff_getElem]
      refine ⟨i, by omega, ?_⟩
      have : x.getD i 0 = x[i]'(by omega) := by rw [List.getD_eq_getElem?_getD, List.getElem?_eq_getElem (by omega)]; rfl
      rw [← this]; exact h1
  rcases Nat.lt_trichotomy i j with h' | h' | h'
  · exact (key i j h' hj h1 h2).elim
  · exact h'
  · exact (key j i h' hi h2 h1).elim

/-! ### Counting -/
def okN (a b : Gr) (i k : Nat) : Bool := decide (a.nodes.getD k 0 = b.nodes.getD i 0)
def okE (a b : Gr) (x : List Int) (i k : Nat) : Bool := decide (a.edges.getD k default = ⟨(b.edges.getD i default).ty, x.getD (b.edges.getD i default).fr.toNat 0, x.getD (b.edges.getD i default).to.toNat 0⟩)

def pairsM (a b : Gr) : List (List Int × List Int) := (dM (okN a b) a.nodes.length b.nodes.length []).flatMap fun x => (dM (okE a b x) a.edges.length b.edges.length []).map fun es => (x, es)

def isPair (a b : Gr) (p : List Int × List Int) : Prop := isM (okN a b) a.nodes.length b.nodes.length p.1 ∧ isM (okE a b p.1) a.edges.length b.edges.length p.2

theorem pairsM_mem (a b : Gr) (p : List Int × List Int) : p ∈ pairsM a b ↔ isPair a b p := by
  simp only [pairsM, List.mem_flatMap, List.mem_map, dM_isM, isPair]
  constructor
  · rintro ⟨x, hx, es, hes, rfl⟩; exact ⟨hx, hes⟩
  · rintro ⟨h1, h2⟩; exact ⟨p.1, h1, p.2, h2, rfl⟩

def EOk (g : Gr) : Prop := ∀ e ∈ g.edges, 0 ≤ e.fr ∧ e.fr < g.nodes.length ∧ 0 ≤ e.to ∧ e.to < g.nodes.length

/-! ### What the program lists -/
theorem foldl_lim' {α : Type} (c : Nat → Bool) (f : Nat → List α → List α) (g : Nat → List α) (ks : List Nat) (out : List α) (h : ∀ k ∈ ks, ∀ out, f k out = lim out (g k)) :
    ks.foldl (fun out k => if c k = true then f k out else out) out = lim out ((ks.filter c).flatMap g) := foldl_lim c f g ks out h

theorem ovE_lim (a b : Gr) (nodes : List Int) : ∀ (n : Nat) (es : List Int) (out : List Ov), ovE a b nodes n es out = lim out ((dM (okE a b nodes) a.edges.length n es).map (glue a b nodes))
  | 0, es, out => by
    unfold ovE
    split
    · rename_i h; rw [lim_full _ _ h]
    · rename_i h; simp only [dM, List.map_cons, List.map_nil]; rw [lim_one _ _ h]
  | n + 1, es, out => by
    unfold ovE
    split
    · rename_i h; rw [lim_full _ _ h]
    · have h1 : (fun (out : List Ov) (k : Nat) => if a.edges.getD k default = wantE b nodes es ∧ (k : Int) ∉ es then ovE a b nodes n (es ++ [(k : Int)]) out else out) =
          fun out k => if (okE a b nodes es.length k && !decide ((k : Int) ∈ es)) = true then ovE a b nodes n (es ++ [(k : Int)]) out else out := by
        funext out k
        have ic : ∀ {p q : Prop} [Decidable p] [Decidable q] {x y : List Ov}, (p ↔ q) → (if p then x else y) = if q then x else y := by
          intro p q _ _ x y h
          by_cases hp : p
          · rw [if_pos hp, if_pos (h.1 hp)]
          · rw [if_neg hp, if_neg fun hq => hp (h.2 hq)]
        refine ic ?_
        simp only [okE, wantE, Bool.and_eq_true, decide_eq_true_eq, Bool.not_eq_true', decide_eq_false_iff_not]
      rw [h1, foldl_lim' _ (fun (k : Nat) out => ovE a b nodes n (es ++ [(k : Int)]) out) (fun (k : Nat) => (dM (okE a b nodes) a.edges.length n (es ++ [(k : Int)])).map (glue a b nodes)) _ _ (fun k _ out => ovE_lim a b nodes n _ out), ovE_lim a b nodes n, lim_append]
      congr 1
      simp only [dM, choicesM, List.flatMap_cons, List.map_append, List.map_flatMap, List.flatMap_map]

theorem ovN_lim (a b : Gr) : ∀ (n : Nat) (l : List Int) (out : List Ov), ovN a b n l out = lim out ((dM (okN a b) a.nodes.length n l).flatMap fun x => (dM (okE a b x) a.edges.length b.edges.length []).map (glue a b x))
  | 0, l, out => by
    unfold ovN
    split
    · rename_i h; rw [lim_full _ _ h]
    · simp only [dM, List.flatMap_cons, List.flatMap_nil, List.append_nil]; rw [ovE_lim]
  | n + 1, l, out => by
    unfold ovN
    split
    · rename_i h; rw [lim_full _ _ h]
    · have h1 : (ovStepN a b (ovN a b n) l) = fun out k => if (okN a b l.length k && !decide ((k : Int) ∈ l)) = true then ovN a b n (l ++ [(k : Int)]) out else out := by
        funext out k
        unfold ovStepN
        have ic : ∀ {p q : Prop} [Decidable p] [Decidable q] {x y : List Ov}, (p ↔ q) → (if p then x else y) = if q then x else y := by
          intro p q _ _ x y h
          by_cases hp : p
          · rw [if_pos hp, if_pos (h.1 hp)]
          · rw [if_neg hp, if_neg fun hq => hp (h.2 hq)]
        refine ic ?_
        simp only [okN, Bool.and_eq_true, decide_eq_true_eq, Bool.not_eq_true', decide_eq_false_iff_not]
      rw [h1, foldl_lim' _ (fun (k : Nat) out => ovN a b n (l ++ [(k : Int)]) out) (fun (k : Nat) => (dM (okN a b) a.nodes.length n (l ++ [(k : Int)])).flatMap fun x => (dM (okE a b x) a.edges.length b.edges.length []).map (glue a b x)) _ _ (fun k _ out => ovN_lim a b n _ out), ovN_lim a b n, lim_append]
      congr 1
      simp only [dM, choicesM, List.flatMap_cons, List.flatMap_append, List.flatMap_assoc, List.flatMap_map]

def listO (a b : Gr) : List Ov := (pairsM a b).map fun p => glue a b p.1 p.2

theorem ovN_list (a b : Gr) : ovN a b b.nodes.length [] [] = (listO a b).take 2001 := by
  rw [ovN_lim]
  have : ((dM (okN a b) a.nodes.length b.nodes.length []).flatMap fun x => (dM (okE a b x) a.edges.length b.edges.length []).map (glue a b x)) = listO a b := by
    unfold listO pairsM
    rw [List.map_flatMap]
    congr 1
    funext x
    rw [List.map_map]
    rfl
  rw [this]
  simp [lim]

theorem overlapsR_list (a b : Gr) (ha : validG a = 0) (hb : validG b = 0) (hs : ¬ (40 < a.nodes.length + b.nodes.length ∨ 80 < a.edges.length + b.edges.length)) : overlapsR a b = if 2000 < (pairsM a b).length then ([], 3) else (listO a b, 0) := by
  have hl : (listO a b).length = (pairsM a b).length := by simp [listO]
  unfold overlapsR
  simp only [ha, hb, hs, ovN_list, ne_eq, not_true_eq_false, ↓reduceIte]
  by_cases hb : 2000 < (pairsM a b).length
  · have : 2000 < ((listO a b).take 2001).length := by simp; omega
    rw [if_pos this, if_pos hb]
  · have : (listO a b).take 2001 = listO a b := List.take_of_length_le (by omega)
    rw [this, if_neg (by omega), if_neg hb]
end Go.AM
namespace Go.AM
open Go Go.Proofs
set_option linter.unusedSimpArgs false
set_option linter.unusedVariables false

/-! ### Distinct, Injective; small, Made -/
structure Dr where
  nodes : List Int
  edges : List (Int × Int × Int)
abbrev u8 (n : Int) : D := .raw (.int .u8 n)
/-- The first i elements of a list differ. -/
def distK (l : List Int) (i : Nat) : Bool := (List.range i).all fun j => (List.range j).all fun k => decide (l.getD j 0 ≠ l.getD k 0)
def distJ (l : List Int) (i k : Nat) : Bool := (List.range k).all fun k => decide (l.getD i 0 ≠ l.getD k 0)
theorem distK_succ (l : List Int) (i : Nat) : distK l (i + 1) = (distK l i && distJ l i i) := by simp [distK, distJ, List.range_succ]
theorem distJ_succ (l : List Int) (i k : Nat) : distJ l i (k + 1) = (distJ l i k && decide (l.getD i 0 ≠ l.getD k 0)) := by simp only [distJ, List.range_succ, List.all_append, List.all_cons, List.all_nil, Bool.and_true]
theorem distK_stop {l : List Int} {n i k : Nat} (hi : i < n) (hk : k < i) (h : l.getD i 0 = l.getD k 0) : distK l n = false := by
  rw [Bool.eq_false_iff]
  intro ha
  simp only [distK, List.all_eq_true, List.mem_range, decide_eq_true_eq] at ha
  exact ha i hi k hk h

def st55a (l : List Int) (nb : Nat) (box : Nat → Option (List (List AV))) (tok : Nat → Bool) (nt : Nat) (i : Nat) : AState := ⟨tl [(0, .d (ints l)), (3, I i)], lb nb box [], tok, nt⟩
def st55b (l : List Int) (i : Nat) (nb : Nat) (box : Nat → Option (List (List AV))) (tok : Nat → Bool) (nt : Nat) (k : Nat) : AState := ⟨tl [(0, .d (ints l)), (3, I i), (4, I k)], lb nb box [], tok, nt⟩

theorem distinct55_c (l : List Int) (hl : l.length ≤ 1000000) (tok : Nat → Bool) (nt : Nat) : DCall Tryz.prog 74 [.d (ints l)] tok nt (B (distK l l.length)) tok nt := by
  intro box nb
  refine ACalls.of_body Tryz.func74 rfl (by kernel_rfl) follows_Tryz (by kernel_rfl) (by simp [Tryz.ntmps74]) ?_
  intro hbox htok
  simp only at hbox htok
  apply AL.start
  repeat (first | refine AL.seq ?_ | refine AL.block ?_ | refine AL.skip ?_ | refine AL.blk ?_)
  refine AL.region follows_Tryz (Nat.le_refl _) (by kernel_rfl) ?_
  simp
  repeat (first | refine AL.seq ?_ | refine AL.block ?_ | refine AL.skip ?_ | refine AL.blk ?_)
  refine AL.region follows_Tryz (Nat.le_refl _) (by kernel_rfl) ?_
  simp
  repeat (first | refine AL.seq ?_ | refine AL.block ?_ | refine AL.skip ?_ | refine AL.blk ?_)
  refine AL.loopT (st55a l nb box tok nt) (fun i => i ≤ l.length ∧ distK l i = true) (fun i => l.length - i) 0 ⟨Nat.zero_le _, rfl⟩ (Weaks.mk (Nat.le_refl _) rfl (by simp [ToL]) trivial) ?_
  rintro i S ⟨hi, hok⟩ hS
  simp only [st55a] at hS
  subst hS
  have hw : IntKind.i64.wrap (↑i + 1) = ((i + 1 : Nat) : Int) := by rw [wrap_in (by omega) (by omega)]; rfl
  repeat (first | refine AL.seq ?_ | refine AL.block ?_ | refine AL.skip ?_ | refine AL.blk ?_)
  refine AL.region follows_Tryz (Nat.le_refl _) (by kernel_rfl) ?_
  simp
  repeat (first | refine AL.seq ?_ | refine AL.block ?_ | refine AL.skip ?_ | refine AL.blk ?_)
  refine AL.cond ?_
  simp
  refine ⟨fun hlt => ?_, fun hge => ?_⟩
  · repeat (first | refine AL.seq ?_ | refine AL.block ?_ | refine AL.skip ?_ | refine AL.blk ?_)
    refine AL.region follows_Tryz (Nat.le_refl _) (by kernel_rfl) ?_
    simp
    repeat (first | refine AL.seq ?_ | refine AL.block ?_ | refine AL.skip ?_ | refine AL.blk ?_)
    refine AL.loopT (st55b l i nb box tok nt) (fun k => k ≤ i ∧ distJ l i k = true) (fun k => i - k) 0 ⟨Nat.zero_le _, rfl⟩ (Weaks.mk (Nat.le_refl _) rfl (by simp [ToL]) trivial) ?_
    rintro k S ⟨hk, hokk⟩ hS
    simp only [st55b] at hS
    subst hS
    have hwk : IntKind.i64.wrap (↑k + 1) = ((k + 1 : Nat) : Int) := by rw [wrap_in (by omega) (by omega)]; rfl
    have gi : l.getD i 0 = l[i] := by simp [hlt]
    repeat (first | refine AL.seq ?_ | refine AL.block ?_ | refine AL.skip ?_ | refine AL.blk ?_)
    refine AL.region follows_Tryz (Nat.le_refl _) (by kernel_rfl) ?_
    simp
    repeat (first | refine AL.seq ?_ | refine AL.block ?_ | refine AL.skip ?_ | refine AL.blk ?_)
    refine AL.cond ?_
    simp
    refine ⟨fun hki => ?_, fun hki => ?_⟩
    · have hkl : k < l.length := by omega
      have gk : l.getD k 0 = l[k] := by simp [hkl]
      repeat (first | refine AL.seq ?_ | refine AL.block ?_ | refine AL.skip ?_ | refine AL.blk ?_)
      refine AL.region follows_Tryz (Nat.le_refl _) (by kernel_rfl) ?_
      simp [hlt, hkl]
      repeat (first | refine AL.seq ?_ | refine AL.block ?_ | refine AL.skip ?_ | refine AL.blk ?_)
      refine AL.cond ?_
      simp
      refine ⟨fun heq => ?_, fun hne => ?_⟩
      · repeat (first | refine AL.seq ?_ | refine AL.block ?_ | refine AL.skip ?_ | refine AL.blk ?_)
        refine AL.region follows_Tryz (Nat.le_refl _) (by kernel_rfl) ?_
        simp
        have hR := distK_stop hlt hki (by rw [gi, gk]; exact heq)
        repeat (first | refine AL.seq ?_ | refine AL.block ?_ | refine AL.skip ?_ | refine AL.blk ?_)
        refine AL.ret ?_
        try simp only [AU]
        refine ⟨by simp, Fin.data (by simp [resAs, resA]; rfl) hbox rfl htok (fun _ h => h) (Nat.le_refl _) ?_⟩
        simp [packA, hR]
      · repeat (first | refine AL.seq ?_ | refine AL.block ?_ | refine AL.skip ?_ | refine AL.blk ?_)
        refine AL.region follows_Tryz (Nat.le_refl _) (by kernel_rfl) ?_
        simp [hwk]
        repeat (first | refine AL.seq ?_ | refine AL.block ?_ | refine AL.skip ?_ | refine AL.blk ?_)
        refine AL.nil ?_
        refine ⟨k + 1, ⟨hki, ?_⟩, by omega, Weaks.mk (Nat.le_refl _) rfl (by simp [ToL]) trivial⟩
        rw [distJ_succ, hokk, gi, gk]; simp [hne]
    · repeat (first | refine AL.seq ?_ | refine AL.block ?_ | refine AL.skip ?_ | refine AL.blk ?_)
      refine AL.exit ?_
      simp only [AU, ↓reduceIte]
      have : k = i := by omega
      subst this
      repeat (first | refine AL.seq ?_ | refine AL.block ?_ | refine AL.skip ?_ | refine AL.blk ?_)
      refine AL.region follows_Tryz (Nat.le_refl _) (by kernel_rfl) ?_
      simp [hw]
      repeat (first | refine AL.seq ?_ | refine AL.block ?_ | refine AL.skip ?_ | refine AL.blk ?_)
      refine AL.nil ?_
      refine ⟨k + 1, ⟨hlt, ?_⟩, by omega, Weaks.mk (Nat.le_refl _) rfl (by simp [ToL]) trivial⟩
      rw [distK_succ, hok, hokk]; rfl
  · repeat (first | refine AL.seq ?_ | refine AL.block ?_ | refine AL.skip ?_ | refine AL.blk ?_)
    refine AL.exit ?_
    simp only [AU, ↓reduceIte]
    have : i = l.length := by omega
    subst this
    repeat (first | refine AL.seq ?_ | refine AL.block ?_ | refine AL.skip ?_ | refine AL.blk ?_)
    refine AL.region follows_Tryz (Nat.le_refl _) (by kernel_rfl) ?_
    simp
    repeat (first | refine AL.seq ?_ | refine AL.block ?_ | refine AL.skip ?_ | refine AL.blk ?_)
    refine AL.ret ?_
    try simp only [AU]
    refine ⟨by simp, Fin.data (by simp [resAs, resA]; rfl) hbox rfl htok (fun _ h => h) (Nat.le_refl _) ?_⟩
    simp [packA, hok]

def injM (a b : Gr) (m : Mo) : Bool := decide (validM a b m = 0) && (distK m.nodes m.nodes.length && distK m.edges m.edges.length)
theorem injective26_c (a b : Gr) (m : Mo) (ha : a.Fit) (hb : b.Fit) (hm : m.Fit) (tok : Nat → Bool) (nt : Nat) : DCall Tryz.prog 54 [a.av, b.av, m.av] tok nt (B (injM a b m)) tok nt := by
  intro box nb
  refine ACalls.of_body Tryz.func54 rfl (by kernel_rfl) follows_Tryz (by kernel_rfl) (by simp [Tryz.ntmps54]) ?_
  intro hbox htok
  simp only at hbox htok
  apply AL.start
  repeat (first | refine AL.seq ?_ | refine AL.block ?_ | refine AL.skip ?_ | refine AL.blk ?_)
  refine AL.region follows_Tryz (Nat.le_refl _) (by kernel_rfl) ?_
  simp
  repeat (first | refine AL.seq ?_ | refine AL.block ?_ | refine AL.skip ?_ | refine AL.blk ?_)
  refine AL.region follows_Tryz (Nat.le_refl _) (by kernel_rfl) ?_
  simp
  refine Stop.of_d (valid53_c a b m ha hb _ _) ?_
  simp
  by_cases h1 : validM a b m = 0
  · simp [h1]
    refine Stop.of_d (distinct55_c m.nodes hm.n _ _) ?_
    simp [h1]
    by_cases h2 : distK m.nodes m.nodes.length = true
    · simp [h1, h2]
      refine Stop.of_d (distinct55_c m.edges hm.e _ _) ?_
      simp [h1, h2]
      repeat (first | refine AL.seq ?_ | refine AL.block ?_ | refine AL.skip ?_ | refine AL.blk ?_)
      refine AL.ret ?_
      try simp only [AU]
      refine ⟨by simp, Fin.data (by simp [resAs, resA]; rfl) hbox rfl htok (fun _ h => h) (Nat.le_refl _) ?_⟩
      simp [packA, injM, h1, h2]
    · have h3 : distK m.nodes m.nodes.length = false := by simpa using h2
      simp only [h3]
      simp
      repeat (first | refine AL.seq ?_ | refine AL.block ?_ | refine AL.skip ?_ | refine AL.blk ?_)
      refine AL.ret ?_
      try simp only [AU]
      refine ⟨by simp, Fin.data (by simp [resAs, resA]; rfl) hbox rfl htok (fun _ h => h) (Nat.le_refl _) ?_⟩
      simp [packA, injM, h1, h3]
  · have hb1 : (validM a b m == 0) = false := by simp [h1]
    simp only [hb1]
    try simp
    repeat (first | refine AL.seq ?_ | refine AL.block ?_ | refine AL.skip ?_ | refine AL.blk ?_)
    refine AL.ret ?_
    try simp only [AU]
    refine ⟨by simp, Fin.data (by simp [resAs, resA]; rfl) hbox rfl htok (fun _ h => h) (Nat.le_refl _) ?_⟩
    simp [packA, injM, h1]

def mN (x : Dr) (i : Nat) : List Int := (x.nodes.take i).map fun n => n % 3
@[simp] theorem mN_len (x : Dr) (i : Nat) : (mN x i).length = min i x.nodes.length := by simp [mN]
def mE (x : Dr) (n : Int) (i : Nat) : List E := (x.edges.take i).map fun e => ⟨e.1 % 2, e.2.1 % n, e.2.2 % n⟩
@[simp] theorem mE_len (x : Dr) (n : Int) (i : Nat) : (mE x n i).length = min i x.edges.length := by simp [mE]
end Go.AM
/-
  The plain law of the standard overlaps, second part: each gluing along partial matchings is a valid graph with two injective, jointly surjective morphisms, and it tells its matchings. No program in sight.
-/
namespace Go.AM
open Go
set_option linter.unusedSimpArgs false
set_option linter.unusedVariables false

theorem getD_lt {α : Type} {r : List α} {v d : α} {j : Nat} (h : j < r.length) : (r ++ [v]).getD j d = r.getD j d := by
  simp [List.getD_eq_getElem?_getD, List.getElem?_append_left h]
theorem getD_at {α : Type} {r : List α} {v d : α} : (r ++ [v]).getD r.length d = v := by
  simp [List.getD_eq_getElem?_getD]
theorem getD_pre {α : Type} {r t : List α} {d : α} {j : Nat} (h : j < r.length) : (r ++ t).getD j d = r.getD j d := by
  simp [List.getD_eq_getElem?_getD, List.getElem?_append_left h]
theorem getD_mem {α : Type} {r : List α} {d : α} {j : Nat} (h : j < r.length) : r.getD j d ∈ r := by
  simp [List.getD_eq_getElem?_getD, List.getElem?_eq_getElem h]
theorem iota_getD {n j : Nat} (h : j < n) : (iota n).getD j 0 = j := by
  simp [iota, List.getD_eq_getElem?_getD, h]

/-! ### A gluing, generally -/
def glueG {α : Type} [Inhabited α] (an bn : List α) (x : List Int) : Nat → List α × List Int
  | 0 => (an, [])
  | i + 1 => if x.getD i 0 < 0 then ((glueG an bn x i).1 ++ [bn.getD i default], (glueG an bn x i).2 ++ [((glueG an bn x i).1.length : Int)]) else ((glueG an bn x i).1, (glueG an bn x i).2 ++ [x.getD i 0])

theorem glueN_G (an bn l : List Int) : ∀ i, glueN an bn l i = glueG an bn l i
  | 0 => rfl
  | i + 1 => by
    simp only [glueN, glueG, glueN_G an bn l i]
    rfl

def mapE (rn : List Int) (e : E) : E := ⟨e.ty, rn.getD e.fr.toNat 0, rn.getD e.to.toNat 0⟩
theorem glueE_G (ae be : List E) (rn l : List Int) : ∀ i, i ≤ be.length → glueE ae be rn l i = glueG ae (be.map (mapE rn)) l i
  | 0, _ => rfl
  | i + 1, h => by
    have e : (be.map (mapE rn)).getD i default = mapE rn (be.getD i default) := by
      have : i < be.length := by omega
      simp [List.getD_eq_getElem?_getD, this]
    simp only [glueE, glueG, glueE_G ae be rn l i (by omega), e]
    rfl

structure GI {α : Type} [Inhabited α] (an bn : List α) (x : List Int) (i : Nat) (rn : List α) (r : List Int) : Prop where
  len : r.length = i
  pre : ∃ t, rn = an ++ t ∧ ∀ y ∈ t, y ∈ bn
  rng : ∀ j, j < i → 0 ≤ r.getD j 0 ∧ r.getD j 0 < rn.length
  val : ∀ j, j < i → rn.getD (r.getD j 0).toNat default = bn.getD j default
  neg : ∀ j, j < i → x.getD j 0 < 0 → (an.length : Int) ≤ r.getD j 0
  pos : ∀ j, j < i → ¬ x.getD j 0 < 0 → r.getD j 0 = x.getD j 0
  dist : ∀ j k, j < k → k < i → r.getD j 0 ≠ r.getD k 0
  cov : ∀ v : Nat, an.length ≤ v → v < rn.length → (v : Int) ∈ r

theorem glue_gi {α : Type} [Inhabited α] {an bn : List α} {x : List Int} {ok : Nat → Nat → Bool} (h : isM ok an.length bn.length x) (hok : ∀ i k, i < bn.length → k < an.length → ok i k = true → an.getD k default = bn.getD i default) :
    ∀ i, i ≤ bn.length → GI an bn x i (glueG an bn x i).1 (glueG an bn x i).2
  | 0, _ => ⟨rfl, ⟨[], by simp [glueG], by simp⟩, fun j hj => absurd hj (Nat.not_lt_zero _), fun j hj => absurd hj (Nat.not_lt_zero _), fun j hj => absurd hj (Nat.not_lt_zero _), fun j hj => absurd hj (Nat.not_lt_zero _), fun j k _ hj => absurd hj (Nat.not_lt_zero _), fun v h1 h2 => by simp only [glueG] at h2; omega⟩
  | i + 1, hi => by
    have g := glue_gi h hok i (by omega)
    simp only [glueG]
    generalize hrn : (glueG an bn x i).1 = rn at g ⊢
    generalize hr : (glueG an bn x i).2 = r at g ⊢
    obtain ⟨t, ht, htb⟩ := g.pre
    have hlen := g.len
    have hal : an.length ≤ rn.length := by rw [ht]; simp
    have hib : i < bn.length := by omega
    rcases h.2 i hib with hx | ⟨k, hx, hk, hkok, hnot⟩
    · rw [if_pos (by omega)]
      have old : ∀ j, j < i → (r ++ [(rn.length : Int)]).getD j 0 = r.getD j 0 := fun j hj => getD_lt (by omega)
      have new : (r ++ [(rn.length : Int)]).getD i 0 = rn.length := by rw [← hlen]; exact getD_at
      refine ⟨by simp [hlen], ⟨t ++ [bn.getD i default], by rw [ht, List.append_assoc], ?_⟩, fun j hj => ?_, fun j hj => ?_, fun j hj => ?_, fun j hj => ?_, fun j k hjk hk => ?_, fun v h1 h2 => ?_⟩
      · intro y hy
        rcases List.mem_append.1 hy with hy | hy
        · exact htb y hy
        · simp only [List.mem_singleton] at hy
          subst hy
          exact getD_mem hib
      · simp only [List.length_append, List.length_cons, List.length_nil]
        by_cases e : j = i
        · subst e; rw [new]; omega
        · rw [old j (by omega)]; have := g.rng j (by omega); omega
      · by_cases e : j = i
        · subst e; rw [new, Int.toNat_natCast]; exact getD_at
        · rw [old j (by omega), getD_lt (by have := g.rng j (by omega); omega)]; exact g.val j (by omega)
      · by_cases e : j = i
        · subst e; intro _; rw [new]; omega
        · rw [old j (by omega)]; exact g.neg j (by omega)
      · by_cases e : j = i
        · subst e; intro hn; omega
        · rw [old j (by omega)]; exact g.pos j (by omega)
      · by_cases e : k = i
        · subst e; rw [new, old j hjk]; have := g.rng j hjk; omega
        · rw [old j (by omega), old k (by omega)]; exact g.dist j k hjk (by omega)
      · simp only [List.length_append, List.length_cons, List.length_nil] at h2
        by_cases e : v = rn.length
        · subst e; simp
        · exact List.mem_append.2 (.inl (g.cov v h1 (by omega)))
    · rw [if_neg (by omega)]
      have old : ∀ j, j < i → (r ++ [x.getD i 0]).getD j 0 = r.getD j 0 := fun j hj => getD_lt (by omega)
      have new : (r ++ [x.getD i 0]).getD i 0 = x.getD i 0 := by
        have : (r ++ [x.getD i 0]).getD r.length 0 = x.getD i 0 := getD_at
        rw [hlen] at this; exact this
      refine ⟨by simp [hlen], ⟨t, ht, htb⟩, fun j hj => ?_, fun j hj => ?_, fun j hj => ?_, fun j hj => ?_, fun j k' hjk hk' => ?_, fun v h1 h2 => ?_⟩
      · by_cases e : j = i
        · subst e; have hkr : ((k : Nat) : Int) < rn.length := by omega
          rw [new, hx]; exact ⟨by omega, hkr⟩
        · rw [old j (by omega)]; exact g.rng j (by omega)
      · by_cases e : j = i
        · subst e; rw [new, hx, Int.toNat_natCast, ht, getD_pre hk]; exact hok j k hib hk hkok
        · rw [old j (by omega)]; exact g.val j (by omega)
      · by_cases e : j = i
        · subst e; intro hn; omega
        · rw [old j (by omega)]; exact g.neg j (by omega)
      · by_cases e : j = i
        · subst e; intro hn; exact new
        · rw [old j (by omega)]; exact g.pos j (by omega)
      · by_cases e : k' = i
        · subst e
          rw [new, old j hjk]
          by_cases hn : x.getD j 0 < 0
          · have := g.neg j hjk hn
            omega
          · rw [g.pos j hjk hn]
            intro e2
            have := isM_inj h (show j < bn.length by omega) hib (by rw [e2]; exact hx) hx
            omega
        · rw [old j (by omega), old k' (by omega)]; exact g.dist j k' hjk (by omega)
      · exact List.mem_append.2 (.inl (g.cov v h1 h2))

/-! ### The parts of the law -/
theorem firstE_zero {f : Nat → Int} : ∀ n, (∀ i, i < n → f i = 0) → firstE f n = 0
  | 0, _ => rfl
  | n + 1, h => by
    simp only [firstE, firstE_zero n fun i hi => h i (by omega), ↓reduceIte]
    exact h n (by omega)

theorem distK_of {l : List Int} {n : Nat} (h : ∀ j k, j < k → k < n → l.getD j 0 ≠ l.getD k 0) : distK l n = true := by
  simp only [distK, List.all_eq_true, List.mem_range, decide_eq_true_eq]
  exact fun j hj k hk e => h k j hk hj e.symm

theorem validG_types {g : Gr} (h : validG g = 0) : (g.nodes.length ≤ 40 ∧ g.edges.length ≤ 80) ∧ (∀ n ∈ g.nodes, withinB n 99 = true) ∧ ∀ e ∈ g.edges, fitsB e g.nodes.length = true := by
  unfold validG at h
  split at h
  · cases h
  · rename_i h0
    split at h
    · cases h
    · rename_i h1
      split at h
      · cases h
      · rename_i h2
        simp only [anyB, List.any_eq_true, not_exists, not_and, Bool.not_eq_true', Bool.not_eq_false] at h1 h2
        exact ⟨by omega, h1, h2⟩

theorem validG_of {g : Gr} (h0 : g.nodes.length ≤ 40 ∧ g.edges.length ≤ 80) (h1 : ∀ n ∈ g.nodes, withinB n 99 = true) (h2 : ∀ e ∈ g.edges, fitsB e g.nodes.length = true) : validG g = 0 := by
  unfold validG
  rw [if_neg (by omega), if_neg, if_neg]
  · simp only [anyB, List.any_eq_true, not_exists, not_and, Bool.not_eq_true', Bool.not_eq_false]; exact h2
  · simp only [anyB, List.any_eq_true, not_exists, not_and, Bool.not_eq_true', Bool.not_eq_false]; exact h1

theorem fitsB_iff (e : E) (n : Int) : fitsB e n = true ↔ withinB e.ty 99 = true ∧ (0 ≤ e.fr ∧ e.fr < n) ∧ (0 ≤ e.to ∧ e.to < n) := by
  simp only [fitsB, withinB, Bool.and_eq_true, decide_eq_true_eq]
  omega

/-- The parts of a gluing along two matchings. -/
structure Glued (a b : Gr) (x es : List Int) : Prop where
  n : GI a.nodes b.nodes x b.nodes.length (glue a b x es).g.nodes (glue a b x es).r.nodes
  e : GI a.edges (b.edges.map (mapE (glue a b x es).r.nodes)) es b.edges.length (glue a b x es).g.edges (glue a b x es).r.edges

theorem glued_of {a b : Gr} (ha : EOk a) (hb : EOk b) {x es : List Int} (h : isPair a b (x, es)) : Glued a b x es := by
  obtain ⟨h1, h2⟩ := h
  simp only at h1 h2
  have hxl : x.length = b.nodes.length := h1.1
  have hel : es.length = b.edges.length := h2.1
  have gn : GI a.nodes b.nodes x b.nodes.length (glue a b x es).g.nodes (glue a b x es).r.nodes := by
    simp only [glue, glueN_G, hxl]
    refine glue_gi h1 (fun i k hi hk hok => ?_) _ (Nat.le_refl _)
    unfold okN at hok
    rw [decide_eq_true_eq] at hok
    exact hok
  refine ⟨gn, ?_⟩
  have key : isM (okE a b x) a.edges.length (b.edges.map (mapE (glue a b x es).r.nodes)).length es := by rw [List.length_map]; exact h2
  have := glue_gi (an := a.edges) (bn := b.edges.map (mapE (glue a b x es).r.nodes)) (x := es) (ok := okE a b x) key (fun i k hi hk hok => ?_) b.edges.length (by simp)
  · have e0 : (glue a b x es).r.nodes = (glueN a.nodes b.nodes x x.length).2 := rfl
    have e1 : (glue a b x es).g.edges = (glueE a.edges b.edges (glueN a.nodes b.nodes x x.length).2 es es.length).1 := rfl
    have e2 : (glue a b x es).r.edges = (glueE a.edges b.edges (glueN a.nodes b.nodes x x.length).2 es es.length).2 := rfl
    rw [e1, e2, ← e0, hel, glueE_G _ _ _ _ _ (Nat.le_refl _)]
    exact this
  · have hib : i < b.edges.length := by simpa using hi
    unfold okE at hok
    rw [decide_eq_true_eq] at hok
    have g1 : a.edges.getD k default = a.edges[k] := by simp [hk]
    have g2 : b.edges.getD i default = b.edges[i] := by simp [hib]
    have g3 : (b.edges.map (mapE (glue a b x es).r.nodes)).getD i default = mapE (glue a b x es).r.nodes b.edges[i] := by simp [hib]
    rw [g1, g2] at hok
    rw [g1, g3]
    obtain ⟨a1, a2, a3, a4⟩ := ha _ (List.getElem_mem hk)
    obtain ⟨b1, b2, b3, b4⟩ := hb _ (List.getElem_mem hib)
    have f1 : a.edges[k].fr = x.getD b.edges[i].fr.toNat 0 := congrArg E.fr hok
    have f2 : a.edges[k].to = x.getD b.edges[i].to.toNat 0 := congrArg E.to hok
    have p1 := gn.pos b.edges[i].fr.toNat (by omega) (by omega)
    have p2 := gn.pos b.edges[i].to.toNat (by omega) (by omega)
    unfold mapE
    rw [p1, p2]
    exact hok

theorem glue_law0 {a b : Gr} (hva : validG a = 0) (hvb : validG b = 0) {x es : List Int} (h : isPair a b (x, es)) (hs : (glue a b x es).g.nodes.length ≤ 40 ∧ (glue a b x es).g.edges.length ≤ 80) :
    validG (glue a b x es).g = 0 ∧ validM a (glue a b x es).g (glue a b x es).l = 0 ∧ validM b (glue a b x es).g (glue a b x es).r = 0 := by
  have ha := validG_edges hva
  have hb := validG_edges hvb
  obtain ⟨_, ta, tea⟩ := validG_types hva
  obtain ⟨_, tb, teb⟩ := validG_types hvb
  obtain ⟨gn, ge⟩ := glued_of ha hb h
  have hl : (glue a b x es).l = idM a := rfl
  rw [hl]
  generalize glue a b x es = o at *
  obtain ⟨tn, htn, htnb⟩ := gn.pre
  obtain ⟨te, hte, hteb⟩ := ge.pre
  have nl : a.nodes.length ≤ o.g.nodes.length := by rw [htn]; simp
  have el : a.edges.length ≤ o.g.edges.length := by rw [hte]; simp
  have hv : validG o.g = 0 := by
    refine validG_of (by omega) (fun n hn => ?_) fun e he => ?_
    · rw [htn] at hn
      rcases List.mem_append.1 hn with hn | hn
      · exact ta n hn
      · exact tb n (htnb n hn)
    · rw [hte] at he
      rw [fitsB_iff]
      rcases List.mem_append.1 he with he | he
      · have := (fitsB_iff _ _).1 (tea e he)
        exact ⟨this.1, by omega, by omega⟩
      · obtain ⟨y, hy, rfl⟩ := List.mem_map.1 (hteb e he)
        have := (fitsB_iff _ _).1 (teb y hy)
        obtain ⟨y1, y2, y3, y4⟩ := hb y hy
        have r1 := gn.rng y.fr.toNat (by omega)
        have r2 := gn.rng y.to.toNat (by omega)
        exact ⟨this.1, r1, r2⟩
  refine ⟨hv, ?_, ?_⟩
  · unfold validM
    have z1 : firstE (nodeE a o.g (idM a)) a.nodes.length = 0 := firstE_zero _ fun i hi => by
      have e1 : (idM a).nodes.getD i 0 = i := iota_getD hi
      unfold nodeE
      rw [e1, if_neg (by omega), Int.toNat_natCast, if_pos]
      rw [htn, getD_pre hi]
    have z2 : firstE (edgeE a o.g (idM a)) a.edges.length = 0 := firstE_zero _ fun i hi => by
      have e1 : (idM a).edges.getD i 0 = i := iota_getD hi
      obtain ⟨a1, a2, a3, a4⟩ := ha _ (getD_mem (d := default) hi)
      have e2 : (idM a).nodes.getD (a.edges.getD i default).fr.toNat 0 = (a.edges.getD i default).fr.toNat := iota_getD (by omega)
      have e3 : (idM a).nodes.getD (a.edges.getD i default).to.toNat 0 = (a.edges.getD i default).to.toNat := iota_getD (by omega)
      unfold edgeE
      rw [e1, if_neg (by omega), Int.toNat_natCast]
      have e4 : o.g.edges.getD i default = a.edges.getD i default := by rw [hte, getD_pre hi]
      simp only [e4, e2, e3, ne_eq, not_true_eq_false, ↓reduceIte]
      rw [if_neg (by omega)]
    rw [if_neg (by simp [hva]), if_neg (by simp [hv]), if_neg (by simp [idM]), if_neg (by simp [z1]), z2]
  · unfold validM
    have ln := gn.len
    have le := ge.len
    have z1 : firstE (nodeE b o.g o.r) b.nodes.length = 0 := firstE_zero _ fun i hi => by
      have r1 := gn.rng i hi
      unfold nodeE
      rw [if_neg (by omega), if_pos]
      exact gn.val i hi
    have z2 : firstE (edgeE b o.g o.r) b.edges.length = 0 := firstE_zero _ fun i hi => by
      have r1 := ge.rng i hi
      have v1 := ge.val i hi
      have g3 : (b.edges.map (mapE o.r.nodes)).getD i default = mapE o.r.nodes (b.edges.getD i default) := by simp [hi]
      rw [g3] at v1
      unfold edgeE
      rw [if_neg (by omega)]
      simp only [v1, mapE, ne_eq, not_true_eq_false, or_self, ↓reduceIte]
    rw [if_neg (by simp [hvb]), if_neg (by simp [hv]), if_neg (by omega), if_neg (by simp [z1]), z2]

theorem glue_law {a b : Gr} (hva : validG a = 0) (hvb : validG b = 0) (hs : a.nodes.length + b.nodes.length ≤ 40 ∧ a.edges.length + b.edges.length ≤ 80) {x es : List Int} (h : isPair a b (x, es)) :
    validG (glue a b x es).g = 0 ∧ validM a (glue a b x es).g (glue a b x es).l = 0 ∧ validM b (glue a b x es).g (glue a b x es).r = 0 := by
  have hxl : x.length = b.nodes.length := h.1.1
  have hel : es.length = b.edges.length := h.2.1
  have l1 := (glueN_len a.nodes b.nodes x x.length).1
  have l2 := (glueE_len a.edges b.edges (glueN a.nodes b.nodes x x.length).2 es es.length).1
  have m1 : (glue a b x es).g.nodes.length ≤ a.nodes.length + x.length := l1
  have m2 : (glue a b x es).g.edges.length ≤ a.edges.length + es.length := l2
  exact glue_law0 hva hvb h (by omega)

theorem glue_law2 {a b : Gr} (hva : validG a = 0) (hvb : validG b = 0) (hs : a.nodes.length + b.nodes.length ≤ 40 ∧ a.edges.length + b.edges.length ≤ 80) {x es : List Int} (h : isPair a b (x, es)) :
    injM a (glue a b x es).g (glue a b x es).l = true ∧ injM b (glue a b x es).g (glue a b x es).r = true ∧ jointly a b (glue a b x es).g (glue a b x es).l (glue a b x es).r = true := by
  obtain ⟨hv, h1, h2⟩ := glue_law hva hvb hs h
  obtain ⟨gn, ge⟩ := glued_of (validG_edges hva) (validG_edges hvb) h
  have i1 : ∀ n, distK (iota n) n = true := fun n => distK_of fun j k hjk hk => by
    rw [iota_getD hk, iota_getD (by omega)]; omega
  have i2 : ∀ l : List Int, ∀ n m : Nat, (∀ v : Nat, n ≤ v → v < m → (v : Int) ∈ l) → covK (iota n) l m = true := fun l n m hc => by
    simp only [covK, List.all_eq_true, List.mem_range, Bool.or_eq_true, decide_eq_true_eq]
    intro v hv
    by_cases hvn : v < n
    · left; simp only [iota, List.mem_map, List.mem_range]; exact ⟨v, hvn, rfl⟩
    · right; exact hc v (by omega) hv
  refine ⟨?_, ?_, ?_⟩
  · have e1 : (glue a b x es).l = idM a := rfl
    unfold injM
    rw [h1, e1]
    simp [idM, i1]
  · unfold injM
    rw [h2, gn.len, ge.len, distK_of gn.dist, distK_of ge.dist]
    rfl
  · unfold jointly
    rw [h1, h2]
    have c1 := i2 _ _ _ gn.cov
    have c2 := i2 _ _ _ ge.cov
    have e1 : (glue a b x es).l.nodes = iota a.nodes.length := rfl
    have e2 : (glue a b x es).l.edges = iota a.edges.length := rfl
    rw [e1, e2, c1, c2]
    rfl

/-! ### The list of overlaps -/
/-! ### The graph of a draft -/
end Go.AM
/-
  The abstract machine: slices that nothing else speaks of. They are handed out by a call, become a box (thaw), and a box becomes one (seal).
-/
namespace Go.AM
open Go
set_option linter.unusedSimpArgs false
set_option linter.unusedVariables false

variable {P : Program}

/-- From one state to another, with nothing run. -/
def Trans (cx : Cx) (nt0 : Nat) (S S' : AState) : Prop := ∀ G0 w0 G a w, Entry cx nt0 G0 → G0.nt ≤ nt0 → RelS cx.n cx.nb G S a w → LeC cx G0 w0 G w S → ∃ G', RelS cx.n cx.nb G' S' a w ∧ LeC cx G0 w0 G' w S'

theorem AT.trans {cx : Cx} {nt0 : Nat} {c : Code} {S S' : AState} {K : Exit → AState → Prop} (h : Trans cx nt0 S S') (k : AT P cx nt0 c S' K) : AT P cx nt0 c S K := by
  intro G0 w0 he hn G a w hr hl
  obtain ⟨G', hr', hl'⟩ := h G0 w0 G a w he hn hr hl
  exact k G0 w0 he hn G' a w hr' hl'

theorem AL.trans {cx : Cx} {nt0 : Nat} {K : Exit → AState → Prop} {r : List CI} {S S' : AState} {x : Code} (hw : Trans cx nt0 S S') (h : AL P cx nt0 K (.c x :: r) S') : AL P cx nt0 K (.c x :: r) S := by
  simp only [AL] at h ⊢
  exact AT.trans hw h

/-- A piece that ends in one state, whatever road it took. -/
theorem AL.mid {cx : Cx} {nt0 : Nat} {K : Exit → AState → Prop} {r : List CI} {S : AState} {x y : Code} (T : AState)
    (h1 : AL P cx nt0 (fun e S' => match e with
      | .normal => Weaks cx nt0 S' T
      | e => AU P cx nt0 K (.c y :: r) e S') [.c x] S) (h2 : AL P cx nt0 K (.c y :: r) T) : AL P cx nt0 K (.c x :: .c y :: r) S := by
  have h3 := AL.start h1
  simp only [AL] at h2 ⊢
  refine h3.mono fun e S' h => ?_
  cases e with
  | normal => exact AT.weaks h h2
  | _ => exact h

/-! ### Thaw -/
inductive ThTo (t k sz : Nat) (es : List (List D)) : AV → AV → Prop
  | bot {x} : ThTo t k sz es x .bot
  | same {x} : ThTo t k sz es x x
  | ex : ThTo t k sz es (.ex t sz es) (.msl k 0 es.length sz)
  | agg {cs ds : List AV} (hl : cs.length = ds.length) (h : ∀ i (h1 : i < cs.length) (h2 : i < ds.length), ThTo t k sz es cs[i] ds[i]) : ThTo t k sz es (.agg cs) (.agg ds)

def ThR (t k sz : Nat) (es : List (List D)) (r r' : List AV) : Prop := r.length = r'.length ∧ ∀ i (h1 : i < r.length) (h2 : i < r'.length), ThTo t k sz es r[i] r'[i]
def ThRs (t k sz : Nat) (es : List (List D)) (r r' : List (List AV)) : Prop := r.length = r'.length ∧ ∀ i (h1 : i < r.length) (h2 : i < r'.length), ThR t k sz es r[i] r'[i]
def ThL (t k sz : Nat) (es : List (List D)) : List (Nat × AV) → List (Nat × AV) → Prop
  | [], [] => True
  | (i, x) :: a, (j, y) :: b => i = j ∧ ThTo t k sz es x y ∧ ThL t k sz es a b
  | _, _ => False
def ThB (t k sz : Nat) (es : List (List D)) : List (Nat × List (List AV)) → List (Nat × List (List AV)) → Prop
  | [], [] => True
  | (i, x) :: a, (j, y) :: b => i = j ∧ ThRs t k sz es x y ∧ ThB t k sz es a b
  | _, _ => False

theorem ThL.at {t k sz : Nat} {es : List (List D)} : ∀ {l l' : List (Nat × AV)}, ThL t k sz es l l' → ∀ i, ThTo t k sz es (tl l i) (tl l' i)
  | [], [], _, i => .same
  | (i, x) :: a, (j, y) :: b, h, q => by
    obtain ⟨rfl, h1, h2⟩ := h
    rw [tl_cons, tl_cons]
    split
    · exact h1
    · exact ThL.at h2 q
  | [], _ :: _, h, _ => h.elim
  | _ :: _, [], h, _ => h.elim
theorem ThB.at {t k sz : Nat} {es : List (List D)} : ∀ {l l' : List (Nat × List (List AV))}, ThB t k sz es l l' → ∀ i, (lk l i = none ∧ lk l' i = none) ∨ ∃ r r', lk l i = some r ∧ lk l' i = some r' ∧ ThRs t k sz es r r'
  | [], [], _, i => .inl ⟨rfl, rfl⟩
  | (i, x) :: a, (j, y) :: b, h, q => by
    obtain ⟨rfl, h1, h2⟩ := h
    rw [lk_cons, lk_cons]
    split
    · exact .inr ⟨x, y, rfl, rfl, h1⟩
    · exact ThB.at h2 q
  | [], _ :: _, h, _ => h.elim
  | _ :: _, [], h, _ => h.elim

theorem ThRs.flat {t k sz : Nat} {es : List (List D)} : ∀ {r r' : List (List AV)}, ThRs t k sz es r r' → ThR t k sz es r.flatten r'.flatten
  | [], [], _ => ⟨rfl, fun i h => by simp at h⟩
  | x :: a, y :: b, h => by
    have h0 := h.2 0 (by simp) (by simp)
    have ih : ThR t k sz es a.flatten b.flatten := ThRs.flat ⟨by simpa using h.1, fun i h1 h2 => h.2 (i + 1) (by simpa using h1) (by simpa using h2)⟩
    simp only [List.getElem_cons_zero] at h0
    refine ⟨by simp [h0.1, ih.1], fun i h1 h2 => ?_⟩
    have hl := h0.1
    have hi2 := ih.1
    simp only [List.flatten_cons] at h1 h2 ⊢
    rw [List.length_append] at h1 h2
    by_cases hi : i < x.length
    · have e1 : (x ++ a.flatten)[i]'(by rw [List.length_append]; omega) = x[i] := List.getElem_append_left hi
      have e2 : (y ++ b.flatten)[i]'(by rw [List.length_append]; omega) = y[i]'(by omega) := List.getElem_append_left (by omega)
      rw [e1, e2]
      exact h0.2 i hi _
    · have e1 : (x ++ a.flatten)[i]'(by rw [List.length_append]; omega) = a.flatten[i - x.length]'(by omega) := List.getElem_append_right (by omega)
      have e2 : (y ++ b.flatten)[i]'(by rw [List.length_append]; omega) = b.flatten[i - y.length]'(by omega) := List.getElem_append_right (by omega)
      rw [e1, e2]
      have := ih.2 (i - x.length) (by omega) (by omega)
      simp only [hl] at this ⊢
      exact this
  | [], _ :: _, h => by have := h.1; simp at this
  | _ :: _, [], h => by have := h.1; simp at this

theorem rowsD_flat (es : List (List D)) : (rowsD es).flatten = es.flatten.map AV.d := by
  induction es with
  | nil => rfl
  | cons e es ih => simp only [rowsD, List.map_cons, List.flatten_cons, List.map_append] at ih ⊢; rw [ih]

theorem Trans.thaw {cx : Cx} {nt0 nt : Nat} {l l' : List (Nat × AV)} {out : Nat → Option (List (List AV))} {loc loc' : List (Nat × List (List AV))} {tok : Nat → Bool} (t s sz : Nat) (es : List (List D)) (r : Nat)
    (hn : cx.nb = cx.base + cx.n) (hs : s < cx.n) (hk : lk loc s = none) (ht : tok t = true) (hr : tl l r = .ex t sz es)
    (hl : ThL t (cx.base + s) sz es l l') (hb : ThB t (cx.base + s) sz es loc loc') :
    Trans cx nt0 ⟨tl l, lb cx.base out loc, tok, nt⟩ ⟨tl l', lb cx.base out ((s, rowsD es) :: loc'), upd tok t false, nt⟩ := by
  intro G0 w0 G a w he hn0 hS hL
  have hm := hS.mem
  have hwit := hS.tmps r
  simp only at hwit
  rw [hr] at hwit
  have hex : ∀ {v : Value}, RV G w (.ex t sz es) v → ExR G w t sz es v := fun h => by cases h with | ex h => exact h
  obtain ⟨hlt, x, hx⟩ := hm.toks t ht
  obtain ⟨_, _, hw2⟩ := hex hwit
  obtain ⟨g, cap, cs, e, rfl, _, hcap, hmax, hkind, hheap, hrow, hflat, hrd, hone⟩ := hw2 x hx
  have hboxk : lb cx.base out loc (cx.base + s) = none := by rw [lb_at]; exact hk
  have hbxk : G.bx (cx.base + s) = none := hm.nobox _ hboxk
  let G' : Gh := { bx := upd G.bx (cx.base + s) (some (g, sz)), kind := upd G.kind g .box, tk := upd G.tk t none, nt := G.nt }
  have hnb : ∀ {k b z}, G.bx k = some (b, z) → b ≠ g := fun h e => by
    have := (hm.blt h).2
    rw [e, hkind] at this; cases this
  have hntk : ∀ {q j}, q ≠ t → G.tk q = some (some j) → j ≠ g := fun hq h e => by subst e; exact hq (hm.tinj _ _ _ h hx)
  have hle : Le G w G' w := by
    refine ⟨rfl, rfl, rfl, Nat.le_refl _, fun b _ hb => ⟨?_, rfl⟩, fun b f c hb => ⟨⟨f, Nat.le_refl _, ?_⟩, fun _ _ _ => rfl⟩, fun k x hk => ?_, Nat.le_refl _, fun q _ => ?_⟩
    · simp only [G']; rw [upd_other _ _ (fun e => by rw [e, hkind] at hb; cases hb)]; exact hb
    · simp only [G']; rw [upd_other _ _ (fun e => by rw [e, hkind] at hb; cases hb)]; exact hb
    · simp only [G']; rw [upd_other _ _ (fun e => by rw [e, hbxk] at hk; cases hk)]; exact hk
    · by_cases hq : q = t
      · subst hq; exact .inl (by simp [G', upd_same])
      · refine .inr ⟨by simp only [G']; exact upd_other _ _ hq, fun j hj => ⟨?_, fun _ => rfl⟩⟩
        simp only [G']; exact upd_other _ _ (hntk hq hj)
  have hto : ∀ {x y : AV} {v : Value}, ThTo t (cx.base + s) sz es x y → RV G w x v → RV G' w y v := by
    intro x y v hxy
    induction hxy generalizing v with
    | bot => exact fun _ => .bot
    | same => exact fun h => h.mono hle
    | ex =>
      intro h
      obtain ⟨_, _, h2⟩ := hex h
      obtain ⟨g', cap', cs', e', hg', hv, hc1, hc2, _⟩ := h2 _ hx
      cases hg'
      rw [hv]
      have := RV.msl (G := G') (w := w) (k := cx.base + s) (off := 0) (n := es.length) (b := g) (sz := sz) (cap := cap') (by simp [G', upd_same]) hc1 hc2
      simpa using this
    | agg hl _ ih =>
      intro h
      cases h with
      | agg hl' hh hone => exact .agg (hl.symm.trans hl') (fun i h1 h2 => ih i (by omega) h1 (hh i (by omega) h2)) hone
  have hRVs : ∀ {xs ys : List AV} {vs : List Value}, ThR t (cx.base + s) sz es xs ys → RVs G w xs vs → RVs G' w ys vs := fun h hr => ⟨h.1.symm.trans hr.1, fun i h1 h2 => hto (h.2 i (by rw [h.1]; exact h1) h1) (hr.2 i _ h2)⟩
  have hlt2 := heap_lt hheap
  refine ⟨G', ⟨hS.defers, hS.size, fun i => hto (hl.at i) (hS.tmps i), ?_⟩, ?_⟩
  · constructor
    case box =>
      intro k rows b z hk' hb'
      by_cases e1 : k = cx.base + s
      · subst e1
        simp only [lb_at, lk_cons, ↓reduceIte, Option.some.injEq] at hk'
        simp only [G', upd_same, Option.some.injEq, Prod.mk.injEq] at hb'
        obtain ⟨rfl, rfl⟩ := hb'
        subst hk'
        refine ⟨by simp [G', upd_same], cs, e, hheap, fun q hq => ?_, ?_, hone⟩
        · obtain ⟨p, hp, rfl⟩ := List.mem_map.1 hq
          simpa using hrow p hp
        · rw [rowsD_flat]
          refine ⟨by rw [List.length_map]; exact hflat, fun i h1 h2 => ?_⟩
          simp only [List.getElem_map]
          exact .d ((hrd i (by rw [List.length_map] at h1; exact h1) h2).mono hle.cells)
      · simp only [G'] at hb'
        rw [upd_other _ _ e1] at hb'
        have hold : ∃ rows0, lb cx.base out loc k = some rows0 ∧ (rows0 = rows ∨ ThRs t (cx.base + s) sz es rows0 rows) := by
          by_cases hkb : k < cx.base
          · refine ⟨rows, ?_, .inl rfl⟩
            simp only at hk'
            rw [lb_out hkb] at hk' ⊢
            exact hk'
          · have hkk : k = cx.base + (k - cx.base) := by omega
            simp only at hk'
            rw [hkk, lb_at] at hk' ⊢
            rw [lk_cons, if_neg (by omega)] at hk'
            rcases hb.at (k - cx.base) with ⟨_, h2⟩ | ⟨r0, r', h1, h2, h3⟩
            · rw [h2] at hk'; cases hk'
            · rw [h2] at hk'
              cases hk'
              exact ⟨r0, h1, .inr h3⟩
        obtain ⟨rows0, h1, h2⟩ := hold
        obtain ⟨g1, cs', e', g2, g3, g4, g5⟩ := hm.box k rows0 b z h1 hb'
        refine ⟨by simp only [G']; rw [upd_other _ _ (hnb hb')]; exact g1, cs', e', g2, ?_, ?_, g5⟩
        · rcases h2 with rfl | h2
          · exact g3
          · intro q hq
            obtain ⟨i, hi, rfl⟩ := List.getElem_of_mem hq
            have hi0 : i < rows0.length := by rw [h2.1]; exact hi
            rw [← (h2.2 i hi0 hi).1]
            exact g3 _ (List.getElem_mem _)
        · rcases h2 with rfl | h2
          · exact g4.mono hle
          · exact hRVs h2.flat g4
    case nobox =>
      intro k hk'
      have hne : k ≠ cx.base + s := fun e => by subst e; simp [lb_at, lk_cons] at hk'
      simp only [G']
      rw [upd_other _ _ hne]
      refine hm.nobox k ?_
      simp only at hk' ⊢
      by_cases hkb : k < cx.base
      · rw [lb_out hkb] at hk' ⊢; exact hk'
      · have hkk : k = cx.base + (k - cx.base) := by omega
        rw [hkk, lb_at] at hk' ⊢
        rw [lk_cons, if_neg (by omega)] at hk'
        rcases hb.at (k - cx.base) with ⟨h1, _⟩ | ⟨r0, r', _, h2, _⟩
        · exact h1
        · rw [h2] at hk'; cases hk'
    case inj =>
      intro j j' b z z' hj hj'
      simp only [G'] at hj hj'
      by_cases e1 : j = cx.base + s <;> by_cases e2 : j' = cx.base + s
      · exact e1.trans e2.symm
      · subst e1
        rw [upd_same] at hj; rw [upd_other _ _ e2] at hj'
        cases hj
        exact absurd rfl (hnb hj')
      · subst e2
        rw [upd_same] at hj'; rw [upd_other _ _ e1] at hj
        cases hj'
        exact absurd rfl (hnb hj)
      · rw [upd_other _ _ e1] at hj; rw [upd_other _ _ e2] at hj'
        exact hm.inj j j' b z z' hj hj'
    case nb =>
      intro k hk'
      have h0 := hm.nb k hk'
      simp only at h0 ⊢
      have hkb : ¬ k < cx.base := by simp only at hk'; omega
      have hkk : k = cx.base + (k - cx.base) := by omega
      rw [hkk, lb_at] at h0 ⊢
      rw [lk_cons, if_neg (by simp only at hk'; omega)]
      rcases hb.at (k - cx.base) with ⟨_, h2⟩ | ⟨r0, r', h1, _, _⟩
      · exact h2
      · rw [h1] at h0; cases h0
    case nt => exact hm.nt
    case toks =>
      intro q hq
      simp only at hq
      by_cases e1 : q = t
      · subst e1; simp [upd_same] at hq
      · rw [upd_other _ _ e1] at hq
        obtain ⟨h1, y, h2⟩ := hm.toks q hq
        exact ⟨h1, y, by simp only [G']; rw [upd_other _ _ e1]; exact h2⟩
    case tokb =>
      intro q j hq
      simp only [G'] at hq
      by_cases e1 : q = t
      · subst e1; simp [upd_same] at hq
      · rw [upd_other _ _ e1] at hq
        obtain ⟨f, cur, e', g1, g2⟩ := hm.tokb q j hq
        refine ⟨f, cur, e', ?_, g2⟩
        simp only [G']
        rw [upd_other _ _ (hntk e1 hq)]
        exact g1
    case tinj =>
      intro q q' j hq hq'
      simp only [G'] at hq hq'
      by_cases e1 : q = t
      · subst e1; simp [upd_same] at hq
      · by_cases e2 : q' = t
        · subst e2; simp [upd_same] at hq'
        · rw [upd_other _ _ e1] at hq; rw [upd_other _ _ e2] at hq'
          exact hm.tinj q q' j hq hq'
    case tnt =>
      intro q y hq
      simp only [G'] at hq ⊢
      by_cases e1 : q = t
      · subst e1; simp [upd_same] at hq
      · rw [upd_other _ _ e1] at hq
        exact hm.tnt q y hq
    case fresh =>
      intro b hb'
      simp only [G']
      rw [upd_other _ _ (by omega)]
      exact hm.fresh b hb'
  · refine hL.step ⟨hle, fun k hkb hg => ⟨?_, ?_⟩⟩
    · simp only [G']; rw [upd_other _ _ (by omega)]; exact hg
    · simp only; rw [lb_out hkb, lb_out hkb]
/-! ### Seal -/
inductive SeTo (t k sz : Nat) (es : List (List D)) : AV → AV → Prop
  | bot {x} : SeTo t k sz es x .bot
  | same {x} (h : OkIn (· ≠ k) (fun _ => True) x) : SeTo t k sz es x x
  | msl : SeTo t k sz es (.msl k 0 es.length sz) (.ex t sz es)
  | agg {cs ds : List AV} (hl : cs.length = ds.length) (h : ∀ i (h1 : i < cs.length) (h2 : i < ds.length), SeTo t k sz es cs[i] ds[i]) : SeTo t k sz es (.agg cs) (.agg ds)

def SeR (t k sz : Nat) (es : List (List D)) (r r' : List AV) : Prop := r.length = r'.length ∧ ∀ i (h1 : i < r.length) (h2 : i < r'.length), SeTo t k sz es r[i] r'[i]
def SeRs (t k sz : Nat) (es : List (List D)) (r r' : List (List AV)) : Prop := r.length = r'.length ∧ ∀ i (h1 : i < r.length) (h2 : i < r'.length), SeR t k sz es r[i] r'[i]
def SeL (t k sz : Nat) (es : List (List D)) : List (Nat × AV) → List (Nat × AV) → Prop
  | [], [] => True
  | (i, x) :: a, (j, y) :: b => i = j ∧ SeTo t k sz es x y ∧ SeL t k sz es a b
  | _, _ => False
def SeB (t k sz : Nat) (es : List (List D)) : List (Nat × List (List AV)) → List (Nat × List (List AV)) → Prop
  | [], [] => True
  | (i, x) :: a, (j, y) :: b => i = j ∧ SeRs t k sz es x y ∧ SeB t k sz es a b
  | _, _ => False

theorem SeL.at {t k sz : Nat} {es : List (List D)} : ∀ {l l' : List (Nat × AV)}, SeL t k sz es l l' → ∀ i, SeTo t k sz es (tl l i) (tl l' i)
  | [], [], _, i => .bot
  | (i, x) :: a, (j, y) :: b, h, q => by
    obtain ⟨rfl, h1, h2⟩ := h
    rw [tl_cons, tl_cons]
    split
    · exact h1
    · exact SeL.at h2 q
  | [], _ :: _, h, _ => h.elim
  | _ :: _, [], h, _ => h.elim
theorem SeB.at {t k sz : Nat} {es : List (List D)} : ∀ {l l' : List (Nat × List (List AV))}, SeB t k sz es l l' → ∀ i, (lk l i = none ∧ lk l' i = none) ∨ ∃ r r', lk l i = some r ∧ lk l' i = some r' ∧ SeRs t k sz es r r'
  | [], [], _, i => .inl ⟨rfl, rfl⟩
  | (i, x) :: a, (j, y) :: b, h, q => by
    obtain ⟨rfl, h1, h2⟩ := h
    rw [lk_cons, lk_cons]
    split
    · exact .inr ⟨x, y, rfl, rfl, h1⟩
    · exact SeB.at h2 q
  | [], _ :: _, h, _ => h.elim
  | _ :: _, [], h, _ => h.elim
theorem SeRs.flat {t k sz : Nat} {es : List (List D)} : ∀ {r r' : List (List AV)}, SeRs t k sz es r r' → SeR t k sz es r.flatten r'.flatten
  | [], [], _ => ⟨rfl, fun i h => by simp at h⟩
  | x :: a, y :: b, h => by
    have h0 := h.2 0 (by simp) (by simp)
    have ih : SeR t k sz es a.flatten b.flatten := SeRs.flat ⟨by simpa using h.1, fun i h1 h2 => h.2 (i + 1) (by simpa using h1) (by simpa using h2)⟩
    simp only [List.getElem_cons_zero] at h0
    refine ⟨by simp [h0.1, ih.1], fun i h1 h2 => ?_⟩
    have hl := h0.1
    have hi2 := ih.1
    simp only [List.flatten_cons] at h1 h2 ⊢
    rw [List.length_append] at h1 h2
    by_cases hi : i < x.length
    · have e1 : (x ++ a.flatten)[i]'(by rw [List.length_append]; omega) = x[i] := List.getElem_append_left hi
      have e2 : (y ++ b.flatten)[i]'(by rw [List.length_append]; omega) = y[i]'(by omega) := List.getElem_append_left (by omega)
      rw [e1, e2]
      exact h0.2 i hi _
    · have e1 : (x ++ a.flatten)[i]'(by rw [List.length_append]; omega) = a.flatten[i - x.length]'(by omega) := List.getElem_append_right (by omega)
      have e2 : (y ++ b.flatten)[i]'(by rw [List.length_append]; omega) = b.flatten[i - y.length]'(by omega) := List.getElem_append_right (by omega)
      rw [e1, e2]
      have := ih.2 (i - x.length) (by omega) (by omega)
      simp only [hl] at this ⊢
      exact this
  | [], _ :: _, h => by have := h.1; simp at this
  | _ :: _, [], h => by have := h.1; simp at this

theorem Trans.seal {cx : Cx} {nt0 nt : Nat} {l l' : List (Nat × AV)} {out : Nat → Option (List (List AV))} {loc loc' : List (Nat × List (List AV))} {tok : Nat → Bool} (s sz : Nat) (es : List (List D)) (r : Nat)
    (ho : out = cx.B0) (hnt : nt0 ≤ nt) (hsz : ∀ e ∈ es, e.length = sz) (hr : tl l r = .msl (cx.base + s) 0 es.length sz) (hk' : lk loc' s = none)
    (hl : SeL nt (cx.base + s) sz es l l') (hb : SeB nt (cx.base + s) sz es loc loc') :
    Trans cx nt0 ⟨tl l, lb cx.base out ((s, rowsD es) :: loc), tok, nt⟩ ⟨tl l', lb cx.base out loc', upd tok nt true, nt + 1⟩ := by
  intro G0 w0 G a w he hn0 hS hL
  have hm := hS.mem
  have hgnt : G.nt = nt := hm.nt
  have hwit := hS.tmps r
  simp only at hwit
  rw [hr] at hwit
  obtain ⟨b, hbk⟩ : ∃ b, G.bx (cx.base + s) = some (b, sz) := by
    generalize hq : (AV.msl (cx.base + s) 0 es.length sz) = q at hwit
    generalize a.tmps.getD r undef = v0 at hwit
    cases hwit with
    | msl h1 h2 h3 => cases hq; exact ⟨_, h1⟩
    | _ => cases hq
  have hboxk : lb cx.base out ((s, rowsD es) :: loc) (cx.base + s) = some (rowsD es) := by rw [lb_at, lk_cons, if_pos rfl]
  obtain ⟨hkind, cs, e, hheap, hrows, hR, hone⟩ := hm.box _ _ b sz hboxk hbk
  let G1 : Gh := { bx := G.bx, kind := upd G.kind b .ex, tk := upd G.tk G.nt (some (some b)), nt := G.nt + 1 }
  let G' : Gh := { bx := upd G.bx (cx.base + s) none, kind := upd G.kind b .ex, tk := upd G.tk G.nt (some (some b)), nt := G.nt + 1 }
  have hne : ∀ {q j}, G.tk q = some (some j) → j ≠ b := fun h e => by
    obtain ⟨f, cur, e', h1, _⟩ := hm.tokb _ _ h
    rw [e, hkind] at h1; rcases h1 with h1 | h1 <;> cases h1
  have hle : Le G w G1 w := by
    refine ⟨rfl, rfl, rfl, Nat.le_refl _, fun b' _ hb' => ⟨?_, rfl⟩, fun b' f c hb' => ⟨⟨f, Nat.le_refl _, ?_⟩, fun _ _ _ => rfl⟩, fun k x hk => hk, Nat.le_succ _, fun q hq => ?_⟩
    · simp only [G1]; rw [upd_other _ _ (fun e => by rw [e, hkind] at hb'; cases hb')]; exact hb'
    · simp only [G1]; rw [upd_other _ _ (fun e => by rw [e, hkind] at hb'; cases hb')]; exact hb'
    · refine .inr ⟨by simp only [G1]; exact upd_other _ _ (by omega), fun j hj => ⟨?_, fun _ => rfl⟩⟩
      simp only [G1]; exact upd_other _ _ (hne hj)
  have hcells : ∀ (q : Addr) (u : Value), G.ps q → w.cell? q = some u → G'.ps q ∧ w.cell? q = some u := fun q u h1 h2 => hle.cells q u h1 h2
  -- what does not speak of the box
  have hok : ∀ {x : AV} {v : Value}, OkIn (· ≠ cx.base + s) (fun _ => True) x → RV G w x v → RV G' w x v := by
    intro x v hx h
    have h1 := h.mono hle
    clear h
    induction h1 with
    | bot => exact .bot
    | d h2 => exact .d h2
    | osl h2 h3 => exact .osl h2 h3
    | ptr h2 => cases hx with | ptr hp => exact .ptr (by simp only [G']; rw [upd_other _ _ hp]; exact h2)
    | cptr q u hc hr => exact .cptr q u hc hr
    | msl h2 h3 h4 => cases hx with | msl hp => exact .msl (by simp only [G']; rw [upd_other _ _ hp]; exact h2) h3 h4
    | fn hl _ ih => cases hx with | fn hp => exact .fn hl fun i h1 h2 => ih i h1 h2 (hp _ (List.getElem_mem h1))
    | agg hl _ hone ih => cases hx with | agg hp => exact .agg hl (fun i h1 h2 => ih i h1 h2 (hp _ (List.getElem_mem h1))) hone
    | tup hl _ ih => cases hx with | tup hp => exact .tup hl fun i h1 h2 => ih i h1 h2 (hp _ (List.getElem_mem h1))
    | ex h2 => exact .ex h2
  have hto : ∀ {x y : AV} {v : Value}, SeTo nt (cx.base + s) sz es x y → RV G w x v → RV G' w y v := by
    intro x y v hxy
    induction hxy generalizing v with
    | bot => exact fun _ => .bot
    | same h => exact hok h
    | msl =>
      intro h
      generalize hq : (AV.msl (cx.base + s) 0 es.length sz) = q at h
      cases h with
      | msl h1 h2 h3 =>
        cases hq
        rw [hbk] at h1
        cases h1
        refine .ex ⟨by simp only [G']; omega, ⟨_, _, _, rfl⟩, fun x hx => ?_⟩
        simp only [G', ← hgnt, upd_same, Option.some.injEq] at hx
        subst hx
        rw [rowsD_flat] at hR
        have hlen : es.flatten.length = cs.toList.length := by have := hR.1; rw [List.length_map] at this; exact this
        refine ⟨b, _, cs, e, rfl, by simp, h2, h3, by simp [G', upd_same], hheap, hsz, hlen, fun i g1 g2 => ?_, hone⟩
        have h5 := hR.2 i (by rw [List.length_map]; exact g1) g2
        simp only [List.getElem_map] at h5
        cases h5 with
        | d h6 => exact h6.mono hcells
      | _ => cases hq
    | agg hl _ ih =>
      intro h
      cases h with
      | agg hl' hh hone => exact .agg (hl.symm.trans hl') (fun i h1 h2 => ih i (by omega) h1 (hh i (by omega) h2)) hone
  have hRVs : ∀ {xs ys : List AV} {vs : List Value}, SeR nt (cx.base + s) sz es xs ys → RVs G w xs vs → RVs G' w ys vs := fun h hr => ⟨h.1.symm.trans hr.1, fun i h1 h2 => hto (h.2 i (by rw [h.1]; exact h1) h1) (hr.2 i _ h2)⟩
  refine ⟨G', ⟨hS.defers, hS.size, fun i => hto (hl.at i) (hS.tmps i), ?_⟩, ?_, ?_⟩
  · constructor
    case box =>
      intro k rows b' z hk hb'
      have e1 : k ≠ cx.base + s := fun e => by
        subst e
        simp only at hk
        rw [lb_at, hk'] at hk; cases hk
      simp only [G'] at hb'
      rw [upd_other _ _ e1] at hb'
      have hbne : b' ≠ b := fun e => by subst e; exact e1 (hm.inj _ _ _ _ _ hb' hbk)
      by_cases hkb : k < cx.base
      · simp only at hk
        rw [lb_out hkb] at hk
        obtain ⟨g1, cs', e', g2, g3, g4, g5⟩ := hm.box k rows b' z (by simp only; rw [lb_out hkb]; exact hk) hb'
        refine ⟨by simp only [G']; rw [upd_other _ _ hbne]; exact g1, cs', e', g2, g3, ⟨g4.1, fun i h1 h2 => ?_⟩, g5⟩
        have hmem : rows.flatten[i] ∈ rows.flatten := List.getElem_mem _
        obtain ⟨q, hq, hxq⟩ := List.mem_flatten.1 hmem
        have hG0 : G0.bx k ≠ none := by rw [← hL.1.bx k hkb, hb']; simp
        have := he k rows hkb (by rw [← ho]; exact hk) hG0 q hq _ hxq
        exact hok (this.imp (fun j hj => by omega) fun _ _ => trivial) (g4.2 i h1 h2)
      · have hkk : k = cx.base + (k - cx.base) := by omega
        simp only at hk
        rw [hkk, lb_at] at hk
        rcases hb.at (k - cx.base) with ⟨_, h2⟩ | ⟨r0, r', h1, h2, h3⟩
        · rw [h2] at hk; cases hk
        · rw [h2] at hk
          cases hk
          obtain ⟨g1, cs', e', g2, g3, g4, g5⟩ := hm.box k r0 b' z (by simp only; rw [hkk, lb_at, lk_cons, if_neg (by omega)]; exact h1) hb'
          refine ⟨by simp only [G']; rw [upd_other _ _ hbne]; exact g1, cs', e', g2, fun q hq => ?_, hRVs h3.flat g4, g5⟩
          obtain ⟨i, hi, rfl⟩ := List.getElem_of_mem hq
          have hi0 : i < r0.length := by rw [h3.1]; exact hi
          rw [← (h3.2 i hi0 hi).1]
          exact g3 _ (List.getElem_mem _)
    case nobox =>
      intro k hk
      simp only [G']
      by_cases e1 : k = cx.base + s
      · subst e1; simp [upd_same]
      · rw [upd_other _ _ e1]
        refine hm.nobox k ?_
        simp only at hk ⊢
        by_cases hkb : k < cx.base
        · rw [lb_out hkb] at hk ⊢; exact hk
        · have hkk : k = cx.base + (k - cx.base) := by omega
          rw [hkk, lb_at] at hk ⊢
          rw [lk_cons, if_neg (by omega)]
          rcases hb.at (k - cx.base) with ⟨h1, _⟩ | ⟨r0, r', _, h2, _⟩
          · exact h1
          · rw [h2] at hk; cases hk
    case inj =>
      intro j j' b' z z' hj hj'
      simp only [G'] at hj hj'
      by_cases e1 : j = cx.base + s
      · subst e1; simp [upd_same] at hj
      · by_cases e2 : j' = cx.base + s
        · subst e2; simp [upd_same] at hj'
        · rw [upd_other _ _ e1] at hj; rw [upd_other _ _ e2] at hj'
          exact hm.inj j j' b' z z' hj hj'
    case nb =>
      intro k hk
      have h0 := hm.nb k hk
      simp only at h0 ⊢
      by_cases hkb : k < cx.base
      · rw [lb_out hkb] at h0 ⊢; exact h0
      · have hkk : k = cx.base + (k - cx.base) := by omega
        rw [hkk, lb_at] at h0 ⊢
        by_cases e1 : k - cx.base = s
        · rw [e1]; exact hk'
        · rw [lk_cons, if_neg e1] at h0
          rcases hb.at (k - cx.base) with ⟨_, h2⟩ | ⟨r0, r', h1, _, _⟩
          · exact h2
          · rw [h1] at h0; cases h0
    case nt => simp only [G']; rw [hgnt]
    case toks =>
      intro q hq
      simp only at hq
      by_cases e1 : q = nt
      · subst e1
        exact ⟨Nat.lt_succ_self _, _, by simp only [G']; rw [hgnt, upd_same]⟩
      · rw [upd_other _ _ e1] at hq
        obtain ⟨h1, y, h2⟩ := hm.toks q hq
        exact ⟨Nat.lt_succ_of_lt h1, y, by simp only [G']; rw [hgnt, upd_other _ _ e1]; exact h2⟩
    case tokb =>
      intro q j hq
      simp only [G'] at hq
      by_cases e1 : q = G.nt
      · subst e1
        rw [upd_same] at hq
        cases hq
        exact ⟨0, cs, e, .inr (by simp [G', upd_same]), hheap⟩
      · rw [upd_other _ _ e1] at hq
        obtain ⟨f, cur, e', g1, g2⟩ := hm.tokb q j hq
        refine ⟨f, cur, e', ?_, g2⟩
        simp only [G']
        rw [upd_other _ _ (hne hq)]
        exact g1
    case tinj =>
      intro q q' j hq hq'
      simp only [G'] at hq hq'
      by_cases e1 : q = G.nt <;> by_cases e2 : q' = G.nt
      · exact e1.trans e2.symm
      · subst e1
        rw [upd_same] at hq; rw [upd_other _ _ e2] at hq'
        cases hq
        exact absurd rfl (hne hq')
      · subst e2
        rw [upd_same] at hq'; rw [upd_other _ _ e1] at hq
        cases hq'
        exact absurd rfl (hne hq)
      · rw [upd_other _ _ e1] at hq; rw [upd_other _ _ e2] at hq'
        exact hm.tinj q q' j hq hq'
    case tnt =>
      intro q y hq
      simp only [G'] at hq ⊢
      by_cases e1 : q = G.nt
      · omega
      · rw [upd_other _ _ e1] at hq
        have := hm.tnt q y hq
        omega
    case fresh =>
      intro b' hb'
      have := heap_lt hheap
      simp only [G']
      rw [upd_other _ _ (by omega)]
      exact hm.fresh b' hb'
  · refine hL.1.trans ⟨rfl, rfl, rfl, Nat.le_refl _, hle.whole, hle.part, fun k hk => ?_, hle.nt, hle.tk⟩
    simp only [G']
    exact upd_other _ _ (by omega)
  · intro k hkb hg
    have := hL.2 k hkb hg
    simp only at this ⊢
    rw [lb_out hkb] at this ⊢
    exact this

/-! ### What simp closes -/
section
variable {t k sz : Nat} {es : List (List D)}
@[simp] theorem thTo_bot (x : AV) : ThTo t k sz es x .bot := .bot
@[simp] theorem thTo_same (x : AV) : ThTo t k sz es x x := .same
@[simp] theorem thTo_ex {n : Nat} : ThTo t k sz es (.ex t sz es) (.msl k 0 n sz) ↔ n = es.length := ⟨fun h => by cases h; rfl, fun h => by subst h; exact .ex⟩
@[simp] theorem seTo_bot (x : AV) : SeTo t k sz es x .bot := .bot
@[simp] theorem seTo_d (x : D) : SeTo t k sz es (.d x) (.d x) := .same .d
@[simp] theorem seTo_osl (n : Nat) (xs : List (List D)) (o : Own) : SeTo t k sz es (.osl n xs o) (.osl n xs o) := .same (.osl fun _ _ => trivial)
@[simp] theorem seTo_msl : SeTo t k sz es (.msl k 0 es.length sz) (.ex t sz es) := .msl
end

@[simp] theorem to_ex {p : Nat → Prop} {fz : Option (Nat × Nat × List (List D))} (t sz : Nat) (es : List (List D)) : To p (fun _ => True) fz (.ex t sz es) (.ex t sz es) := .same (.ex trivial)
@[simp] theorem okIn_ex {p q : Nat → Prop} {t sz : Nat} {es : List (List D)} : OkIn p q (.ex t sz es) ↔ q t := ⟨fun h => by cases h; assumption, .ex⟩

/-! ### Tokens -/
end Go.AM
namespace Go.AM
open Go Go.Proofs
set_option linter.unusedSimpArgs false
set_option linter.unusedVariables false

/-! ### math/bits.Mul, slices.Repeat -/
abbrev U (n : Int) : AV := .d (.raw (.int .u64 n))

theorem u64_in {n : Int} (h0 : 0 ≤ n) (h1 : n ≤ 18446744073709551615) : IntKind.u64.wrap n = n := by
  exact IntWalk.u64_in n ⟨h0, h1⟩
theorem and32 {x : Nat} (h : x ≤ 1000000) : IntKind.u64.wrap ↑(x % 2 ^ IntKind.u64.bits &&& 4294967295 % 2 ^ IntKind.u64.bits) = x := by
  have e1 : x % 2 ^ IntKind.u64.bits = x := Nat.mod_eq_of_lt (by show x < 2 ^ 64; omega)
  have e2 : 4294967295 % 2 ^ IntKind.u64.bits = 2 ^ 32 - 1 := by decide
  rw [e1, e2, Nat.and_two_pow_sub_one_eq_mod, Nat.mod_eq_of_lt (by omega)]
  exact u64_in (by omega) (by omega)
theorem shr32 {x : Nat} (h : x ≤ 1000000) : (x : Int).fdiv (2 ^ min 32 IntKind.u64.bits) = 0 := by
  have e : (2 : Int) ^ min 32 IntKind.u64.bits = 4294967296 := by decide
  rw [e, Int.fdiv_eq_ediv_of_nonneg _ (by omega)]
  omega

theorem mul98_c (x y : Nat) (hx : x ≤ 1000000) (hy : y ≤ 1000000) (hxy : x * y ≤ 1000000) (tok : Nat → Bool) (nt : Nat) : DCall Tryz.prog 99 [U x, U y] tok nt (.tup [U 0, U (x * y : Nat)]) tok nt := by
  intro box nb
  have z0 : IntKind.u64.wrap 0 = 0 := u64_in (by omega) (by omega)
  have w0 : IntKind.u64.wrap ((x : Int) * y) = ((x * y : Nat) : Int) := by
    have : (x : Int) * y = ((x * y : Nat) : Int) := by simp
    rw [this]; exact u64_in (by omega) (by omega)
  have sx := shr32 hxy
  generalize x * y = p at *
  refine ACalls.of_body Tryz.func99 rfl (by kernel_rfl) follows_Tryz (by kernel_rfl) (by simp [Tryz.ntmps99]) ?_
  intro hbox htok
  simp only at hbox htok
  apply AL.start
  repeat (first | refine AL.seq ?_ | refine AL.block ?_ | refine AL.skip ?_ | refine AL.blk ?_)
  refine AL.region follows_Tryz (Nat.le_refl _) (by kernel_rfl) ?_
  simp
  repeat (first | refine AL.seq ?_ | refine AL.block ?_ | refine AL.skip ?_ | refine AL.blk ?_)
  refine AL.region follows_Tryz (Nat.le_refl _) (by kernel_rfl) ?_
  simp [and32 hx]
  repeat (first | refine AL.seq ?_ | refine AL.block ?_ | refine AL.skip ?_ | refine AL.blk ?_)
  refine AL.region follows_Tryz (Nat.le_refl _) (by kernel_rfl) ?_
  simp [shr32 hx]
  repeat (first | refine AL.seq ?_ | refine AL.block ?_ | refine AL.skip ?_ | refine AL.blk ?_)
  refine AL.region follows_Tryz (Nat.le_refl _) (by kernel_rfl) ?_
  simp [and32 hy]
  repeat (first | refine AL.seq ?_ | refine AL.block ?_ | refine AL.skip ?_ | refine AL.blk ?_)
  refine AL.region follows_Tryz (Nat.le_refl _) (by kernel_rfl) ?_
  simp [shr32 hy]
  repeat (first | refine AL.seq ?_ | refine AL.block ?_ | refine AL.skip ?_ | refine AL.blk ?_)
  refine AL.region follows_Tryz (Nat.le_refl _) (by kernel_rfl) ?_
  simp [w0]
  repeat (first | refine AL.seq ?_ | refine AL.block ?_ | refine AL.skip ?_ | refine AL.blk ?_)
  refine AL.region follows_Tryz (Nat.le_refl _) (by kernel_rfl) ?_
  simp [sx, z0]
  repeat (first | refine AL.seq ?_ | refine AL.block ?_ | refine AL.skip ?_ | refine AL.blk ?_)
  refine AL.region follows_Tryz (Nat.le_refl _) (by kernel_rfl) ?_
  simp [z0]
  repeat (first | refine AL.seq ?_ | refine AL.block ?_ | refine AL.skip ?_ | refine AL.blk ?_)
  refine AL.region follows_Tryz (Nat.le_refl _) (by kernel_rfl) ?_
  simp [z0]
  repeat (first | refine AL.seq ?_ | refine AL.block ?_ | refine AL.skip ?_ | refine AL.blk ?_)
  refine AL.region follows_Tryz (Nat.le_refl _) (by kernel_rfl) ?_
  simp [w0, sx, z0]
  repeat (first | refine AL.seq ?_ | refine AL.block ?_ | refine AL.skip ?_ | refine AL.blk ?_)
  refine AL.region follows_Tryz (Nat.le_refl _) (by kernel_rfl) ?_
  simp [z0]
  repeat (first | refine AL.seq ?_ | refine AL.block ?_ | refine AL.skip ?_ | refine AL.blk ?_)
  refine AL.region follows_Tryz (Nat.le_refl _) (by kernel_rfl) ?_
  simp [w0]
  repeat (first | refine AL.seq ?_ | refine AL.block ?_ | refine AL.skip ?_ | refine AL.blk ?_)
  refine AL.ret ?_
  try simp only [AU]
  refine ⟨by simp, Fin.data (by simp [resAs, resA]; rfl) hbox rfl htok (fun _ h => h) (Nat.le_refl _) ?_⟩
  simp [packA]

theorem mul92_c (x y : Nat) (hx : x ≤ 1000000) (hy : y ≤ 1000000) (hxy : x * y ≤ 1000000) (tok : Nat → Bool) (nt : Nat) : DCall Tryz.prog 88 [U x, U y] tok nt (.tup [U 0, U (x * y : Nat)]) tok nt := by
  intro box nb
  have c98 := fun tok nt => mul98_c x y hx hy hxy tok nt
  have wx : IntKind.u64.wrap (x : Int) = x := u64_in (by omega) (by omega)
  have wy : IntKind.u64.wrap (y : Int) = y := u64_in (by omega) (by omega)
  have wp : IntKind.u64.wrap ((x * y : Nat) : Int) = ((x * y : Nat) : Int) := u64_in (by omega) (by omega)
  have z0 : IntKind.u64.wrap 0 = 0 := u64_in (by omega) (by omega)
  generalize x * y = p at *
  refine ACalls.of_body Tryz.func88 rfl (by kernel_rfl) follows_Tryz (by kernel_rfl) (by simp [Tryz.ntmps88]) ?_
  intro hbox htok
  simp only at hbox htok
  apply AL.start
  repeat (first | refine AL.seq ?_ | refine AL.block ?_ | refine AL.skip ?_ | refine AL.blk ?_)
  refine AL.region follows_Tryz (Nat.le_refl _) (by kernel_rfl) ?_
  simp
  repeat (first | refine AL.seq ?_ | refine AL.block ?_ | refine AL.skip ?_ | refine AL.blk ?_)
  refine AL.cond ?_
  simp
  repeat (first | refine AL.seq ?_ | refine AL.block ?_ | refine AL.skip ?_ | refine AL.blk ?_)
  refine AL.region follows_Tryz (Nat.le_refl _) (by kernel_rfl) ?_
  simp [wx, wy]
  refine Stop.of_d (c98 _ _) ?_
  simp [wx, wy, z0, wp]
  repeat (first | refine AL.seq ?_ | refine AL.block ?_ | refine AL.skip ?_ | refine AL.blk ?_)
  refine AL.region follows_Tryz (Nat.le_refl _) (by kernel_rfl) ?_
  simp [z0, wp]
  repeat (first | refine AL.seq ?_ | refine AL.block ?_ | refine AL.skip ?_ | refine AL.blk ?_)
  refine AL.ret ?_
  try simp only [AU]
  refine ⟨by simp, Fin.data (by simp [resAs, resA]; rfl) hbox rfl htok (fun _ h => h) (Nat.le_refl _) ?_⟩
  simp [packA]

def repK (v : Int) (n : Nat) (i : Nat) : List Int := List.replicate i v ++ List.replicate (n - i) 0
theorem repK_len (v : Int) {n i : Nat} (h : i ≤ n) : (repK v n i).length = n := by simp [repK]; omega
theorem rowsI_append (a b : List Int) : rowsI (a ++ b) = rowsI a ++ rowsI b := by simp [rowsI]
theorem rowsI_rep (v : Int) (n : Nat) : rowsI (List.replicate n v) = List.replicate n [AV.d (.raw (.int .i64 v))] := by simp [rowsI]
@[simp] theorem rowsI_tail (l : List Int) : (rowsI l).tail = rowsI l.tail := by simp [rowsI]
theorem repK_one (v : Int) {n : Nat} (h : 0 < n) : rowsI (repK v n 1) = [AV.d (.raw (.int .i64 v))] :: List.drop 1 (rowsI (List.replicate n 0)) := by
  simp only [repK, rowsI_append, rowsI_rep, List.drop_replicate]
  rfl
theorem repK_more (v : Int) {n i m : Nat} (h1 : i + m ≤ n) (h2 : m ≤ i) : rowsI (repK v n (i + m)) = List.take i (rowsI (repK v n i)) ++ (List.take m (List.take i (rowsI (repK v n i))) ++ List.drop (i + m) (rowsI (repK v n i))) := by
  have e1 : List.take i (rowsI (repK v n i)) = List.replicate i [AV.d (.raw (.int .i64 v))] := by
    simp only [repK, rowsI_append, rowsI_rep]
    rw [List.take_append_of_le_length (by simp), List.take_of_length_le (by simp)]
  have e2 : List.drop (i + m) (rowsI (repK v n i)) = List.replicate (n - (i + m)) [AV.d (.raw (.int .i64 0))] := by
    simp only [repK, rowsI_append, rowsI_rep]
    rw [List.drop_append, List.drop_eq_nil_of_le (by simp), List.drop_replicate, List.nil_append]
    congr 1
    simp only [List.length_replicate]
    omega
  rw [e1, e2, List.take_replicate, Nat.min_eq_left h2]
  simp only [repK, rowsI_append, rowsI_rep, ← List.append_assoc, List.replicate_append_replicate]
theorem repK_all (v : Int) (n : Nat) : repK v n n = List.replicate n v := by simp [repK]
def stRep (v : Int) (n : Nat) (nb : Nat) (box : Nat → Option (List (List AV))) (tok : Nat → Bool) (nt : Nat) (i : Nat) : AState :=
  ⟨tl [(7, .msl (nb + 30) 0 n 1), (8, I i)], lb nb box [(30, rowsI (repK v n i))], tok, nt⟩

theorem repeat85_c (v : Int) (n : Nat) (hn : n ≤ 1000000) (tok : Nat → Bool) (nt : Nat) : DCall Tryz.prog 71 [.d (ints [v]), I n] tok nt (.ex nt 1 (rI (List.replicate n v))) (upd tok nt true) (nt + 1) := by
  intro box nb
  have c92 := fun tok nt => mul92_c 1 n (by omega) hn (by omega) tok nt
  have wn : IntKind.u64.wrap (n : Int) = n := u64_in (by omega) (by omega)
  have w1 : IntKind.u64.wrap 1 = 1 := u64_in (by omega) (by omega)
  have wi : IntKind.i64.wrap (n : Int) = n := wrap_in (by omega) (by omega)
  have hneg : ¬ (n : Int) < 0 := by omega
  have hbig : ¬ (9223372036854775807 : Int) < n := by omega
  simp only [Nat.one_mul, Int.natCast_one] at c92
  refine ACalls.of_body Tryz.func71 rfl (by kernel_rfl) follows_Tryz (by kernel_rfl) (by simp [Tryz.ntmps71]) ?_
  intro hbox htok
  simp only at hbox htok
  apply AL.start
  repeat (first | refine AL.seq ?_ | refine AL.block ?_ | refine AL.skip ?_ | refine AL.blk ?_)
  refine AL.region follows_Tryz (Nat.le_refl _) (by kernel_rfl) ?_
  simp
  repeat (first | refine AL.seq ?_ | refine AL.block ?_ | refine AL.skip ?_ | refine AL.blk ?_)
  refine AL.region follows_Tryz (Nat.le_refl _) (by kernel_rfl) ?_
  simp
  repeat (first | refine AL.seq ?_ | refine AL.block ?_ | refine AL.skip ?_ | refine AL.blk ?_)
  refine AL.cond ?_
  simp [hneg]
  repeat (first | refine AL.seq ?_ | refine AL.block ?_ | refine AL.skip ?_ | refine AL.blk ?_)
  refine AL.region follows_Tryz (Nat.le_refl _) (by kernel_rfl) ?_
  simp [wn, w1]
  refine Stop.of_d (c92 _ _) ?_
  simp
  repeat (first | refine AL.seq ?_ | refine AL.block ?_ | refine AL.skip ?_ | refine AL.blk ?_)
  refine AL.region follows_Tryz (Nat.le_refl _) (by kernel_rfl) ?_
  simp [hbig]
  repeat (first | refine AL.seq ?_ | refine AL.block ?_ | refine AL.skip ?_ | refine AL.blk ?_)
  refine AL.cond ?_
  simp
  repeat (first | refine AL.seq ?_ | refine AL.block ?_ | refine AL.skip ?_ | refine AL.blk ?_)
  refine AL.region follows_Tryz (Nat.le_refl _) (by kernel_rfl) ?_
  simp [wi]
  refine ⟨by omega, ?_⟩
  have fin : ∀ S, S.tmps = tl [(7, .msl (nb + 30) 0 n 1)] → S.box = lb nb box [(30, rowsI (List.replicate n v))] → S.tok = tok → S.nt = nt → Trans ⟨nb, nb + 48, 48, box⟩ nt S ⟨tl [(7, .ex nt 1 (rI (List.replicate n v)))], lb nb box [], upd tok nt true, nt + 1⟩ := by
    rintro ⟨t, b, k, m⟩ h1 h2 h3 h4
    simp only at h1 h2 h3 h4
    subst h1; subst h2; subst h3; subst h4
    rw [rowsI_eq]
    exact Trans.seal (cx := ⟨nb, nb + 48, 48, box⟩) 30 1 (rI (List.replicate n v)) 7 rfl (Nat.le_refl _) (by simp) (by simp) rfl ⟨rfl, by
      have : n = (rI (List.replicate n v)).length := by simp
      conv => lhs; rw [this]
      exact .msl, trivial⟩ trivial
  by_cases h0 : n = 0
  · subst h0
    repeat (first | refine AL.seq ?_ | refine AL.block ?_ | refine AL.skip ?_ | refine AL.blk ?_)
    refine AL.region follows_Tryz (Nat.le_refl _) (by kernel_rfl) ?_
    simp
    repeat (first | refine AL.seq ?_ | refine AL.block ?_ | refine AL.skip ?_ | refine AL.blk ?_)
    refine AL.loopT (stRep v 0 nb box tok nt) (fun i => i = 0) (fun i => 0) 0 rfl (Weaks.mk (Nat.le_refl _) rfl (by simp [ToL]) (by simp [BoxL, lk, repK])) ?_
    rintro i S hi hS
    subst hi
    simp only [stRep] at hS
    subst hS
    repeat (first | refine AL.seq ?_ | refine AL.block ?_ | refine AL.skip ?_ | refine AL.blk ?_)
    refine AL.region follows_Tryz (Nat.le_refl _) (by kernel_rfl) ?_
    simp
    repeat (first | refine AL.seq ?_ | refine AL.block ?_ | refine AL.skip ?_ | refine AL.blk ?_)
    refine AL.cond ?_
    simp
    repeat (first | refine AL.seq ?_ | refine AL.block ?_ | refine AL.skip ?_ | refine AL.blk ?_)
    refine AL.exit ?_
    simp only [AU, ↓reduceIte]
    refine AL.weak (Weaks.mk (l' := [(7, .msl (nb + 30) 0 0 1)]) (loc' := [(30, rowsI (List.replicate 0 v))]) (Nat.le_refl _) rfl (by simp [ToL, lk]) (by simp [BoxL, lk, repK])) ?_
    refine AL.trans (fin _ rfl rfl rfl rfl) ?_
    repeat (first | refine AL.seq ?_ | refine AL.block ?_ | refine AL.skip ?_ | refine AL.blk ?_)
    refine AL.region follows_Tryz (Nat.le_refl _) (by kernel_rfl) ?_
    simp
    repeat (first | refine AL.seq ?_ | refine AL.block ?_ | refine AL.skip ?_ | refine AL.blk ?_)
    refine AL.ret ?_
    try simp only [AU]
    refine ⟨by simp, Fin.own (by simp [resAs, resA]; rfl) hbox rfl (Nat.le_succ _) ?_⟩
    simp [packA]
  · have hm1 : min 1 n = 1 := by omega
    repeat (first | refine AL.seq ?_ | refine AL.block ?_ | refine AL.skip ?_ | refine AL.blk ?_)
    refine AL.region follows_Tryz (Nat.le_refl _) (by kernel_rfl) ?_
    simp [hm1]
    repeat (first | refine AL.seq ?_ | refine AL.block ?_ | refine AL.skip ?_ | refine AL.blk ?_)
    refine AL.loopT (stRep v n nb box tok nt) (fun i => 0 < i ∧ i ≤ n) (fun i => n - i) 1 ⟨by omega, by omega⟩ (Weaks.mk (Nat.le_refl _) rfl (by simp [ToL]) (by simp [BoxL, lk, repK_one v (Nat.pos_of_ne_zero h0)])) ?_
    rintro i S ⟨hi0, hi⟩ hS
    simp only [stRep] at hS
    subst hS
    have hlen := repK_len v hi
    repeat (first | refine AL.seq ?_ | refine AL.block ?_ | refine AL.skip ?_ | refine AL.blk ?_)
    refine AL.region follows_Tryz (Nat.le_refl _) (by kernel_rfl) ?_
    simp
    repeat (first | refine AL.seq ?_ | refine AL.block ?_ | refine AL.skip ?_ | refine AL.blk ?_)
    refine AL.cond ?_
    simp
    refine ⟨fun hlt => ?_, fun hge => ?_⟩
    · have hmin : min i (n - i) ≤ i := Nat.min_le_left _ _
      have hmin2 : i + min i (n - i) ≤ n := by omega
      have hmp : 0 < min i (n - i) := by omega
      have hR := repK_more v hmin2 hmin
      have hwa : IntKind.i64.wrap ((i : Int) + (min i (n - i) : Nat)) = ((i + min i (n - i) : Nat) : Int) := by rw [wrap_in (by omega) (by omega)]; rfl
      repeat (first | refine AL.seq ?_ | refine AL.block ?_ | refine AL.skip ?_ | refine AL.blk ?_)
      refine AL.region follows_Tryz (Nat.le_refl _) (by kernel_rfl) ?_
      simp [hlen]
      refine ⟨⟨by omega, by omega⟩, by omega, ⟨by omega, by omega⟩, ?_⟩
      generalize min i (n - i) = m at *
      rw [hwa]
      repeat (first | refine AL.seq ?_ | refine AL.block ?_ | refine AL.skip ?_ | refine AL.blk ?_)
      refine AL.nil ?_
      refine ⟨i + m, ⟨by omega, hmin2⟩, by omega, Weaks.mk (Nat.le_refl _) rfl (by simp [ToL, lk]) (by simp [BoxL, lk, ← hR])⟩
    · repeat (first | refine AL.seq ?_ | refine AL.block ?_ | refine AL.skip ?_ | refine AL.blk ?_)
      refine AL.exit ?_
      simp only [AU, ↓reduceIte]
      have : i = n := by omega
      subst this
      rw [repK_all]
      refine AL.weak (Weaks.mk (l' := [(7, .msl (nb + 30) 0 i 1)]) (loc' := [(30, rowsI (List.replicate i v))]) (Nat.le_refl _) rfl (by simp [ToL, lk]) (by simp [BoxL, lk])) ?_
      refine AL.trans (fin _ rfl rfl rfl rfl) ?_
      repeat (first | refine AL.seq ?_ | refine AL.block ?_ | refine AL.skip ?_ | refine AL.blk ?_)
      refine AL.region follows_Tryz (Nat.le_refl _) (by kernel_rfl) ?_
      simp
      repeat (first | refine AL.seq ?_ | refine AL.block ?_ | refine AL.skip ?_ | refine AL.blk ?_)
      refine AL.ret ?_
      try simp only [AU]
      refine ⟨by simp, Fin.own (by simp [resAs, resA]; rfl) hbox rfl (Nat.le_succ _) ?_⟩
      simp [packA]
end Go.AM
/-
  Conditions as data.
-/
namespace Go.AM
open Go Go.Proofs
set_option linter.unusedSimpArgs false
set_option linter.unusedVariables false

structure Sl where
  a : Int
  b : Int
  c : Int
  d : Int
  deriving DecidableEq, Inhabited
structure Te where
  k : Int
  a : Int
  b : Int
  c : Int
  d : Int
  deriving DecidableEq, Inhabited
abbrev Sl.cells (s : Sl) : List D := [.raw (.int .i64 s.a), .raw (.int .i64 s.b), .raw (.int .i64 s.c), .raw (.int .i64 s.d)]
abbrev Te.cells (t : Te) : List D := [.raw (.int .i64 t.k), .raw (.int .i64 t.a), .raw (.int .i64 t.b), .raw (.int .i64 t.c), .raw (.int .i64 t.d)]
abbrev slots (l : List Sl) : D := .sl 4 (l.map Sl.cells)
abbrev tests (l : List Te) : D := .sl 5 (l.map Te.cells)

/-- A condition. -/
inductive Cd where
  | mk (kind : Int) (kids : List Cd) (m : Mo) (g : Gr) (sl : List Sl) (vars : Int) (te : List Te)

def Cd.kind : Cd → Int | .mk k _ _ _ _ _ _ => k
def Cd.kids : Cd → List Cd | .mk _ c _ _ _ _ _ => c
def Cd.m : Cd → Mo | .mk _ _ m _ _ _ _ => m
def Cd.g : Cd → Gr | .mk _ _ _ g _ _ _ => g
def Cd.sl : Cd → List Sl | .mk _ _ _ _ s _ _ => s
def Cd.vars : Cd → Int | .mk _ _ _ _ _ v _ => v
def Cd.te : Cd → List Te | .mk _ _ _ _ _ _ t => t

mutual
def Cd.cells : Cd → List D
  | .mk k c m g s v t => [.raw (.int .i64 k), .sl 9 (Cd.rows c), ints m.nodes, ints m.edges, ints g.nodes, AM.edges g.edges, slots s, .raw (.int .i64 v), tests t]
def Cd.rows : List Cd → List (List D)
  | [] => []
  | x :: r => Cd.cells x :: Cd.rows r
end
theorem Cd.rows_map : ∀ l : List Cd, Cd.rows l = l.map Cd.cells
  | [] => by simp [Cd.rows]
  | x :: r => by simp [Cd.rows, Cd.rows_map r]
theorem Cd.cells_eq (c : Cd) : c.cells = [.raw (.int .i64 c.kind), .sl 9 (c.kids.map Cd.cells), ints c.m.nodes, ints c.m.edges, ints c.g.nodes, AM.edges c.g.edges, slots c.sl, .raw (.int .i64 c.vars), tests c.te] := by
  cases c
  simp [Cd.cells, Cd.rows_map, Cd.kind, Cd.kids, Cd.m, Cd.g, Cd.sl, Cd.vars, Cd.te]
abbrev conds (l : List Cd) : D := .sl 9 (l.map Cd.cells)
abbrev Cd.row (c : Cd) : List AV := [I c.kind, .d (conds c.kids), .d (ints c.m.nodes), .d (ints c.m.edges), .d (ints c.g.nodes), .d (AM.edges c.g.edges), .d (slots c.sl), I c.vars, .d (tests c.te)]
abbrev Cd.av (c : Cd) : AV := .agg c.row
theorem Cd.kid_lt {c x : Cd} (h : x ∈ c.kids) : SizeOf.sizeOf x < SizeOf.sizeOf c := by
  cases c
  simp only [Cd.kids] at h
  have := List.sizeOf_lt_of_mem h
  simp only [Cd.mk.sizeOf_spec]
  omega

/-- Lists that a machine holds. -/
def bigN : Nat := 100000000000000
theorem bigN_eq : bigN = 100000000000000 := rfl
/-- As many conditions as memory holds. -/
def kidN : Nat := 764877654105
theorem kidN_eq : kidN = 764877654105 := rfl
inductive Cd.Big : Cd → Prop
  | mk {c : Cd} (hk : c.kids.length ≤ kidN) (hmn : c.m.nodes.length ≤ bigN) (hme : c.m.edges.length ≤ bigN) (hgn : c.g.nodes.length ≤ bigN) (hge : c.g.edges.length ≤ bigN) (hs : c.sl.length ≤ bigN) (ht : c.te.length ≤ bigN)
      (h : ∀ x ∈ c.kids, Cd.Big x) : Cd.Big c
theorem Cd.Big.kids {c : Cd} (h : c.Big) : c.kids.length ≤ kidN := by cases h; assumption
theorem Cd.Big.kid {c : Cd} (h : c.Big) : ∀ x ∈ c.kids, Cd.Big x := by cases h; assumption

/-! ### Size and depth -/
def measStep (f : Cd → Int × Int) (a : Int × Int) (k : Cd) : Int × Int := (IntKind.i64.wrap (a.1 + (f k).1), max a.2 (f k).2)
mutual
def Cd.meas : Cd → Int × Int
  | .mk k c _ _ _ _ _ => let a := Cd.measL c (1, 0); if k = 5 then (a.1, IntKind.i64.wrap (a.2 + 1)) else a
def Cd.measL : List Cd → Int × Int → Int × Int
  | [], a => a
  | x :: r, a => Cd.measL r (IntKind.i64.wrap (a.1 + (Cd.meas x).1), max a.2 (Cd.meas x).2)
end
theorem Cd.measL_eq : ∀ (l : List Cd) (a : Int × Int), Cd.measL l a = l.foldl (measStep Cd.meas) a
  | [], a => by simp [Cd.measL]
  | x :: r, a => by simp [Cd.measL, Cd.measL_eq r, measStep]
def measK (l : List Cd) (i : Nat) : Int × Int := (l.take i).foldl (measStep Cd.meas) (1, 0)
theorem measK_zero (l : List Cd) : measK l 0 = (1, 0) := by simp [measK]
theorem measK_succ (l : List Cd) {i : Nat} (h : i < l.length) : measK l (i + 1) = (IntKind.i64.wrap ((measK l i).1 + (Cd.meas l[i]).1), max (measK l i).2 (Cd.meas l[i]).2) := by
  simp only [measK, List.take_succ_eq_append_getElem h, List.foldl_append, List.foldl_cons, List.foldl_nil, measStep]
theorem Cd.meas_eq (c : Cd) : c.meas = if c.kind = 5 then ((measK c.kids c.kids.length).1, IntKind.i64.wrap ((measK c.kids c.kids.length).2 + 1)) else measK c.kids c.kids.length := by
  cases c
  simp [Cd.meas, Cd.kind, Cd.kids, measK, Cd.measL_eq]

def stMe (c : Cd) (nb : Nat) (box : Nat → Option (List (List AV))) (tok : Nat → Bool) (nt : Nat) (i : Nat) : AState :=
  ⟨tl [(11, .d (conds c.kids)), (12, I c.kids.length), (13, I i), (4, I (measK c.kids i).1), (5, I (measK c.kids i).2), (1, .ptr (nb + 1) 0 0)], lb nb box [(1, [c.row])], tok, nt⟩

theorem measure_c : ∀ (n : Nat) (c : Cd), SizeOf.sizeOf c < n → c.Big → ∀ (tok : Nat → Bool) (nt : Nat), DCall Tryz.prog 42 [c.av] tok nt (.tup [I c.meas.1, I c.meas.2]) tok nt
  | 0, c, hn, _, tok, nt => absurd hn (Nat.not_lt_zero _)
  | n + 1, c, hn, hb, tok, nt => by
    intro box nb
    have ih := fun x (hx : x ∈ c.kids) => measure_c n x (by have := Cd.kid_lt hx; omega) (hb.kid x hx)
    have hkb := hb.kids
    rw [kidN_eq] at hkb
    have hR := c.meas_eq
    refine ACalls.of_body Tryz.func42 rfl (by kernel_rfl) follows_Tryz (by kernel_rfl) (by simp [Tryz.ntmps42]) ?_
    intro hbox htok
    simp only at hbox htok
    apply AL.start
    repeat (first | refine AL.seq ?_ | refine AL.block ?_ | refine AL.skip ?_ | refine AL.blk ?_)
    refine AL.region follows_Tryz (Nat.le_refl _) (by kernel_rfl) ?_
    simp
    repeat (first | refine AL.seq ?_ | refine AL.block ?_ | refine AL.skip ?_ | refine AL.blk ?_)
    refine AL.region follows_Tryz (Nat.le_refl _) (by kernel_rfl) ?_
    simp
    repeat (first | refine AL.seq ?_ | refine AL.block ?_ | refine AL.skip ?_ | refine AL.blk ?_)
    refine AL.region follows_Tryz (Nat.le_refl _) (by kernel_rfl) ?_
    simp
    repeat (first | refine AL.seq ?_ | refine AL.block ?_ | refine AL.skip ?_ | refine AL.blk ?_)
    refine AL.loopT (stMe c nb box tok nt) (fun i => i ≤ c.kids.length) (fun i => c.kids.length - i) 0 (Nat.zero_le _) (Weaks.mk (Nat.le_refl _) rfl (by simp [ToL, lk, measK_zero]) (by simp [BoxL, lk])) ?_
    rintro i S hi hS
    simp only [stMe] at hS
    subst hS
    have hw : IntKind.i64.wrap (↑i + 1) = ((i + 1 : Nat) : Int) := by rw [wrap_in (by omega) (by omega)]; rfl
    repeat (first | refine AL.seq ?_ | refine AL.block ?_ | refine AL.skip ?_ | refine AL.blk ?_)
    refine AL.region follows_Tryz (Nat.le_refl _) (by kernel_rfl) ?_
    simp
    repeat (first | refine AL.seq ?_ | refine AL.block ?_ | refine AL.skip ?_ | refine AL.blk ?_)
    refine AL.cond ?_
    simp
    refine ⟨fun hlt => ?_, fun hge => ?_⟩
    · have hS := measK_succ c.kids hlt
      have ihx := ih _ (List.getElem_mem hlt)
      repeat (first | refine AL.seq ?_ | refine AL.block ?_ | refine AL.skip ?_ | refine AL.blk ?_)
      refine AL.region follows_Tryz (Nat.le_refl _) (by kernel_rfl) ?_
      simp [hlt, Cd.cells_eq]
      generalize c.kids[i] = x at *
      repeat (first | refine AL.seq ?_ | refine AL.block ?_ | refine AL.skip ?_ | refine AL.blk ?_)
      refine AL.region follows_Tryz (Nat.le_refl _) (by kernel_rfl) ?_
      simp
      refine Stop.of_d (ihx _ _) ?_
      simp
      repeat (first | refine AL.seq ?_ | refine AL.block ?_ | refine AL.skip ?_ | refine AL.blk ?_)
      refine AL.region follows_Tryz (Nat.le_refl _) (by kernel_rfl) ?_
      simp
      repeat (first | refine AL.seq ?_ | refine AL.block ?_ | refine AL.skip ?_ | refine AL.blk ?_)
      refine AL.region follows_Tryz (Nat.le_refl _) (by kernel_rfl) ?_
      simp [hw]
      repeat (first | refine AL.seq ?_ | refine AL.block ?_ | refine AL.skip ?_ | refine AL.blk ?_)
      refine AL.nil ?_
      exact ⟨i + 1, hlt, by omega, Weaks.mk (Nat.le_refl _) rfl (by simp [ToL, lk, hS]) (by simp [BoxL, lk])⟩
    · repeat (first | refine AL.seq ?_ | refine AL.block ?_ | refine AL.skip ?_ | refine AL.blk ?_)
      refine AL.exit ?_
      simp only [AU, ↓reduceIte]
      have : i = c.kids.length := by omega
      subst this
      repeat (first | refine AL.seq ?_ | refine AL.block ?_ | refine AL.skip ?_ | refine AL.blk ?_)
      refine AL.region follows_Tryz (Nat.le_refl _) (by kernel_rfl) ?_
      simp
      by_cases h5 : c.kind = 5
      · have hb5 : (c.kind == 5) = true := by simp [h5]
        simp only [hb5]
        repeat (first | refine AL.seq ?_ | refine AL.block ?_ | refine AL.skip ?_ | refine AL.blk ?_)
        refine AL.cond ?_
        simp
        repeat (first | refine AL.seq ?_ | refine AL.block ?_ | refine AL.skip ?_ | refine AL.blk ?_)
        refine AL.region follows_Tryz (Nat.le_refl _) (by kernel_rfl) ?_
        simp
        repeat (first | refine AL.seq ?_ | refine AL.block ?_ | refine AL.skip ?_ | refine AL.blk ?_)
        refine AL.region follows_Tryz (Nat.le_refl _) (by kernel_rfl) ?_
        simp
        repeat (first | refine AL.seq ?_ | refine AL.block ?_ | refine AL.skip ?_ | refine AL.blk ?_)
        refine AL.ret ?_
        try simp only [AU]
        refine ⟨by simp, Fin.data (by simp [resAs, resA]; rfl) hbox rfl htok (fun _ h => h) (Nat.le_refl _) ?_⟩
        simp [packA, hR, h5]
      · have hb5 : (c.kind == 5) = false := by simp [h5]
        simp only [hb5]
        repeat (first | refine AL.seq ?_ | refine AL.block ?_ | refine AL.skip ?_ | refine AL.blk ?_)
        refine AL.cond ?_
        simp
        repeat (first | refine AL.seq ?_ | refine AL.block ?_ | refine AL.skip ?_ | refine AL.blk ?_)
        refine AL.region follows_Tryz (Nat.le_refl _) (by kernel_rfl) ?_
        simp
        repeat (first | refine AL.seq ?_ | refine AL.block ?_ | refine AL.skip ?_ | refine AL.blk ?_)
        refine AL.ret ?_
        try simp only [AU]
        refine ⟨by simp, Fin.data (by simp [resAs, resA]; rfl) hbox rfl htok (fun _ h => h) (Nat.le_refl _) ?_⟩
        simp [packA, hR, h5]
end Go.AM
