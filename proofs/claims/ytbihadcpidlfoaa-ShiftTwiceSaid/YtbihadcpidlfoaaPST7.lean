import Derived.Test.YtbihadcpidlfoaaPST6
namespace Go.AM
open Go Go.Proofs
set_option linter.unusedSimpArgs false
set_option linter.unusedVariables false

/-! ### What the library's Sort and Compact leave of a list -/
theorem upTo_facts (d : Array Int) (hs : ∀ i j, i ≤ j → j < d.size → d[i]! ≤ d[j]!) : ∀ m, m ≤ d.size → (Lib.compactUpTo d m).Pairwise (· < ·) ∧ ∀ x, x ∈ Lib.compactUpTo d m ↔ ∃ j, j < m ∧ d[j]! = x
  | 0, _ => ⟨List.Pairwise.nil, fun x => ⟨fun h => by simp [Lib.compactUpTo] at h, fun ⟨j, hj, _⟩ => absurd hj (Nat.not_lt_zero _)⟩⟩
  | m + 1, hm => by
    obtain ⟨h1, h2⟩ := upTo_facts d hs m (by omega)
    rw [Lib.compactUpTo_succ]
    by_cases hk : Lib.keeps d m = true
    · rw [if_pos hk]
      refine ⟨List.pairwise_append.2 ⟨h1, List.pairwise_singleton _ _, fun x hx y hy => ?_⟩, fun x => ?_⟩
      · rw [List.mem_singleton] at hy
        subst hy
        obtain ⟨j, hj, rfl⟩ := (h2 x).1 hx
        simp only [Lib.keeps, decide_eq_true_eq] at hk
        have a1 := hs j (m - 1) (by omega) (by omega)
        have a2 := hs (m - 1) m (by omega) (by omega)
        have a3 : d[m]! ≠ d[m - 1]! := by rcases hk with hk | hk; omega; exact hk
        omega
      · rw [List.mem_append, List.mem_singleton, h2]
        constructor
        · rintro (⟨j, hj, e⟩ | e)
          · exact ⟨j, by omega, e⟩
          · exact ⟨m, by omega, e.symm⟩
        · rintro ⟨j, hj, e⟩
          by_cases ej : j = m
          · subst ej; exact .inr e.symm
          · exact .inl ⟨j, by omega, e⟩
    · rw [if_neg hk, List.append_nil]
      refine ⟨h1, fun x => ?_⟩
      rw [h2]
      constructor
      · rintro ⟨j, hj, e⟩; exact ⟨j, by omega, e⟩
      · rintro ⟨j, hj, e⟩
        by_cases ej : j = m
        · subst ej
          simp only [Lib.keeps, decide_eq_true_eq, not_or, Decidable.not_not] at hk
          exact ⟨j - 1, by omega, by rw [← hk.2]; exact e⟩
        · exact ⟨j, by omega, e⟩

def sortI (l : List Int) : List Int := l.mergeSort fun x y => decide (x ≤ y)
theorem sortI_perm (l : List Int) : (sortI l).Perm l := List.mergeSort_perm l _
theorem sortI_sorted (l : List Int) : (sortI l).Pairwise (· ≤ ·) := by
  have := List.pairwise_mergeSort (le := fun x y : Int => decide (x ≤ y)) (fun a b c h1 h2 => by simp only [decide_eq_true_eq] at *; omega) (fun a b => by simp only [Bool.or_eq_true, decide_eq_true_eq]; omega) l
  exact this.imp fun h => by simpa using h
theorem sortI_arr (l : List Int) (i j : Nat) (hij : i ≤ j) (hj : j < (sortI l).toArray.size) : (sortI l).toArray[i]! ≤ (sortI l).toArray[j]! := by
  simp only [List.size_toArray] at hj
  rw [getElem!_pos _ i (by simp; omega), getElem!_pos _ j (by simpa using hj)]
  by_cases e : i = j
  · subst e; omega
  · exact List.pairwise_iff_getElem.1 (sortI_sorted l) i j (by omega) hj (by omega)

/-- The numbers of a list, in order, each once. -/
def imagesI (l : List Int) : List Int := Lib.compact (sortI l)
theorem imagesI_sorted (l : List Int) : (imagesI l).Pairwise (· < ·) := (upTo_facts (sortI l).toArray (sortI_arr l) (sortI l).length (by simp)).1
theorem imagesN_len (l : List Int) : imagesN l = (imagesI l).length := rfl

theorem imagesN_iff (l : List Int) : imagesN l = l.length ↔ l.Nodup := by
  have hl : (sortI l).length = l.length := (sortI_perm l).length_eq
  rw [imagesN_len, ← (sortI_perm l).nodup_iff, ← hl]
  constructor
  · intro h
    have h2 : ∀ j, j < (sortI l).length → Lib.keeps (sortI l).toArray j = true := by
      unfold imagesI Lib.compact Lib.compactUpTo at h
      rw [List.length_map] at h
      have h3 : (List.range (sortI l).length).filter (Lib.keeps (sortI l).toArray) = List.range (sortI l).length := List.filter_sublist.eq_of_length (by rw [h, List.length_range])
      intro j hj
      exact (List.filter_eq_self.1 h3) j (List.mem_range.2 hj)
    have h4 : imagesI l = sortI l := Lib.compact_all _ h2
    have h5 := imagesI_sorted l
    rw [h4] at h5
    exact h5.imp fun h => by omega
  · intro h
    have h4 : imagesI l = sortI l := Lib.compact_all _ fun j hj => by
      by_cases e : j = 0
      · simp [Lib.keeps, e]
      · apply Lib.keeps_pos
        rw [getElem!_pos _ j (by simpa using hj), getElem!_pos _ (j - 1) (by simp; omega)]
        intro e2
        exact List.pairwise_iff_getElem.1 h (j - 1) j (by omega) hj (by omega) e2.symm
    rw [h4]

theorem distK_nodup (l : List Int) : distK l l.length = true ↔ l.Nodup := by
  simp only [distK, List.all_eq_true, List.mem_range, decide_eq_true_eq]
  rw [List.Nodup, List.pairwise_iff_getElem]
  constructor
  · intro h i j hi hj hij e
    apply h j hj i hij
    rw [List.getD_eq_getElem?_getD, List.getD_eq_getElem?_getD, List.getElem?_eq_getElem hj, List.getElem?_eq_getElem hi]
    exact e.symm
  · intro h j hj k hkj e
    rw [List.getD_eq_getElem?_getD, List.getD_eq_getElem?_getD, List.getElem?_eq_getElem hj, List.getElem?_eq_getElem (show k < l.length by omega)] at e
    exact h k j (by omega) hj hkj e.symm

theorem images_dist (l : List Int) : decide (imagesN l = l.length) = distK l l.length := by
  rw [Bool.eq_iff_iff, decide_eq_true_eq, imagesN_iff, distK_nodup]

theorem images_beq (l : List Int) : ((imagesN l : Int) == (l.length : Int)) = distK l l.length := by
  rw [← images_dist, beqD]
  simp
  omega

/-! ### morphism.Injective -/
theorem injective56_c (a b : Gr) (m : Mo) (ha : a.Fit) (hb : b.Fit) (hm : m.Fit) (tok : Nat → Bool) (nt : Nat) : DCall Try.prog 56 [a.av, b.av, m.av] tok nt (B (injM a b m)) tok nt := by
  intro box nb
  have i1 := images_beq m.nodes
  have i2 := images_beq m.edges
  refine ACalls.of_body Try.func56 rfl (by kernel_rfl) follows_Try (by kernel_rfl) (by simp [Try.ntmps56]) ?_
  intro hbox htok
  simp only at hbox htok
  apply AL.start
  repeat (first | refine AL.seq ?_ | refine AL.block ?_ | refine AL.skip ?_ | refine AL.blk ?_)
  refine AL.region follows_Try (Nat.le_refl _) (by kernel_rfl) ?_
  simp
  repeat (first | refine AL.seq ?_ | refine AL.block ?_ | refine AL.skip ?_ | refine AL.blk ?_)
  refine AL.region follows_Try (Nat.le_refl _) (by kernel_rfl) ?_
  simp
  refine Stop.of_d (valid51_c a b m ha hb _ _) ?_
  simp
  by_cases h1 : validM a b m = 0
  · simp [h1]
    refine Stop.of_d (images88_c m.nodes hm.n _ _) ?_
    simp [h1]
    simp only [i1]
    by_cases h2 : distK m.nodes m.nodes.length = true
    · simp [h2]
      refine Stop.of_d (images88_c m.edges hm.e _ _) ?_
      simp [h1, h2, i2]
      repeat (first | refine AL.seq ?_ | refine AL.block ?_ | refine AL.skip ?_ | refine AL.blk ?_)
      refine AL.ret ?_
      try simp only [AU]
      refine ⟨by simp, Fin.data (by simp [resAs, resA]; rfl) hbox rfl htok (fun _ h => h) (Nat.le_refl _) ?_⟩
      simp [packA, injM, h1, h2]
    · have h3 : distK m.nodes m.nodes.length = false := by simpa using h2
      simp only [h3]
      simp
      repeat (first | refine AL.seq ?_ | refine AL.block ?_ | refine AL.skip ?_ | refine AL.blk ?_)
      refine AL.ret ?_
      try simp only [AU]
      refine ⟨by simp, Fin.data (by simp [resAs, resA]; rfl) hbox rfl htok (fun _ h => h) (Nat.le_refl _) ?_⟩
      simp [packA, injM, h1, h3]
  · have hb1 : (validM a b m == 0) = false := by simp [h1]
    simp only [hb1]
    try simp
    repeat (first | refine AL.seq ?_ | refine AL.block ?_ | refine AL.skip ?_ | refine AL.blk ?_)
    refine AL.ret ?_
    try simp only [AU]
    refine ⟨by simp, Fin.data (by simp [resAs, resA]; rfl) hbox rfl htok (fun _ h => h) (Nat.le_refl _) ?_⟩
    simp [packA, injM, h1]
end Go.AM
/-
  shift.Size, over, Valid, injective.
-/
namespace Go.AM
open Go Go.Proofs
set_option linter.unusedSimpArgs false
set_option linter.unusedVariables false

def sizeR (c : Cd) : Int × Int × Int := if c.shs ≠ 0 then (0, 0, c.shs) else if smallC c ≠ 0 then (0, 0, smallC c) else (c.meas.1, c.meas.2, 0)

theorem cdSize_c (c : Cd) (hb : c.Big) (tok : Nat → Bool) (nt : Nat) : DCall Try.prog 10 [c.av] tok nt (.tup [I (sizeR c).1, I (sizeR c).2.1, I (sizeR c).2.2]) tok nt := by
  intro box nb
  have hs := shapes_c _ c (Nat.lt_succ_self _) hb
  have hm := measure_c _ c (Nat.lt_succ_self _) hb
  have hl := cdSmall_c c hb
  refine ACalls.of_body Try.func10 rfl (by kernel_rfl) follows_Try (by kernel_rfl) (by simp [Try.ntmps10]) ?_
  intro hbox htok
  simp only at hbox htok
  apply AL.start
  repeat (first | refine AL.seq ?_ | refine AL.block ?_ | refine AL.skip ?_ | refine AL.blk ?_)
  refine AL.region follows_Try (Nat.le_refl _) (by kernel_rfl) ?_
  simp
  repeat (first | refine AL.seq ?_ | refine AL.block ?_ | refine AL.skip ?_ | refine AL.blk ?_)
  refine AL.region follows_Try (Nat.le_refl _) (by kernel_rfl) ?_
  simp
  refine Stop.of_d (hs _ _) ?_
  simp
  repeat (first | refine AL.seq ?_ | refine AL.block ?_ | refine AL.skip ?_ | refine AL.blk ?_)
  refine AL.region follows_Try (Nat.le_refl _) (by kernel_rfl) ?_
  simp
  by_cases h0 : c.shs = 0
  · simp only [h0]
    repeat (first | refine AL.seq ?_ | refine AL.block ?_ | refine AL.skip ?_ | refine AL.blk ?_)
    refine AL.cond ?_
    simp
    repeat (first | refine AL.seq ?_ | refine AL.block ?_ | refine AL.skip ?_ | refine AL.blk ?_)
    refine AL.region follows_Try (Nat.le_refl _) (by kernel_rfl) ?_
    simp
    refine Stop.of_d (hl _ _) ?_
    simp
    repeat (first | refine AL.seq ?_ | refine AL.block ?_ | refine AL.skip ?_ | refine AL.blk ?_)
    refine AL.region follows_Try (Nat.le_refl _) (by kernel_rfl) ?_
    simp
    by_cases h1 : smallC c = 0
    · simp only [h1]
      repeat (first | refine AL.seq ?_ | refine AL.block ?_ | refine AL.skip ?_ | refine AL.blk ?_)
      refine AL.cond ?_
      simp
      repeat (first | refine AL.seq ?_ | refine AL.block ?_ | refine AL.skip ?_ | refine AL.blk ?_)
      refine AL.region follows_Try (Nat.le_refl _) (by kernel_rfl) ?_
      simp
      refine Stop.of_d (hm _ _) ?_
      simp
      repeat (first | refine AL.seq ?_ | refine AL.block ?_ | refine AL.skip ?_ | refine AL.blk ?_)
      refine AL.region follows_Try (Nat.le_refl _) (by kernel_rfl) ?_
      simp
      repeat (first | refine AL.seq ?_ | refine AL.block ?_ | refine AL.skip ?_ | refine AL.blk ?_)
      refine AL.ret ?_
      try simp only [AU]
      refine ⟨by simp, Fin.data (by simp [resAs, resA]; rfl) hbox rfl htok (fun _ h => h) (Nat.le_refl _) ?_⟩
      simp [packA, sizeR, h0, h1]
    · have b1 : (smallC c != 0) = true := by simp [h1]
      simp only [b1]
      repeat (first | refine AL.seq ?_ | refine AL.block ?_ | refine AL.skip ?_ | refine AL.blk ?_)
      refine AL.cond ?_
      simp
      repeat (first | refine AL.seq ?_ | refine AL.block ?_ | refine AL.skip ?_ | refine AL.blk ?_)
      refine AL.region follows_Try (Nat.le_refl _) (by kernel_rfl) ?_
      simp
      repeat (first | refine AL.seq ?_ | refine AL.block ?_ | refine AL.skip ?_ | refine AL.blk ?_)
      refine AL.ret ?_
      try simp only [AU]
      refine ⟨by simp, Fin.data (by simp [resAs, resA]; rfl) hbox rfl htok (fun _ h => h) (Nat.le_refl _) ?_⟩
      simp [packA, sizeR, h0, h1]
  · have b0 : (c.shs != 0) = true := by simp [h0]
    simp only [b0]
    repeat (first | refine AL.seq ?_ | refine AL.block ?_ | refine AL.skip ?_ | refine AL.blk ?_)
    refine AL.cond ?_
    simp
    repeat (first | refine AL.seq ?_ | refine AL.block ?_ | refine AL.skip ?_ | refine AL.blk ?_)
    refine AL.region follows_Try (Nat.le_refl _) (by kernel_rfl) ?_
    simp
    repeat (first | refine AL.seq ?_ | refine AL.block ?_ | refine AL.skip ?_ | refine AL.blk ?_)
    refine AL.ret ?_
    try simp only [AU]
    refine ⟨by simp, Fin.data (by simp [resAs, resA]; rfl) hbox rfl htok (fun _ h => h) (Nat.le_refl _) ?_⟩
    simp [packA, sizeR, h0]

/-! ### Over a graph -/
inductive Cd.Fit : Cd → Prop
  | mk {c : Cd} (hk : c.kids.length ≤ kidN) (hm : c.m.Fit) (hg : c.g.Fit) (hs : c.sl.length ≤ bigN) (ht : c.te.length ≤ bigN) (h : ∀ x ∈ c.kids, Cd.Fit x) : Cd.Fit c
theorem Cd.Fit.kids {c : Cd} (h : c.Fit) : c.kids.length ≤ kidN := by cases h; assumption
theorem Cd.Fit.kid {c : Cd} (h : c.Fit) : ∀ x ∈ c.kids, Cd.Fit x := by cases h; assumption
theorem Cd.Fit.m {c : Cd} (h : c.Fit) : c.m.Fit := by cases h; assumption
theorem Cd.Fit.g {c : Cd} (h : c.Fit) : c.g.Fit := by cases h; assumption
theorem Cd.Fit.big {c : Cd} (h : c.Fit) : c.Big := by
  induction h with
  | mk hk hm hg hs ht _ ih =>
    refine ⟨hk, ?_, ?_, ?_, ?_, hs, ht, ih⟩
    · have := hm.n; rw [bigN_eq]; omega
    · have := hm.e; rw [bigN_eq]; omega
    · have := hg.n; rw [bigN_eq]; omega
    · have := hg.e; rw [bigN_eq]; omega

def ovrStep (a : Gr) (k : Int) (m : Mo) (g : Gr) : Int := if k = 5 then (if validM a g m ≠ 0 then validM a g m else if injM a g m = true then 0 else 1) else 0
mutual
def Cd.ovr : Cd → Gr → Int
  | .mk k c m g s v t, a => if shapeC (.mk k c m g s v t) = 0 then if ovrStep a k m g = 0 then Cd.ovrL c (if k = 5 then g else a) else ovrStep a k m g else shapeC (.mk k c m g s v t)
def Cd.ovrL : List Cd → Gr → Int
  | [], _ => 0
  | x :: r, a => if Cd.ovr x a = 0 then Cd.ovrL r a else Cd.ovr x a
end
theorem Cd.ovrL_eq (a : Gr) : ∀ l : List Cd, Cd.ovrL l a = errL (fun x => Cd.ovr x a) l
  | [] => by simp [Cd.ovrL, errL]
  | x :: r => by simp [Cd.ovrL, errL, Cd.ovrL_eq a r]
abbrev Cd.inn (c : Cd) (a : Gr) : Gr := if c.kind = 5 then c.g else a
theorem Cd.ovr_eq (c : Cd) (a : Gr) : c.ovr a = if shapeC c = 0 then if ovrStep a c.kind c.m c.g = 0 then errL (fun x => Cd.ovr x (c.inn a)) c.kids else ovrStep a c.kind c.m c.g else shapeC c := by
  cases c
  rw [Cd.ovr, Cd.ovrL_eq]
  rfl

theorem AL.midP {cx : Cx} {nt0 : Nat} {K : Exit → AState → Prop} {r : List CI} {S : AState} {x y : Code} (T : AState) (p : Prop)
    (h1 : AL Try.prog cx nt0 (fun e S' => match e with
      | .normal => p ∧ Weaks cx nt0 S' T
      | e => AU Try.prog cx nt0 K (.c y :: r) e S') [.c x] S) (h2 : p → AL Try.prog cx nt0 K (.c y :: r) T) : AL Try.prog cx nt0 K (.c x :: .c y :: r) S := by
  have h3 := AL.start h1
  simp only [AL] at h2 ⊢
  refine h3.mono fun e S' h => ?_
  cases e with
  | normal => exact AT.weaks h.2 (h2 h.1)
  | _ => exact h

abbrev Gr.cells2 (g : Gr) : List AV := [.d (ints g.nodes), .d (AM.edges g.edges)]
def stOv (a : Gr) (c : Cd) (nb : Nat) (box : Nat → Option (List (List AV))) (tok : Nat → Bool) (nt : Nat) (i : Nat) : AState :=
  ⟨tl [(38, .d (conds c.kids)), (39, I c.kids.length), (40, I i), (6, .ptr (nb + 6) 0 0)], lb nb box [(6, [a.cells2])], tok, nt⟩

theorem over_c : ∀ (n : Nat) (c : Cd), SizeOf.sizeOf c < n → c.Fit → ∀ (a : Gr), a.Fit → ∀ (tok : Nat → Bool) (nt : Nat), DCall Try.prog 34 [a.av, c.av] tok nt (I (c.ovr a)) tok nt
  | 0, c, hn, _, a, _, tok, nt => absurd hn (Nat.not_lt_zero _)
  | n + 1, c, hn, hb, a, ha, tok, nt => by
    intro box nb
    have ih := fun x (hx : x ∈ c.kids) => over_c n x (by have := Cd.kid_lt hx; omega) (hb.kid x hx)
    have hkb := hb.kids
    rw [kidN_eq] at hkb
    have hR := c.ovr_eq a
    have hsh := shape_c c
    have hva := valid51_c a c.g c.m ha hb.g
    have hin := injective56_c a c.g c.m ha hb.g hb.m
    have hinn : (c.inn a).Fit := by unfold Cd.inn; split; exact hb.g; exact ha
    refine ACalls.of_body Try.func34 rfl (by kernel_rfl) follows_Try (by kernel_rfl) (by simp [Try.ntmps34]) ?_
    intro hbox htok
    simp only at hbox htok
    apply AL.start
    repeat (first | refine AL.seq ?_ | refine AL.block ?_ | refine AL.skip ?_ | refine AL.blk ?_)
    refine AL.region follows_Try (Nat.le_refl _) (by kernel_rfl) ?_
    simp
    repeat (first | refine AL.seq ?_ | refine AL.block ?_ | refine AL.skip ?_ | refine AL.blk ?_)
    refine AL.region follows_Try (Nat.le_refl _) (by kernel_rfl) ?_
    simp
    refine Stop.of_d (hsh _ _) ?_
    simp
    repeat (first | refine AL.seq ?_ | refine AL.block ?_ | refine AL.skip ?_ | refine AL.blk ?_)
    refine AL.region follows_Try (Nat.le_refl _) (by kernel_rfl) ?_
    simp
    by_cases h0 : shapeC c = 0
    · simp [h0]
      repeat (first | refine AL.seq ?_ | refine AL.block ?_ | refine AL.skip ?_ | refine AL.blk ?_)
      refine AL.cond ?_
      simp
      repeat (first | refine AL.seq ?_ | refine AL.block ?_ | refine AL.skip ?_ | refine AL.blk ?_)
      refine AL.region follows_Try (Nat.le_refl _) (by kernel_rfl) ?_
      simp
      repeat (first | refine AL.seq ?_ | refine AL.block ?_ | refine AL.skip ?_ | refine AL.blk ?_)
      refine AL.region follows_Try (Nat.le_refl _) (by kernel_rfl) ?_
      simp
      refine AL.midP ⟨tl [(6, .ptr (nb + 6) 0 0), (3, .ptr (nb + 3) 0 0)], lb nb box [(6, [(c.inn a).cells2]), (3, [c.row])], tok, nt⟩ (ovrStep a c.kind c.m c.g = 0) ?_ ?_
      · have hst : ovrStep a c.kind c.m c.g = if c.kind = 5 then (if validM a c.g c.m ≠ 0 then validM a c.g c.m else if injM a c.g c.m = true then 0 else 1) else 0 := rfl
        by_cases k5 : c.kind = 5
        · have hii : c.inn a = c.g := if_pos k5
          rw [if_pos k5] at hst
          simp [k5]
          repeat (first | refine AL.seq ?_ | refine AL.block ?_ | refine AL.skip ?_ | refine AL.blk ?_)
          refine AL.cond ?_
          simp
          repeat (first | refine AL.seq ?_ | refine AL.block ?_ | refine AL.skip ?_ | refine AL.blk ?_)
          refine AL.region follows_Try (Nat.le_refl _) (by kernel_rfl) ?_
          simp
          repeat (first | refine AL.seq ?_ | refine AL.block ?_ | refine AL.skip ?_ | refine AL.blk ?_)
          refine AL.region follows_Try (Nat.le_refl _) (by kernel_rfl) ?_
          simp
          refine Stop.of_d (hva _ _) ?_
          simp
          repeat (first | refine AL.seq ?_ | refine AL.block ?_ | refine AL.skip ?_ | refine AL.blk ?_)
          refine AL.region follows_Try (Nat.le_refl _) (by kernel_rfl) ?_
          simp
          by_cases h1 : validM a c.g c.m = 0
          · rw [if_neg (by simp [h1])] at hst
            simp [h1]
            repeat (first | refine AL.seq ?_ | refine AL.block ?_ | refine AL.skip ?_ | refine AL.blk ?_)
            refine AL.cond ?_
            simp
            repeat (first | refine AL.seq ?_ | refine AL.block ?_ | refine AL.skip ?_ | refine AL.blk ?_)
            refine AL.region follows_Try (Nat.le_refl _) (by kernel_rfl) ?_
            simp
            refine Stop.of_d (hin _ _) ?_
            simp
            cases h2 : injM a c.g c.m
            · simp [h2] at hst
              repeat (first | refine AL.seq ?_ | refine AL.block ?_ | refine AL.skip ?_ | refine AL.blk ?_)
              refine AL.cond ?_
              simp
              repeat (first | refine AL.seq ?_ | refine AL.block ?_ | refine AL.skip ?_ | refine AL.blk ?_)
              refine AL.region follows_Try (Nat.le_refl _) (by kernel_rfl) ?_
              simp
              repeat (first | refine AL.seq ?_ | refine AL.block ?_ | refine AL.skip ?_ | refine AL.blk ?_)
              refine AL.ret ?_
              try simp only [AU]
              refine ⟨by simp, Fin.data (by simp [resAs, resA]; rfl) hbox rfl htok (fun _ h => h) (Nat.le_refl _) ?_⟩
              simp [packA, hR, h0, hst]
            · simp [h2] at hst
              repeat (first | refine AL.seq ?_ | refine AL.block ?_ | refine AL.skip ?_ | refine AL.blk ?_)
              refine AL.cond ?_
              simp
              repeat (first | refine AL.seq ?_ | refine AL.block ?_ | refine AL.skip ?_ | refine AL.blk ?_)
              refine AL.nil ?_
              refine ⟨by simpa [k5] using hst, ?_⟩
              exact Weaks.mk (Nat.le_refl _) rfl (by simp [ToL, lk]) (by simp [BoxL, lk, hii])
          · rw [if_pos (by simpa using h1)] at hst
            have b1 : (validM a c.g c.m != 0) = true := by simp [h1]
            simp only [b1]
            repeat (first | refine AL.seq ?_ | refine AL.block ?_ | refine AL.skip ?_ | refine AL.blk ?_)
            refine AL.cond ?_
            simp
            repeat (first | refine AL.seq ?_ | refine AL.block ?_ | refine AL.skip ?_ | refine AL.blk ?_)
            refine AL.region follows_Try (Nat.le_refl _) (by kernel_rfl) ?_
            simp
            repeat (first | refine AL.seq ?_ | refine AL.block ?_ | refine AL.skip ?_ | refine AL.blk ?_)
            refine AL.ret ?_
            try simp only [AU]
            refine ⟨by simp, Fin.data (by simp [resAs, resA]; rfl) hbox rfl htok (fun _ h => h) (Nat.le_refl _) ?_⟩
            simp [packA, hR, h0, hst, h1]
        · have hii : c.inn a = a := if_neg k5
          have n5 : (c.kind == 5) = false := by simp [k5]
          simp only [n5]
          repeat (first | refine AL.seq ?_ | refine AL.block ?_ | refine AL.skip ?_ | refine AL.blk ?_)
          refine AL.cond ?_
          simp
          repeat (first | refine AL.seq ?_ | refine AL.block ?_ | refine AL.skip ?_ | refine AL.blk ?_)
          refine AL.nil ?_
          refine ⟨by rw [hst, if_neg k5], ?_⟩
          exact Weaks.mk (Nat.le_refl _) rfl (by simp [ToL, lk]) (by simp [BoxL, lk, hii])
      · intro hst
        rw [if_pos h0, if_pos hst] at hR
        generalize c.inn a = b at *
        repeat (first | refine AL.seq ?_ | refine AL.block ?_ | refine AL.skip ?_ | refine AL.blk ?_)
        refine AL.region follows_Try (Nat.le_refl _) (by kernel_rfl) ?_
        simp
        repeat (first | refine AL.seq ?_ | refine AL.block ?_ | refine AL.skip ?_ | refine AL.blk ?_)
        refine AL.loopT (stOv b c nb box tok nt) (fun i => i ≤ c.kids.length ∧ ∀ x ∈ c.kids.take i, Cd.ovr x b = 0) (fun i => c.kids.length - i) 0 ⟨Nat.zero_le _, by simp⟩ (Weaks.mk (Nat.le_refl _) rfl (by simp [ToL, lk]) (by simp [BoxL, lk])) ?_
        rintro i S ⟨hi, hz⟩ hS
        simp only [stOv] at hS
        subst hS
        have hw : IntKind.i64.wrap (↑i + 1) = ((i + 1 : Nat) : Int) := by rw [wrap_in (by omega) (by omega)]; rfl
        repeat (first | refine AL.seq ?_ | refine AL.block ?_ | refine AL.skip ?_ | refine AL.blk ?_)
        refine AL.region follows_Try (Nat.le_refl _) (by kernel_rfl) ?_
        simp
        repeat (first | refine AL.seq ?_ | refine AL.block ?_ | refine AL.skip ?_ | refine AL.blk ?_)
        refine AL.cond ?_
        simp
        refine ⟨fun hlt => ?_, fun hge => ?_⟩
        · have ihx := fun a ha => ih _ (List.getElem_mem hlt) a ha
          have hyes := errL_more (f := fun x => Cd.ovr x b) hlt hz
          have hno := errL_at (f := fun x => Cd.ovr x b) hlt hz
          repeat (first | refine AL.seq ?_ | refine AL.block ?_ | refine AL.skip ?_ | refine AL.blk ?_)
          refine AL.region follows_Try (Nat.le_refl _) (by kernel_rfl) ?_
          simp [hlt, Cd.cells_eq]
          generalize c.kids[i] = x at *
          repeat (first | refine AL.seq ?_ | refine AL.block ?_ | refine AL.skip ?_ | refine AL.blk ?_)
          refine AL.region follows_Try (Nat.le_refl _) (by kernel_rfl) ?_
          simp
          refine Stop.of_d (ihx b hinn _ _) ?_
          simp
          repeat (first | refine AL.seq ?_ | refine AL.block ?_ | refine AL.skip ?_ | refine AL.blk ?_)
          refine AL.region follows_Try (Nat.le_refl _) (by kernel_rfl) ?_
          simp
          by_cases h1 : x.ovr b = 0
          · simp only [h1]
            repeat (first | refine AL.seq ?_ | refine AL.block ?_ | refine AL.skip ?_ | refine AL.blk ?_)
            refine AL.cond ?_
            simp
            repeat (first | refine AL.seq ?_ | refine AL.block ?_ | refine AL.skip ?_ | refine AL.blk ?_)
            refine AL.region follows_Try (Nat.le_refl _) (by kernel_rfl) ?_
            simp [hw]
            repeat (first | refine AL.seq ?_ | refine AL.block ?_ | refine AL.skip ?_ | refine AL.blk ?_)
            refine AL.nil ?_
            exact ⟨i + 1, ⟨hlt, hyes h1⟩, by omega, Weaks.mk (Nat.le_refl _) rfl (by simp [ToL, lk]) (by simp [BoxL, lk])⟩
          · have b1 : (x.ovr b != 0) = true := by simp [h1]
            simp only [b1]
            repeat (first | refine AL.seq ?_ | refine AL.block ?_ | refine AL.skip ?_ | refine AL.blk ?_)
            refine AL.cond ?_
            simp
            repeat (first | refine AL.seq ?_ | refine AL.block ?_ | refine AL.skip ?_ | refine AL.blk ?_)
            refine AL.region follows_Try (Nat.le_refl _) (by kernel_rfl) ?_
            simp
            repeat (first | refine AL.seq ?_ | refine AL.block ?_ | refine AL.skip ?_ | refine AL.blk ?_)
            refine AL.ret ?_
            try simp only [AU]
            refine ⟨by simp, Fin.data (by simp [resAs, resA]; rfl) hbox rfl htok (fun _ h => h) (Nat.le_refl _) ?_⟩
            simp [packA, hR, hno h1]
        · repeat (first | refine AL.seq ?_ | refine AL.block ?_ | refine AL.skip ?_ | refine AL.blk ?_)
          refine AL.exit ?_
          simp only [AU, ↓reduceIte]
          rw [List.take_of_length_le hge] at hz
          repeat (first | refine AL.seq ?_ | refine AL.block ?_ | refine AL.skip ?_ | refine AL.blk ?_)
          refine AL.region follows_Try (Nat.le_refl _) (by kernel_rfl) ?_
          simp
          repeat (first | refine AL.seq ?_ | refine AL.block ?_ | refine AL.skip ?_ | refine AL.blk ?_)
          refine AL.ret ?_
          try simp only [AU]
          refine ⟨by simp, Fin.data (by simp [resAs, resA]; rfl) hbox rfl htok (fun _ h => h) (Nat.le_refl _) ?_⟩
          simp [packA, hR, errL_all (f := fun x => Cd.ovr x b) hz]
    · rw [if_neg h0] at hR
      have b0 : (shapeC c != 0) = true := by simp [h0]
      simp only [b0]
      repeat (first | refine AL.seq ?_ | refine AL.block ?_ | refine AL.skip ?_ | refine AL.blk ?_)
      refine AL.cond ?_
      simp
      repeat (first | refine AL.seq ?_ | refine AL.block ?_ | refine AL.skip ?_ | refine AL.blk ?_)
      refine AL.region follows_Try (Nat.le_refl _) (by kernel_rfl) ?_
      simp
      repeat (first | refine AL.seq ?_ | refine AL.block ?_ | refine AL.skip ?_ | refine AL.blk ?_)
      refine AL.ret ?_
      try simp only [AU]
      refine ⟨by simp, Fin.data (by simp [resAs, resA]; rfl) hbox rfl htok (fun _ h => h) (Nat.le_refl _) ?_⟩
      simp [packA, hR]

def validC (a : Gr) (c : Cd) : Int := if validG a ≠ 0 then validG a else if c.ovr a ≠ 0 then c.ovr a else smallC c
theorem validC_c (a : Gr) (c : Cd) (ha : a.Fit) (hb : c.Fit) (tok : Nat → Bool) (nt : Nat) : DCall Try.prog 12 [a.av, c.av] tok nt (I (validC a c)) tok nt := by
  intro box nb
  have hg := graphValid_c a ha
  have ho := over_c _ c (Nat.lt_succ_self _) hb a ha
  have hs := cdSmall_c c hb.big
  refine ACalls.of_body Try.func12 rfl (by kernel_rfl) follows_Try (by kernel_rfl) (by simp [Try.ntmps12]) ?_
  intro hbox htok
  simp only at hbox htok
  apply AL.start
  try (simp)
  repeat ((repeat (first | refine AL.seq ?_ | refine AL.block ?_ | refine AL.skip ?_ | refine AL.blk ?_)); (refine AL.region follows_Try (Nat.le_refl _) (by kernel_rfl) ?_); simp)
  refine Stop.of_d (hg _ _) ?_
  simp
  try (simp)
  repeat ((repeat (first | refine AL.seq ?_ | refine AL.block ?_ | refine AL.skip ?_ | refine AL.blk ?_)); (refine AL.region follows_Try (Nat.le_refl _) (by kernel_rfl) ?_); simp)
  by_cases h0 : validG a = 0
  · simp only [h0]
    repeat (first | refine AL.seq ?_ | refine AL.block ?_ | refine AL.skip ?_ | refine AL.blk ?_)
    refine AL.cond ?_
    simp
    try (simp)
    repeat ((repeat (first | refine AL.seq ?_ | refine AL.block ?_ | refine AL.skip ?_ | refine AL.blk ?_)); (refine AL.region follows_Try (Nat.le_refl _) (by kernel_rfl) ?_); simp)
    refine Stop.of_d (ho _ _) ?_
    simp
    try (simp)
    repeat ((repeat (first | refine AL.seq ?_ | refine AL.block ?_ | refine AL.skip ?_ | refine AL.blk ?_)); (refine AL.region follows_Try (Nat.le_refl _) (by kernel_rfl) ?_); simp)
    by_cases h1 : c.ovr a = 0
    · simp only [h1]
      repeat (first | refine AL.seq ?_ | refine AL.block ?_ | refine AL.skip ?_ | refine AL.blk ?_)
      refine AL.cond ?_
      simp
      try (simp)
      repeat ((repeat (first | refine AL.seq ?_ | refine AL.block ?_ | refine AL.skip ?_ | refine AL.blk ?_)); (refine AL.region follows_Try (Nat.le_refl _) (by kernel_rfl) ?_); simp)
      refine Stop.of_d (hs _ _) ?_
      simp
      try (simp)
      repeat ((repeat (first | refine AL.seq ?_ | refine AL.block ?_ | refine AL.skip ?_ | refine AL.blk ?_)); (refine AL.region follows_Try (Nat.le_refl _) (by kernel_rfl) ?_); simp)
      repeat (first | refine AL.seq ?_ | refine AL.block ?_ | refine AL.skip ?_ | refine AL.blk ?_)
      refine AL.ret ?_
      try simp only [AU]
      refine ⟨by simp, Fin.data (by simp [resAs, resA]; rfl) hbox rfl htok (fun _ h => h) (Nat.le_refl _) ?_⟩
      simp [packA, validC, h0, h1]
    · have b1 : (c.ovr a != 0) = true := by simp [h1]
      simp only [b1]
      repeat (first | refine AL.seq ?_ | refine AL.block ?_ | refine AL.skip ?_ | refine AL.blk ?_)
      refine AL.cond ?_
      simp
      try (simp)
      repeat ((repeat (first | refine AL.seq ?_ | refine AL.block ?_ | refine AL.skip ?_ | refine AL.blk ?_)); (refine AL.region follows_Try (Nat.le_refl _) (by kernel_rfl) ?_); simp)
      repeat (first | refine AL.seq ?_ | refine AL.block ?_ | refine AL.skip ?_ | refine AL.blk ?_)
      refine AL.ret ?_
      try simp only [AU]
      refine ⟨by simp, Fin.data (by simp [resAs, resA]; rfl) hbox rfl htok (fun _ h => h) (Nat.le_refl _) ?_⟩
      simp [packA, validC, h0, h1]
  · have b0 : (validG a != 0) = true := by simp [h0]
    simp only [b0]
    repeat (first | refine AL.seq ?_ | refine AL.block ?_ | refine AL.skip ?_ | refine AL.blk ?_)
    refine AL.cond ?_
    simp
    try (simp)
    repeat ((repeat (first | refine AL.seq ?_ | refine AL.block ?_ | refine AL.skip ?_ | refine AL.blk ?_)); (refine AL.region follows_Try (Nat.le_refl _) (by kernel_rfl) ?_); simp)
    repeat (first | refine AL.seq ?_ | refine AL.block ?_ | refine AL.skip ?_ | refine AL.blk ?_)
    refine AL.ret ?_
    try simp only [AU]
    refine ⟨by simp, Fin.data (by simp [resAs, resA]; rfl) hbox rfl htok (fun _ h => h) (Nat.le_refl _) ?_⟩
    simp [packA, validC, h0]

def arrR (a b : Gr) (m : Mo) : Int := if validM a b m ≠ 0 then validM a b m else if injM a b m = true then 0 else 1
theorem cdInj_c (a b : Gr) (m : Mo) (ha : a.Fit) (hb : b.Fit) (hm : m.Fit) (tok : Nat → Bool) (nt : Nat) : DCall Try.prog 39 [a.av, b.av, m.av] tok nt (I (arrR a b m)) tok nt := by
  intro box nb
  have hva := valid51_c a b m ha hb
  have hin := injective56_c a b m ha hb hm
  refine ACalls.of_body Try.func39 rfl (by kernel_rfl) follows_Try (by kernel_rfl) (by simp [Try.ntmps39]) ?_
  intro hbox htok
  simp only at hbox htok
  apply AL.start
  try (simp)
  repeat ((repeat (first | refine AL.seq ?_ | refine AL.block ?_ | refine AL.skip ?_ | refine AL.blk ?_)); (refine AL.region follows_Try (Nat.le_refl _) (by kernel_rfl) ?_); simp)
  refine Stop.of_d (hva _ _) ?_
  simp
  try (simp)
  repeat ((repeat (first | refine AL.seq ?_ | refine AL.block ?_ | refine AL.skip ?_ | refine AL.blk ?_)); (refine AL.region follows_Try (Nat.le_refl _) (by kernel_rfl) ?_); simp)
  by_cases h0 : validM a b m = 0
  · simp only [h0]
    repeat (first | refine AL.seq ?_ | refine AL.block ?_ | refine AL.skip ?_ | refine AL.blk ?_)
    refine AL.cond ?_
    simp
    try (simp)
    repeat ((repeat (first | refine AL.seq ?_ | refine AL.block ?_ | refine AL.skip ?_ | refine AL.blk ?_)); (refine AL.region follows_Try (Nat.le_refl _) (by kernel_rfl) ?_); simp)
    refine Stop.of_d (hin _ _) ?_
    simp
    cases h1 : injM a b m
    · repeat (first | refine AL.seq ?_ | refine AL.block ?_ | refine AL.skip ?_ | refine AL.blk ?_)
      refine AL.cond ?_
      simp
      try (simp)
      repeat ((repeat (first | refine AL.seq ?_ | refine AL.block ?_ | refine AL.skip ?_ | refine AL.blk ?_)); (refine AL.region follows_Try (Nat.le_refl _) (by kernel_rfl) ?_); simp)
      repeat (first | refine AL.seq ?_ | refine AL.block ?_ | refine AL.skip ?_ | refine AL.blk ?_)
      refine AL.ret ?_
      try simp only [AU]
      refine ⟨by simp, Fin.data (by simp [resAs, resA]; rfl) hbox rfl htok (fun _ h => h) (Nat.le_refl _) ?_⟩
      simp [packA, arrR, h0, h1]
    · repeat (first | refine AL.seq ?_ | refine AL.block ?_ | refine AL.skip ?_ | refine AL.blk ?_)
      refine AL.cond ?_
      simp
      try (simp)
      repeat ((repeat (first | refine AL.seq ?_ | refine AL.block ?_ | refine AL.skip ?_ | refine AL.blk ?_)); (refine AL.region follows_Try (Nat.le_refl _) (by kernel_rfl) ?_); simp)
      repeat (first | refine AL.seq ?_ | refine AL.block ?_ | refine AL.skip ?_ | refine AL.blk ?_)
      refine AL.ret ?_
      try simp only [AU]
      refine ⟨by simp, Fin.data (by simp [resAs, resA]; rfl) hbox rfl htok (fun _ h => h) (Nat.le_refl _) ?_⟩
      simp [packA, arrR, h0, h1]
  · have b0 : (validM a b m != 0) = true := by simp [h0]
    simp only [b0]
    repeat (first | refine AL.seq ?_ | refine AL.block ?_ | refine AL.skip ?_ | refine AL.blk ?_)
    refine AL.cond ?_
    simp
    try (simp)
    repeat ((repeat (first | refine AL.seq ?_ | refine AL.block ?_ | refine AL.skip ?_ | refine AL.blk ?_)); (refine AL.region follows_Try (Nat.le_refl _) (by kernel_rfl) ?_); simp)
    repeat (first | refine AL.seq ?_ | refine AL.block ?_ | refine AL.skip ?_ | refine AL.blk ?_)
    refine AL.ret ?_
    try simp only [AU]
    refine ⟨by simp, Fin.data (by simp [resAs, resA]; rfl) hbox rfl htok (fun _ h => h) (Nat.le_refl _) ?_⟩
    simp [packA, arrR, h0]
end Go.AM
/-
  The reference's bare, shape, size, large, shapes, Size.
-/
namespace Go.AM
open Go Go.Proofs
set_option linter.unusedSimpArgs false
set_option linter.unusedVariables false

def sum7 (c : Cd) : Int := IntKind.i64.wrap (IntKind.i64.wrap (IntKind.i64.wrap (IntKind.i64.wrap (IntKind.i64.wrap (IntKind.i64.wrap (↑c.m.nodes.length + ↑c.m.edges.length) + ↑c.g.nodes.length) + ↑c.g.edges.length) + ↑c.sl.length) + c.vars) + ↑c.te.length)
theorem sum7_bare {c : Cd} (hb : c.Big) : (sum7 c == 0 && c.vars == 0) = unusedC c := by
  cases hb with
  | mk hk hmn hme hgn hge hs ht h =>
    rw [bigN_eq] at hmn hme hgn hge hs ht
    by_cases hv : c.vars = 0
    · have h0 : sum7 c = ((c.m.nodes.length + c.m.edges.length + c.g.nodes.length + c.g.edges.length + c.sl.length + c.te.length : Nat) : Int) := by
        unfold sum7
        rw [hv, wrap_in (n := ↑c.m.nodes.length + ↑c.m.edges.length) (by omega) (by omega)]
        rw [wrap_in (n := ↑c.m.nodes.length + ↑c.m.edges.length + ↑c.g.nodes.length) (by omega) (by omega)]
        rw [wrap_in (n := ↑c.m.nodes.length + ↑c.m.edges.length + ↑c.g.nodes.length + ↑c.g.edges.length) (by omega) (by omega)]
        rw [wrap_in (n := ↑c.m.nodes.length + ↑c.m.edges.length + ↑c.g.nodes.length + ↑c.g.edges.length + ↑c.sl.length) (by omega) (by omega)]
        rw [wrap_in (n := ↑c.m.nodes.length + ↑c.m.edges.length + ↑c.g.nodes.length + ↑c.g.edges.length + ↑c.sl.length + 0) (by omega) (by omega)]
        rw [wrap_in (by omega) (by omega)]
        omega
      rw [Bool.eq_iff_iff, h0]
      simp only [unusedC, plainC, z0, hv, Bool.and_eq_true, beq_iff_eq]
      simp only [true_and, and_true]
      omega
    · rw [Bool.eq_iff_iff]
      simp [unusedC, plainC, z0, hv]

theorem bare_c (c : Cd) (hb : c.Big) (tok : Nat → Bool) (nt : Nat) : DCall Try.prog 76 [c.av] tok nt (B (unusedC c)) tok nt := by
  intro box nb
  have hs := sum7_bare hb
  have hd := show sum7 c = IntKind.i64.wrap (IntKind.i64.wrap (IntKind.i64.wrap (IntKind.i64.wrap (IntKind.i64.wrap (IntKind.i64.wrap (↑c.m.nodes.length + ↑c.m.edges.length) + ↑c.g.nodes.length) + ↑c.g.edges.length) + ↑c.sl.length) + c.vars) + ↑c.te.length) from rfl
  refine ACalls.of_body Try.func76 rfl (by kernel_rfl) follows_Try (by kernel_rfl) (by simp [Try.ntmps76]) ?_
  intro hbox htok
  simp only at hbox htok
  apply AL.start
  try (simp)
  repeat ((repeat (first | refine AL.seq ?_ | refine AL.block ?_ | refine AL.skip ?_ | refine AL.blk ?_)); (refine AL.region follows_Try (Nat.le_refl _) (by kernel_rfl) ?_); simp)
  rw [← hd]
  cases h0 : sum7 c == 0
  · rw [h0] at hs
    simp
    try (simp)
    repeat ((repeat (first | refine AL.seq ?_ | refine AL.block ?_ | refine AL.skip ?_ | refine AL.blk ?_)); (refine AL.region follows_Try (Nat.le_refl _) (by kernel_rfl) ?_); simp)
    repeat (first | refine AL.seq ?_ | refine AL.block ?_ | refine AL.skip ?_ | refine AL.blk ?_)
    refine AL.ret ?_
    try simp only [AU]
    refine ⟨by simp, Fin.data (by simp [resAs, resA]; rfl) hbox rfl htok (fun _ h => h) (Nat.le_refl _) ?_⟩
    simp [packA, ← hs]
  · rw [h0] at hs
    simp
    try (simp)
    repeat ((repeat (first | refine AL.seq ?_ | refine AL.block ?_ | refine AL.skip ?_ | refine AL.blk ?_)); (refine AL.region follows_Try (Nat.le_refl _) (by kernel_rfl) ?_); simp)
    repeat (first | refine AL.seq ?_ | refine AL.block ?_ | refine AL.skip ?_ | refine AL.blk ?_)
    refine AL.ret ?_
    try simp only [AU]
    refine ⟨by simp, Fin.data (by simp [resAs, resA]; rfl) hbox rfl htok (fun _ h => h) (Nat.le_refl _) ?_⟩
    simp [packA, ← hs]

def stSz (c : Cd) (nb : Nat) (box : Nat → Option (List (List AV))) (tok : Nat → Bool) (nt : Nat) (i : Nat) : AState :=
  ⟨tl [(4, I (measK c.kids i).1), (5, I (measK c.kids i).2), (6, I i), (1, .ptr (nb + 1) 0 0)], lb nb box [(1, [c.row])], tok, nt⟩

theorem size25_c : ∀ (n : Nat) (c : Cd), SizeOf.sizeOf c < n → c.Big → ∀ (tok : Nat → Bool) (nt : Nat), DCall Try.prog 25 [c.av] tok nt (.tup [I c.meas.1, I c.meas.2]) tok nt
  | 0, c, hn, _, tok, nt => absurd hn (Nat.not_lt_zero _)
  | n + 1, c, hn, hb, tok, nt => by
    intro box nb
    have ih := fun x (hx : x ∈ c.kids) => size25_c n x (by have := Cd.kid_lt hx; omega) (hb.kid x hx)
    have hkb := hb.kids
    rw [kidN_eq] at hkb
    have hR := c.meas_eq
    refine ACalls.of_body Try.func25 rfl (by kernel_rfl) follows_Try (by kernel_rfl) (by simp [Try.ntmps25]) ?_
    intro hbox htok
    simp only at hbox htok
    apply AL.start
    try (simp)
    repeat ((repeat (first | refine AL.seq ?_ | refine AL.block ?_ | refine AL.skip ?_ | refine AL.blk ?_)); (refine AL.region follows_Try (Nat.le_refl _) (by kernel_rfl) ?_); simp)
    repeat (first | refine AL.seq ?_ | refine AL.block ?_ | refine AL.skip ?_ | refine AL.blk ?_)
    refine AL.loopT (stSz c nb box tok nt) (fun i => i ≤ c.kids.length) (fun i => c.kids.length - i) 0 (Nat.zero_le _) (Weaks.mk (Nat.le_refl _) rfl (by simp [ToL, lk, measK_zero]) (by simp [BoxL, lk])) ?_
    rintro i S hi hS
    simp only [stSz] at hS
    subst hS
    have hw : IntKind.i64.wrap (↑i + 1) = ((i + 1 : Nat) : Int) := by rw [wrap_in (by omega) (by omega)]; rfl
    repeat (first | refine AL.seq ?_ | refine AL.block ?_ | refine AL.skip ?_ | refine AL.blk ?_)
    refine AL.region follows_Try (Nat.le_refl _) (by kernel_rfl) ?_
    simp
    repeat (first | refine AL.seq ?_ | refine AL.block ?_ | refine AL.skip ?_ | refine AL.blk ?_)
    refine AL.cond ?_
    simp
    refine ⟨fun hlt => ?_, fun hge => ?_⟩
    · have hS := measK_succ c.kids hlt
      have ihx := ih _ (List.getElem_mem hlt)
      repeat (first | refine AL.seq ?_ | refine AL.block ?_ | refine AL.skip ?_ | refine AL.blk ?_)
      refine AL.region follows_Try (Nat.le_refl _) (by kernel_rfl) ?_
      simp [hlt, Cd.cells_eq]
      generalize c.kids[i] = x at *
      refine Stop.of_d (ihx _ _) ?_
      simp
      try (simp [hw])
      repeat ((repeat (first | refine AL.seq ?_ | refine AL.block ?_ | refine AL.skip ?_ | refine AL.blk ?_)); (refine AL.region follows_Try (Nat.le_refl _) (by kernel_rfl) ?_); simp [hw])
      repeat (first | refine AL.seq ?_ | refine AL.block ?_ | refine AL.skip ?_ | refine AL.blk ?_)
      refine AL.nil ?_
      exact ⟨i + 1, hlt, by omega, Weaks.mk (Nat.le_refl _) rfl (by simp [ToL, lk, hS]) (by simp [BoxL, lk])⟩
    · repeat (first | refine AL.seq ?_ | refine AL.block ?_ | refine AL.skip ?_ | refine AL.blk ?_)
      refine AL.exit ?_
      simp only [AU, ↓reduceIte]
      have : i = c.kids.length := by omega
      subst this
      try (simp)
      repeat ((repeat (first | refine AL.seq ?_ | refine AL.block ?_ | refine AL.skip ?_ | refine AL.blk ?_)); (refine AL.region follows_Try (Nat.le_refl _) (by kernel_rfl) ?_); simp)
      by_cases h5 : c.kind = 5
      · have hb5 : (c.kind == 5) = true := by simp [h5]
        simp only [hb5]
        repeat (first | refine AL.seq ?_ | refine AL.block ?_ | refine AL.skip ?_ | refine AL.blk ?_)
        refine AL.cond ?_
        simp
        try (simp)
        repeat ((repeat (first | refine AL.seq ?_ | refine AL.block ?_ | refine AL.skip ?_ | refine AL.blk ?_)); (refine AL.region follows_Try (Nat.le_refl _) (by kernel_rfl) ?_); simp)
        repeat (first | refine AL.seq ?_ | refine AL.block ?_ | refine AL.skip ?_ | refine AL.blk ?_)
        refine AL.ret ?_
        try simp only [AU]
        refine ⟨by simp, Fin.data (by simp [resAs, resA]; rfl) hbox rfl htok (fun _ h => h) (Nat.le_refl _) ?_⟩
        simp [packA, hR, h5]
      · have hb5 : (c.kind == 5) = false := by simp [h5]
        simp only [hb5]
        repeat (first | refine AL.seq ?_ | refine AL.block ?_ | refine AL.skip ?_ | refine AL.blk ?_)
        refine AL.cond ?_
        simp
        try (simp)
        repeat ((repeat (first | refine AL.seq ?_ | refine AL.block ?_ | refine AL.skip ?_ | refine AL.blk ?_)); (refine AL.region follows_Try (Nat.le_refl _) (by kernel_rfl) ?_); simp)
        repeat (first | refine AL.seq ?_ | refine AL.block ?_ | refine AL.skip ?_ | refine AL.blk ?_)
        refine AL.ret ?_
        try simp only [AU]
        refine ⟨by simp, Fin.data (by simp [resAs, resA]; rfl) hbox rfl htok (fun _ h => h) (Nat.le_refl _) ?_⟩
        simp [packA, hR, h5]

theorem large32_c (c : Cd) (hb : c.Big) (tok : Nat → Bool) (nt : Nat) : DCall Try.prog 32 [c.av] tok nt (I (smallC c)) tok nt := by
  intro box nb
  have hm := size25_c _ c (Nat.lt_succ_self _) hb
  unfold smallC
  generalize c.meas = q at *
  refine ACalls.of_body Try.func32 rfl (by kernel_rfl) follows_Try (by kernel_rfl) (by simp [Try.ntmps32]) ?_
  intro hbox htok
  simp only at hbox htok
  apply AL.start
  try (simp)
  repeat ((repeat (first | refine AL.seq ?_ | refine AL.block ?_ | refine AL.skip ?_ | refine AL.blk ?_)); (refine AL.region follows_Try (Nat.le_refl _) (by kernel_rfl) ?_); simp)
  refine Stop.of_d (hm _ _) ?_
  simp
  try (simp)
  repeat ((repeat (first | refine AL.seq ?_ | refine AL.block ?_ | refine AL.skip ?_ | refine AL.blk ?_)); (refine AL.region follows_Try (Nat.le_refl _) (by kernel_rfl) ?_); simp)
  by_cases h1 : 2000 < q.1
  · simp [h1]
    try (simp)
    repeat ((repeat (first | refine AL.seq ?_ | refine AL.block ?_ | refine AL.skip ?_ | refine AL.blk ?_)); (refine AL.region follows_Try (Nat.le_refl _) (by kernel_rfl) ?_); simp)
    repeat (first | refine AL.seq ?_ | refine AL.block ?_ | refine AL.skip ?_ | refine AL.blk ?_)
    refine AL.cond ?_
    simp
    try (simp)
    repeat ((repeat (first | refine AL.seq ?_ | refine AL.block ?_ | refine AL.skip ?_ | refine AL.blk ?_)); (refine AL.region follows_Try (Nat.le_refl _) (by kernel_rfl) ?_); simp)
    repeat (first | refine AL.seq ?_ | refine AL.block ?_ | refine AL.skip ?_ | refine AL.blk ?_)
    refine AL.ret ?_
    try simp only [AU]
    refine ⟨by simp, Fin.data (by simp [resAs, resA]; rfl) hbox rfl htok (fun _ h => h) (Nat.le_refl _) ?_⟩
    simp [packA, h1]
  · by_cases h2 : 3 < q.2
    · simp [h1, h2]
      try (simp)
      repeat ((repeat (first | refine AL.seq ?_ | refine AL.block ?_ | refine AL.skip ?_ | refine AL.blk ?_)); (refine AL.region follows_Try (Nat.le_refl _) (by kernel_rfl) ?_); simp)
      repeat (first | refine AL.seq ?_ | refine AL.block ?_ | refine AL.skip ?_ | refine AL.blk ?_)
      refine AL.cond ?_
      simp
      try (simp)
      repeat ((repeat (first | refine AL.seq ?_ | refine AL.block ?_ | refine AL.skip ?_ | refine AL.blk ?_)); (refine AL.region follows_Try (Nat.le_refl _) (by kernel_rfl) ?_); simp)
      repeat (first | refine AL.seq ?_ | refine AL.block ?_ | refine AL.skip ?_ | refine AL.blk ?_)
      refine AL.ret ?_
      try simp only [AU]
      refine ⟨by simp, Fin.data (by simp [resAs, resA]; rfl) hbox rfl htok (fun _ h => h) (Nat.le_refl _) ?_⟩
      simp [packA, h1, h2]
    · simp [h1, h2]
      try (simp)
      repeat ((repeat (first | refine AL.seq ?_ | refine AL.block ?_ | refine AL.skip ?_ | refine AL.blk ?_)); (refine AL.region follows_Try (Nat.le_refl _) (by kernel_rfl) ?_); simp)
      repeat (first | refine AL.seq ?_ | refine AL.block ?_ | refine AL.skip ?_ | refine AL.blk ?_)
      refine AL.cond ?_
      simp
      try (simp)
      repeat ((repeat (first | refine AL.seq ?_ | refine AL.block ?_ | refine AL.skip ?_ | refine AL.blk ?_)); (refine AL.region follows_Try (Nat.le_refl _) (by kernel_rfl) ?_); simp)
      repeat (first | refine AL.seq ?_ | refine AL.block ?_ | refine AL.skip ?_ | refine AL.blk ?_)
      refine AL.ret ?_
      try simp only [AU]
      refine ⟨by simp, Fin.data (by simp [resAs, resA]; rfl) hbox rfl htok (fun _ h => h) (Nat.le_refl _) ?_⟩
      simp [packA, h1, h2]

theorem unused_plain {c : Cd} (h : unusedC c = true) : plainC c = true := by
  simp only [unusedC, Bool.and_eq_true] at h
  exact h.2.2.2.2

theorem shape48_c (c : Cd) (hb : c.Big) (tok : Nat → Bool) (nt : Nat) : DCall Try.prog 48 [c.av] tok nt (I (shapeC c)) tok nt := by
  intro box nb
  have hba := bare_c c hb
  refine ACalls.of_body Try.func48 rfl (by kernel_rfl) follows_Try (by kernel_rfl) (by simp [Try.ntmps48]) ?_
  intro hbox htok
  simp only at hbox htok
  apply AL.start
  try (simp)
  repeat ((repeat (first | refine AL.seq ?_ | refine AL.block ?_ | refine AL.skip ?_ | refine AL.blk ?_)); (refine AL.region follows_Try (Nat.le_refl _) (by kernel_rfl) ?_); simp)
  have hpl := fun h => unused_plain (c := c) h
  by_cases k1 : c.kind = 1
  · have b1 : (c.kind == 1) = true := by simp [k1]
    simp only [b1]
    repeat (first | refine AL.seq ?_ | refine AL.block ?_ | refine AL.skip ?_ | refine AL.blk ?_)
    refine AL.cond ?_
    simp
    by_cases h1 : 0 < c.kids.length
    · have hk0 : c.kids ≠ [] := by intro e; simp [e] at h1
      try (simp [h1])
      repeat ((repeat (first | refine AL.seq ?_ | refine AL.block ?_ | refine AL.skip ?_ | refine AL.blk ?_)); (refine AL.region follows_Try (Nat.le_refl _) (by kernel_rfl) ?_); simp [h1])
      repeat (first | refine AL.seq ?_ | refine AL.block ?_ | refine AL.skip ?_ | refine AL.blk ?_)
      refine AL.cond ?_
      simp
      try (simp)
      repeat ((repeat (first | refine AL.seq ?_ | refine AL.block ?_ | refine AL.skip ?_ | refine AL.blk ?_)); (refine AL.region follows_Try (Nat.le_refl _) (by kernel_rfl) ?_); simp)
      repeat (first | refine AL.seq ?_ | refine AL.block ?_ | refine AL.skip ?_ | refine AL.blk ?_)
      refine AL.ret ?_
      try simp only [AU]
      refine ⟨by simp, Fin.data (by simp [resAs, resA]; rfl) hbox rfl htok (fun _ h => h) (Nat.le_refl _) ?_⟩
      simp [packA, shapeC, okC, k1, h1, z0, hk0]
    · have hk0 : c.kids = [] := by simpa using h1
      try (simp [h1])
      repeat ((repeat (first | refine AL.seq ?_ | refine AL.block ?_ | refine AL.skip ?_ | refine AL.blk ?_)); (refine AL.region follows_Try (Nat.le_refl _) (by kernel_rfl) ?_); simp [h1])
      refine Stop.of_d (hba _ _) ?_
      simp
      try (simp)
      repeat ((repeat (first | refine AL.seq ?_ | refine AL.block ?_ | refine AL.skip ?_ | refine AL.blk ?_)); (refine AL.region follows_Try (Nat.le_refl _) (by kernel_rfl) ?_); simp)
      cases hu : unusedC c
      · repeat (first | refine AL.seq ?_ | refine AL.block ?_ | refine AL.skip ?_ | refine AL.blk ?_)
        refine AL.cond ?_
        simp
        try (simp)
        repeat ((repeat (first | refine AL.seq ?_ | refine AL.block ?_ | refine AL.skip ?_ | refine AL.blk ?_)); (refine AL.region follows_Try (Nat.le_refl _) (by kernel_rfl) ?_); simp)
        repeat (first | refine AL.seq ?_ | refine AL.block ?_ | refine AL.skip ?_ | refine AL.blk ?_)
        refine AL.ret ?_
        try simp only [AU]
        refine ⟨by simp, Fin.data (by simp [resAs, resA]; rfl) hbox rfl htok (fun _ h => h) (Nat.le_refl _) ?_⟩
        simp [packA, shapeC, okC, k1, h1, z0, hk0, hu]
      · repeat (first | refine AL.seq ?_ | refine AL.block ?_ | refine AL.skip ?_ | refine AL.blk ?_)
        refine AL.cond ?_
        simp
        try (simp)
        repeat ((repeat (first | refine AL.seq ?_ | refine AL.block ?_ | refine AL.skip ?_ | refine AL.blk ?_)); (refine AL.region follows_Try (Nat.le_refl _) (by kernel_rfl) ?_); simp)
        repeat (first | refine AL.seq ?_ | refine AL.block ?_ | refine AL.skip ?_ | refine AL.blk ?_)
        refine AL.ret ?_
        try simp only [AU]
        refine ⟨by simp, Fin.data (by simp [resAs, resA]; rfl) hbox rfl htok (fun _ h => h) (Nat.le_refl _) ?_⟩
        simp [packA, shapeC, okC, k1, h1, z0, hk0, hu, hpl hu]
  · have b1 : (c.kind == 1) = false := by simp [k1]
    simp only [b1]
    repeat (first | refine AL.seq ?_ | refine AL.block ?_ | refine AL.skip ?_ | refine AL.blk ?_)
    refine AL.cond ?_
    simp
    try (simp)
    repeat ((repeat (first | refine AL.seq ?_ | refine AL.block ?_ | refine AL.skip ?_ | refine AL.blk ?_)); (refine AL.region follows_Try (Nat.le_refl _) (by kernel_rfl) ?_); simp)
    by_cases k2 : c.kind = 2
    · have b2 : (c.kind == 2) = true := by simp [k2]
      simp only [b2]
      repeat (first | refine AL.seq ?_ | refine AL.block ?_ | refine AL.skip ?_ | refine AL.blk ?_)
      refine AL.cond ?_
      simp
      by_cases h1 : (c.kids.length : Int) = 1
      · have n1 : ((c.kids.length : Int) != 1) = false := by simp [h1]
        try (simp [n1])
        repeat ((repeat (first | refine AL.seq ?_ | refine AL.block ?_ | refine AL.skip ?_ | refine AL.blk ?_)); (refine AL.region follows_Try (Nat.le_refl _) (by kernel_rfl) ?_); simp [n1])
        refine Stop.of_d (hba _ _) ?_
        simp
        try (simp)
        repeat ((repeat (first | refine AL.seq ?_ | refine AL.block ?_ | refine AL.skip ?_ | refine AL.blk ?_)); (refine AL.region follows_Try (Nat.le_refl _) (by kernel_rfl) ?_); simp)
        cases hu : unusedC c
        · repeat (first | refine AL.seq ?_ | refine AL.block ?_ | refine AL.skip ?_ | refine AL.blk ?_)
          refine AL.cond ?_
          simp
          try (simp)
          repeat ((repeat (first | refine AL.seq ?_ | refine AL.block ?_ | refine AL.skip ?_ | refine AL.blk ?_)); (refine AL.region follows_Try (Nat.le_refl _) (by kernel_rfl) ?_); simp)
          repeat (first | refine AL.seq ?_ | refine AL.block ?_ | refine AL.skip ?_ | refine AL.blk ?_)
          refine AL.ret ?_
          try simp only [AU]
          refine ⟨by simp, Fin.data (by simp [resAs, resA]; rfl) hbox rfl htok (fun _ h => h) (Nat.le_refl _) ?_⟩
          simp [packA, shapeC, okC, k2, h1, z0, hu]
        · repeat (first | refine AL.seq ?_ | refine AL.block ?_ | refine AL.skip ?_ | refine AL.blk ?_)
          refine AL.cond ?_
          simp
          try (simp)
          repeat ((repeat (first | refine AL.seq ?_ | refine AL.block ?_ | refine AL.skip ?_ | refine AL.blk ?_)); (refine AL.region follows_Try (Nat.le_refl _) (by kernel_rfl) ?_); simp)
          repeat (first | refine AL.seq ?_ | refine AL.block ?_ | refine AL.skip ?_ | refine AL.blk ?_)
          refine AL.ret ?_
          try simp only [AU]
          refine ⟨by simp, Fin.data (by simp [resAs, resA]; rfl) hbox rfl htok (fun _ h => h) (Nat.le_refl _) ?_⟩
          simp [packA, shapeC, okC, k2, h1, z0, hu, hpl hu]
      · have n1 : ((c.kids.length : Int) != 1) = true := by simp [h1]
        try (simp [n1])
        repeat ((repeat (first | refine AL.seq ?_ | refine AL.block ?_ | refine AL.skip ?_ | refine AL.blk ?_)); (refine AL.region follows_Try (Nat.le_refl _) (by kernel_rfl) ?_); simp [n1])
        repeat (first | refine AL.seq ?_ | refine AL.block ?_ | refine AL.skip ?_ | refine AL.blk ?_)
        refine AL.cond ?_
        simp
        try (simp)
        repeat ((repeat (first | refine AL.seq ?_ | refine AL.block ?_ | refine AL.skip ?_ | refine AL.blk ?_)); (refine AL.region follows_Try (Nat.le_refl _) (by kernel_rfl) ?_); simp)
        repeat (first | refine AL.seq ?_ | refine AL.block ?_ | refine AL.skip ?_ | refine AL.blk ?_)
        refine AL.ret ?_
        try simp only [AU]
        refine ⟨by simp, Fin.data (by simp [resAs, resA]; rfl) hbox rfl htok (fun _ h => h) (Nat.le_refl _) ?_⟩
        simp [packA, shapeC, okC, k2, h1, z0]
    · have b2 : (c.kind == 2) = false := by simp [k2]
      simp only [b2]
      repeat (first | refine AL.seq ?_ | refine AL.block ?_ | refine AL.skip ?_ | refine AL.blk ?_)
      refine AL.cond ?_
      simp
      try (simp)
      repeat ((repeat (first | refine AL.seq ?_ | refine AL.block ?_ | refine AL.skip ?_ | refine AL.blk ?_)); (refine AL.region follows_Try (Nat.le_refl _) (by kernel_rfl) ?_); simp)
      refine AL.mid ⟨tl [(27, B (decide (c.kind = 3 ∨ c.kind = 4))), (8, I c.kind), (3, I c.kids.length), (1, .ptr (nb + 1) 0 0), (2, I 0)], lb nb box [(1, [c.row])], tok, nt⟩ ?_ ?_
      · by_cases k3 : c.kind = 3
        · have b3 : (c.kind == 3) = true := by simp [k3]
          simp only [b3]
          repeat (first | refine AL.seq ?_ | refine AL.block ?_ | refine AL.skip ?_ | refine AL.blk ?_)
          refine AL.cond ?_
          simp
          try (simp)
          repeat ((repeat (first | refine AL.seq ?_ | refine AL.block ?_ | refine AL.skip ?_ | refine AL.blk ?_)); (refine AL.region follows_Try (Nat.le_refl _) (by kernel_rfl) ?_); simp)
          repeat (first | refine AL.seq ?_ | refine AL.block ?_ | refine AL.skip ?_ | refine AL.blk ?_)
          refine AL.nil ?_
          exact Weaks.mk (Nat.le_refl _) rfl (by simp [ToL, lk, k3]) (by simp [BoxL, lk])
        · have b3 : (c.kind == 3) = false := by simp [k3]
          simp only [b3]
          repeat (first | refine AL.seq ?_ | refine AL.block ?_ | refine AL.skip ?_ | refine AL.blk ?_)
          refine AL.cond ?_
          simp
          try (simp)
          repeat ((repeat (first | refine AL.seq ?_ | refine AL.block ?_ | refine AL.skip ?_ | refine AL.blk ?_)); (refine AL.region follows_Try (Nat.le_refl _) (by kernel_rfl) ?_); simp)
          by_cases k4 : c.kind = 4
          · try (simp)
            repeat ((repeat (first | refine AL.seq ?_ | refine AL.block ?_ | refine AL.skip ?_ | refine AL.blk ?_)); (refine AL.region follows_Try (Nat.le_refl _) (by kernel_rfl) ?_); simp)
            repeat (first | refine AL.seq ?_ | refine AL.block ?_ | refine AL.skip ?_ | refine AL.blk ?_)
            refine AL.nil ?_
            exact Weaks.mk (Nat.le_refl _) rfl (by simp [ToL, lk, k4]) (by simp [BoxL, lk])
          · have n4 : (c.kind == 4) = false := by simp [k4]
            try (simp)
            repeat ((repeat (first | refine AL.seq ?_ | refine AL.block ?_ | refine AL.skip ?_ | refine AL.blk ?_)); (refine AL.region follows_Try (Nat.le_refl _) (by kernel_rfl) ?_); simp)
            repeat (first | refine AL.seq ?_ | refine AL.block ?_ | refine AL.skip ?_ | refine AL.blk ?_)
            refine AL.nil ?_
            exact Weaks.mk (Nat.le_refl _) rfl (by simp [ToL, lk, k3, k4, n4]) (by simp [BoxL, lk])
      · by_cases k34 : c.kind = 3 ∨ c.kind = 4
        · have d34 : decide (c.kind = 3 ∨ c.kind = 4) = true := decide_eq_true k34
          simp only [d34]
          repeat (first | refine AL.seq ?_ | refine AL.block ?_ | refine AL.skip ?_ | refine AL.blk ?_)
          refine AL.cond ?_
          simp
          by_cases h1 : c.kids.length = 0
          · have n1 : ((c.kids.length : Int) == 0) = true := by simp [h1]
            have hk0 : c.kids = [] := by simpa using h1
            try (simp [n1, h1])
            repeat ((repeat (first | refine AL.seq ?_ | refine AL.block ?_ | refine AL.skip ?_ | refine AL.blk ?_)); (refine AL.region follows_Try (Nat.le_refl _) (by kernel_rfl) ?_); simp [n1, h1])
            repeat (first | refine AL.seq ?_ | refine AL.block ?_ | refine AL.skip ?_ | refine AL.blk ?_)
            refine AL.cond ?_
            simp
            try (simp)
            repeat ((repeat (first | refine AL.seq ?_ | refine AL.block ?_ | refine AL.skip ?_ | refine AL.blk ?_)); (refine AL.region follows_Try (Nat.le_refl _) (by kernel_rfl) ?_); simp)
            repeat (first | refine AL.seq ?_ | refine AL.block ?_ | refine AL.skip ?_ | refine AL.blk ?_)
            refine AL.ret ?_
            try simp only [AU]
            refine ⟨by simp, Fin.data (by simp [resAs, resA]; rfl) hbox rfl htok (fun _ h => h) (Nat.le_refl _) ?_⟩
            simp [packA, shapeC, okC, k1, k2, k34, h1]
          · have n1 : ((c.kids.length : Int) == 0) = false := by simp [h1]
            have hk0 : c.kids ≠ [] := by intro e; simp [e] at h1
            have hk1 : 0 < c.kids.length := by omega
            try (simp [n1, hk0])
            repeat ((repeat (first | refine AL.seq ?_ | refine AL.block ?_ | refine AL.skip ?_ | refine AL.blk ?_)); (refine AL.region follows_Try (Nat.le_refl _) (by kernel_rfl) ?_); simp [n1, hk0])
            refine Stop.of_d (hba _ _) ?_
            simp
            try (simp)
            repeat ((repeat (first | refine AL.seq ?_ | refine AL.block ?_ | refine AL.skip ?_ | refine AL.blk ?_)); (refine AL.region follows_Try (Nat.le_refl _) (by kernel_rfl) ?_); simp)
            cases hu : unusedC c
            · repeat (first | refine AL.seq ?_ | refine AL.block ?_ | refine AL.skip ?_ | refine AL.blk ?_)
              refine AL.cond ?_
              simp
              try (simp)
              repeat ((repeat (first | refine AL.seq ?_ | refine AL.block ?_ | refine AL.skip ?_ | refine AL.blk ?_)); (refine AL.region follows_Try (Nat.le_refl _) (by kernel_rfl) ?_); simp)
              repeat (first | refine AL.seq ?_ | refine AL.block ?_ | refine AL.skip ?_ | refine AL.blk ?_)
              refine AL.ret ?_
              try simp only [AU]
              refine ⟨by simp, Fin.data (by simp [resAs, resA]; rfl) hbox rfl htok (fun _ h => h) (Nat.le_refl _) ?_⟩
              simp [packA, shapeC, okC, k1, k2, k34, hk1, hu]
            · repeat (first | refine AL.seq ?_ | refine AL.block ?_ | refine AL.skip ?_ | refine AL.blk ?_)
              refine AL.cond ?_
              simp
              try (simp)
              repeat ((repeat (first | refine AL.seq ?_ | refine AL.block ?_ | refine AL.skip ?_ | refine AL.blk ?_)); (refine AL.region follows_Try (Nat.le_refl _) (by kernel_rfl) ?_); simp)
              repeat (first | refine AL.seq ?_ | refine AL.block ?_ | refine AL.skip ?_ | refine AL.blk ?_)
              refine AL.ret ?_
              try simp only [AU]
              refine ⟨by simp, Fin.data (by simp [resAs, resA]; rfl) hbox rfl htok (fun _ h => h) (Nat.le_refl _) ?_⟩
              simp [packA, shapeC, okC, k1, k2, k34, hk1, hu, hpl hu]
        · have d34 : decide (c.kind = 3 ∨ c.kind = 4) = false := decide_eq_false k34
          simp only [d34]
          repeat (first | refine AL.seq ?_ | refine AL.block ?_ | refine AL.skip ?_ | refine AL.blk ?_)
          refine AL.cond ?_
          simp
          try (simp)
          repeat ((repeat (first | refine AL.seq ?_ | refine AL.block ?_ | refine AL.skip ?_ | refine AL.blk ?_)); (refine AL.region follows_Try (Nat.le_refl _) (by kernel_rfl) ?_); simp)
          by_cases k5 : c.kind = 5
          · have n5 : (c.kind == 5) = true := by simp [k5]
            have h3 : ¬ ((5 : Int) = 3 ∨ (5 : Int) = 4) := by decide
            simp only [n5]
            repeat (first | refine AL.seq ?_ | refine AL.block ?_ | refine AL.skip ?_ | refine AL.blk ?_)
            refine AL.cond ?_
            simp
            try (simp)
            repeat ((repeat (first | refine AL.seq ?_ | refine AL.block ?_ | refine AL.skip ?_ | refine AL.blk ?_)); (refine AL.region follows_Try (Nat.le_refl _) (by kernel_rfl) ?_); simp)
            by_cases h1 : (c.kids.length : Int) = 1
            · have n1 : ((c.kids.length : Int) != 1) = false := by simp [h1]
              simp only [n1]
              repeat (first | refine AL.seq ?_ | refine AL.block ?_ | refine AL.skip ?_ | refine AL.blk ?_)
              refine AL.cond ?_
              simp
              by_cases h4 : 0 < c.sl.length
              · have hp : plainC c = false := by simp [plainC, z0]; intro e; simp [e] at h4
                try (simp [h4])
                repeat ((repeat (first | refine AL.seq ?_ | refine AL.block ?_ | refine AL.skip ?_ | refine AL.blk ?_)); (refine AL.region follows_Try (Nat.le_refl _) (by kernel_rfl) ?_); simp [h4])
                repeat (first | refine AL.seq ?_ | refine AL.block ?_ | refine AL.skip ?_ | refine AL.blk ?_)
                refine AL.cond ?_
                simp
                try (simp)
                repeat ((repeat (first | refine AL.seq ?_ | refine AL.block ?_ | refine AL.skip ?_ | refine AL.blk ?_)); (refine AL.region follows_Try (Nat.le_refl _) (by kernel_rfl) ?_); simp)
                repeat (first | refine AL.seq ?_ | refine AL.block ?_ | refine AL.skip ?_ | refine AL.blk ?_)
                refine AL.ret ?_
                try simp only [AU]
                refine ⟨by simp, Fin.data (by simp [resAs, resA]; rfl) hbox rfl htok (fun _ h => h) (Nat.le_refl _) ?_⟩
                simp [packA, shapeC, okC, k5, h1, hp]
              · have h4' : c.sl = [] := by simpa using h4
                by_cases h5 : c.vars = 0
                · by_cases h6 : 0 < c.te.length
                  · have hp : plainC c = false := by simp [plainC, z0]; intro _ _ e; simp [e] at h6
                    try (simp [h4, h5, h6])
                    repeat ((repeat (first | refine AL.seq ?_ | refine AL.block ?_ | refine AL.skip ?_ | refine AL.blk ?_)); (refine AL.region follows_Try (Nat.le_refl _) (by kernel_rfl) ?_); simp [h4, h5, h6])
                    repeat (first | refine AL.seq ?_ | refine AL.block ?_ | refine AL.skip ?_ | refine AL.blk ?_)
                    refine AL.cond ?_
                    simp
                    try (simp)
                    repeat ((repeat (first | refine AL.seq ?_ | refine AL.block ?_ | refine AL.skip ?_ | refine AL.blk ?_)); (refine AL.region follows_Try (Nat.le_refl _) (by kernel_rfl) ?_); simp)
                    repeat (first | refine AL.seq ?_ | refine AL.block ?_ | refine AL.skip ?_ | refine AL.blk ?_)
                    refine AL.ret ?_
                    try simp only [AU]
                    refine ⟨by simp, Fin.data (by simp [resAs, resA]; rfl) hbox rfl htok (fun _ h => h) (Nat.le_refl _) ?_⟩
                    simp [packA, shapeC, okC, k5, h1, hp]
                  · have h6' : c.te = [] := by simpa using h6
                    have hp : plainC c = true := by simp [plainC, z0, h4', h5, h6']
                    try (simp [h4, h5, h6])
                    repeat ((repeat (first | refine AL.seq ?_ | refine AL.block ?_ | refine AL.skip ?_ | refine AL.blk ?_)); (refine AL.region follows_Try (Nat.le_refl _) (by kernel_rfl) ?_); simp [h4, h5, h6])
                    repeat (first | refine AL.seq ?_ | refine AL.block ?_ | refine AL.skip ?_ | refine AL.blk ?_)
                    refine AL.cond ?_
                    simp
                    try (simp)
                    repeat ((repeat (first | refine AL.seq ?_ | refine AL.block ?_ | refine AL.skip ?_ | refine AL.blk ?_)); (refine AL.region follows_Try (Nat.le_refl _) (by kernel_rfl) ?_); simp)
                    repeat (first | refine AL.seq ?_ | refine AL.block ?_ | refine AL.skip ?_ | refine AL.blk ?_)
                    refine AL.ret ?_
                    try simp only [AU]
                    refine ⟨by simp, Fin.data (by simp [resAs, resA]; rfl) hbox rfl htok (fun _ h => h) (Nat.le_refl _) ?_⟩
                    simp [packA, shapeC, okC, k5, h1, hp]
                · have hp : plainC c = false := by simp [plainC, z0, h5]
                  have n7 : (c.vars != 0) = true := by simp [h5]
                  try (simp [h4, n7])
                  repeat ((repeat (first | refine AL.seq ?_ | refine AL.block ?_ | refine AL.skip ?_ | refine AL.blk ?_)); (refine AL.region follows_Try (Nat.le_refl _) (by kernel_rfl) ?_); simp [h4, n7])
                  repeat (first | refine AL.seq ?_ | refine AL.block ?_ | refine AL.skip ?_ | refine AL.blk ?_)
                  refine AL.cond ?_
                  simp
                  try (simp)
                  repeat ((repeat (first | refine AL.seq ?_ | refine AL.block ?_ | refine AL.skip ?_ | refine AL.blk ?_)); (refine AL.region follows_Try (Nat.le_refl _) (by kernel_rfl) ?_); simp)
                  repeat (first | refine AL.seq ?_ | refine AL.block ?_ | refine AL.skip ?_ | refine AL.blk ?_)
                  refine AL.ret ?_
                  try simp only [AU]
                  refine ⟨by simp, Fin.data (by simp [resAs, resA]; rfl) hbox rfl htok (fun _ h => h) (Nat.le_refl _) ?_⟩
                  simp [packA, shapeC, okC, k5, h1, hp]
            · have n1 : ((c.kids.length : Int) != 1) = true := by simp [h1]
              simp only [n1]
              repeat (first | refine AL.seq ?_ | refine AL.block ?_ | refine AL.skip ?_ | refine AL.blk ?_)
              refine AL.cond ?_
              simp
              try (simp)
              repeat ((repeat (first | refine AL.seq ?_ | refine AL.block ?_ | refine AL.skip ?_ | refine AL.blk ?_)); (refine AL.region follows_Try (Nat.le_refl _) (by kernel_rfl) ?_); simp)
              repeat (first | refine AL.seq ?_ | refine AL.block ?_ | refine AL.skip ?_ | refine AL.blk ?_)
              refine AL.ret ?_
              try simp only [AU]
              refine ⟨by simp, Fin.data (by simp [resAs, resA]; rfl) hbox rfl htok (fun _ h => h) (Nat.le_refl _) ?_⟩
              simp [packA, shapeC, okC, k5, h1]
          · have n5 : (c.kind == 5) = false := by simp [k5]
            simp only [n5]
            repeat (first | refine AL.seq ?_ | refine AL.block ?_ | refine AL.skip ?_ | refine AL.blk ?_)
            refine AL.cond ?_
            simp
            try (simp)
            repeat ((repeat (first | refine AL.seq ?_ | refine AL.block ?_ | refine AL.skip ?_ | refine AL.blk ?_)); (refine AL.region follows_Try (Nat.le_refl _) (by kernel_rfl) ?_); simp)
            repeat (first | refine AL.seq ?_ | refine AL.block ?_ | refine AL.skip ?_ | refine AL.blk ?_)
            refine AL.ret ?_
            try simp only [AU]
            refine ⟨by simp, Fin.data (by simp [resAs, resA]; rfl) hbox rfl htok (fun _ h => h) (Nat.le_refl _) ?_⟩
            simp [packA, shapeC, okC, k1, k2, k34, k5]

def stSs (c : Cd) (nb : Nat) (box : Nat → Option (List (List AV))) (tok : Nat → Bool) (nt : Nat) (i : Nat) : AState :=
  ⟨tl [(4, I i), (1, .ptr (nb + 1) 0 0)], lb nb box [(1, [c.row])], tok, nt⟩

theorem shapes31_c : ∀ (n : Nat) (c : Cd), SizeOf.sizeOf c < n → c.Big → ∀ (tok : Nat → Bool) (nt : Nat), DCall Try.prog 31 [c.av] tok nt (I c.shs) tok nt
  | 0, c, hn, _, tok, nt => absurd hn (Nat.not_lt_zero _)
  | n + 1, c, hn, hb, tok, nt => by
    intro box nb
    have ih := fun x (hx : x ∈ c.kids) => shapes31_c n x (by have := Cd.kid_lt hx; omega) (hb.kid x hx)
    have hkb := hb.kids
    rw [kidN_eq] at hkb
    have hR := c.shs_eq
    have hsh := shape48_c c hb
    refine ACalls.of_body Try.func31 rfl (by kernel_rfl) follows_Try (by kernel_rfl) (by simp [Try.ntmps31]) ?_
    intro hbox htok
    simp only at hbox htok
    apply AL.start
    try (simp)
    repeat ((repeat (first | refine AL.seq ?_ | refine AL.block ?_ | refine AL.skip ?_ | refine AL.blk ?_)); (refine AL.region follows_Try (Nat.le_refl _) (by kernel_rfl) ?_); simp)
    refine Stop.of_d (hsh _ _) ?_
    simp
    try (simp)
    repeat ((repeat (first | refine AL.seq ?_ | refine AL.block ?_ | refine AL.skip ?_ | refine AL.blk ?_)); (refine AL.region follows_Try (Nat.le_refl _) (by kernel_rfl) ?_); simp)
    by_cases h0 : shapeC c = 0
    · rw [if_pos h0] at hR
      simp only [h0]
      repeat (first | refine AL.seq ?_ | refine AL.block ?_ | refine AL.skip ?_ | refine AL.blk ?_)
      refine AL.cond ?_
      simp
      try (simp)
      repeat ((repeat (first | refine AL.seq ?_ | refine AL.block ?_ | refine AL.skip ?_ | refine AL.blk ?_)); (refine AL.region follows_Try (Nat.le_refl _) (by kernel_rfl) ?_); simp)
      repeat (first | refine AL.seq ?_ | refine AL.block ?_ | refine AL.skip ?_ | refine AL.blk ?_)
      refine AL.loopT (stSs c nb box tok nt) (fun i => i ≤ c.kids.length ∧ ∀ x ∈ c.kids.take i, Cd.shs x = 0) (fun i => c.kids.length - i) 0 ⟨Nat.zero_le _, by simp⟩ (Weaks.mk (Nat.le_refl _) rfl (by simp [ToL, lk]) (by simp [BoxL, lk])) ?_
      rintro i S ⟨hi, hz⟩ hS
      simp only [stSs] at hS
      subst hS
      have hw : IntKind.i64.wrap (↑i + 1) = ((i + 1 : Nat) : Int) := by rw [wrap_in (by omega) (by omega)]; rfl
      try (simp)
      repeat ((repeat (first | refine AL.seq ?_ | refine AL.block ?_ | refine AL.skip ?_ | refine AL.blk ?_)); (refine AL.region follows_Try (Nat.le_refl _) (by kernel_rfl) ?_); simp)
      repeat (first | refine AL.seq ?_ | refine AL.block ?_ | refine AL.skip ?_ | refine AL.blk ?_)
      refine AL.cond ?_
      simp
      refine ⟨fun hlt => ?_, fun hge => ?_⟩
      · have ihx := ih _ (List.getElem_mem hlt)
        have hyes := errL_more (f := Cd.shs) hlt hz
        have hno := errL_at (f := Cd.shs) hlt hz
        try (simp [hlt, Cd.cells_eq])
        repeat ((repeat (first | refine AL.seq ?_ | refine AL.block ?_ | refine AL.skip ?_ | refine AL.blk ?_)); (refine AL.region follows_Try (Nat.le_refl _) (by kernel_rfl) ?_); simp [hlt, Cd.cells_eq])
        generalize c.kids[i] = x at *
        refine Stop.of_d (ihx _ _) ?_
        simp
        try (simp)
        repeat ((repeat (first | refine AL.seq ?_ | refine AL.block ?_ | refine AL.skip ?_ | refine AL.blk ?_)); (refine AL.region follows_Try (Nat.le_refl _) (by kernel_rfl) ?_); simp)
        by_cases h1 : x.shs = 0
        · simp only [h1]
          repeat (first | refine AL.seq ?_ | refine AL.block ?_ | refine AL.skip ?_ | refine AL.blk ?_)
          refine AL.cond ?_
          simp
          try (simp [hw])
          repeat ((repeat (first | refine AL.seq ?_ | refine AL.block ?_ | refine AL.skip ?_ | refine AL.blk ?_)); (refine AL.region follows_Try (Nat.le_refl _) (by kernel_rfl) ?_); simp [hw])
          repeat (first | refine AL.seq ?_ | refine AL.block ?_ | refine AL.skip ?_ | refine AL.blk ?_)
          refine AL.nil ?_
          exact ⟨i + 1, ⟨hlt, hyes h1⟩, by omega, Weaks.mk (Nat.le_refl _) rfl (by simp [ToL, lk]) (by simp [BoxL, lk])⟩
        · have b1 : (x.shs != 0) = true := by simp [h1]
          simp only [b1]
          repeat (first | refine AL.seq ?_ | refine AL.block ?_ | refine AL.skip ?_ | refine AL.blk ?_)
          refine AL.cond ?_
          simp
          try (simp)
          repeat ((repeat (first | refine AL.seq ?_ | refine AL.block ?_ | refine AL.skip ?_ | refine AL.blk ?_)); (refine AL.region follows_Try (Nat.le_refl _) (by kernel_rfl) ?_); simp)
          repeat (first | refine AL.seq ?_ | refine AL.block ?_ | refine AL.skip ?_ | refine AL.blk ?_)
          refine AL.ret ?_
          try simp only [AU]
          refine ⟨by simp, Fin.data (by simp [resAs, resA]; rfl) hbox rfl htok (fun _ h => h) (Nat.le_refl _) ?_⟩
          simp [packA, hR, hno h1]
      · repeat (first | refine AL.seq ?_ | refine AL.block ?_ | refine AL.skip ?_ | refine AL.blk ?_)
        refine AL.exit ?_
        simp only [AU, ↓reduceIte]
        rw [List.take_of_length_le hge] at hz
        try (simp)
        repeat ((repeat (first | refine AL.seq ?_ | refine AL.block ?_ | refine AL.skip ?_ | refine AL.blk ?_)); (refine AL.region follows_Try (Nat.le_refl _) (by kernel_rfl) ?_); simp)
        repeat (first | refine AL.seq ?_ | refine AL.block ?_ | refine AL.skip ?_ | refine AL.blk ?_)
        refine AL.ret ?_
        try simp only [AU]
        refine ⟨by simp, Fin.data (by simp [resAs, resA]; rfl) hbox rfl htok (fun _ h => h) (Nat.le_refl _) ?_⟩
        simp [packA, hR, errL_all hz]
    · rw [if_neg h0] at hR
      have b0 : (shapeC c != 0) = true := by simp [h0]
      simp only [b0]
      repeat (first | refine AL.seq ?_ | refine AL.block ?_ | refine AL.skip ?_ | refine AL.blk ?_)
      refine AL.cond ?_
      simp
      try (simp)
      repeat ((repeat (first | refine AL.seq ?_ | refine AL.block ?_ | refine AL.skip ?_ | refine AL.blk ?_)); (refine AL.region follows_Try (Nat.le_refl _) (by kernel_rfl) ?_); simp)
      repeat (first | refine AL.seq ?_ | refine AL.block ?_ | refine AL.skip ?_ | refine AL.blk ?_)
      refine AL.ret ?_
      try simp only [AU]
      refine ⟨by simp, Fin.data (by simp [resAs, resA]; rfl) hbox rfl htok (fun _ h => h) (Nat.le_refl _) ?_⟩
      simp [packA, hR]

theorem size11_c (c : Cd) (hb : c.Big) (tok : Nat → Bool) (nt : Nat) : DCall Try.prog 11 [c.av] tok nt (.tup [I (sizeR c).1, I (sizeR c).2.1, I (sizeR c).2.2]) tok nt := by
  intro box nb
  have hs := shapes31_c _ c (Nat.lt_succ_self _) hb
  have hm := size25_c _ c (Nat.lt_succ_self _) hb
  have hl := large32_c c hb
  refine ACalls.of_body Try.func11 rfl (by kernel_rfl) follows_Try (by kernel_rfl) (by simp [Try.ntmps11]) ?_
  intro hbox htok
  simp only at hbox htok
  apply AL.start
  try (simp)
  repeat ((repeat (first | refine AL.seq ?_ | refine AL.block ?_ | refine AL.skip ?_ | refine AL.blk ?_)); (refine AL.region follows_Try (Nat.le_refl _) (by kernel_rfl) ?_); simp)
  refine Stop.of_d (hs _ _) ?_
  simp
  try (simp)
  repeat ((repeat (first | refine AL.seq ?_ | refine AL.block ?_ | refine AL.skip ?_ | refine AL.blk ?_)); (refine AL.region follows_Try (Nat.le_refl _) (by kernel_rfl) ?_); simp)
  by_cases h0 : c.shs = 0
  · simp only [h0]
    repeat (first | refine AL.seq ?_ | refine AL.block ?_ | refine AL.skip ?_ | refine AL.blk ?_)
    refine AL.cond ?_
    simp
    try (simp)
    repeat ((repeat (first | refine AL.seq ?_ | refine AL.block ?_ | refine AL.skip ?_ | refine AL.blk ?_)); (refine AL.region follows_Try (Nat.le_refl _) (by kernel_rfl) ?_); simp)
    refine Stop.of_d (hl _ _) ?_
    simp
    try (simp)
    repeat ((repeat (first | refine AL.seq ?_ | refine AL.block ?_ | refine AL.skip ?_ | refine AL.blk ?_)); (refine AL.region follows_Try (Nat.le_refl _) (by kernel_rfl) ?_); simp)
    by_cases h1 : smallC c = 0
    · simp only [h1]
      repeat (first | refine AL.seq ?_ | refine AL.block ?_ | refine AL.skip ?_ | refine AL.blk ?_)
      refine AL.cond ?_
      simp
      try (simp)
      repeat ((repeat (first | refine AL.seq ?_ | refine AL.block ?_ | refine AL.skip ?_ | refine AL.blk ?_)); (refine AL.region follows_Try (Nat.le_refl _) (by kernel_rfl) ?_); simp)
      refine Stop.of_d (hm _ _) ?_
      simp
      try (simp)
      repeat ((repeat (first | refine AL.seq ?_ | refine AL.block ?_ | refine AL.skip ?_ | refine AL.blk ?_)); (refine AL.region follows_Try (Nat.le_refl _) (by kernel_rfl) ?_); simp)
      repeat (first | refine AL.seq ?_ | refine AL.block ?_ | refine AL.skip ?_ | refine AL.blk ?_)
      refine AL.ret ?_
      try simp only [AU]
      refine ⟨by simp, Fin.data (by simp [resAs, resA]; rfl) hbox rfl htok (fun _ h => h) (Nat.le_refl _) ?_⟩
      simp [packA, sizeR, h0, h1]
    · have b1 : (smallC c != 0) = true := by simp [h1]
      simp only [b1]
      repeat (first | refine AL.seq ?_ | refine AL.block ?_ | refine AL.skip ?_ | refine AL.blk ?_)
      refine AL.cond ?_
      simp
      try (simp)
      repeat ((repeat (first | refine AL.seq ?_ | refine AL.block ?_ | refine AL.skip ?_ | refine AL.blk ?_)); (refine AL.region follows_Try (Nat.le_refl _) (by kernel_rfl) ?_); simp)
      repeat (first | refine AL.seq ?_ | refine AL.block ?_ | refine AL.skip ?_ | refine AL.blk ?_)
      refine AL.ret ?_
      try simp only [AU]
      refine ⟨by simp, Fin.data (by simp [resAs, resA]; rfl) hbox rfl htok (fun _ h => h) (Nat.le_refl _) ?_⟩
      simp [packA, sizeR, h0, h1]
  · have b0 : (c.shs != 0) = true := by simp [h0]
    simp only [b0]
    repeat (first | refine AL.seq ?_ | refine AL.block ?_ | refine AL.skip ?_ | refine AL.blk ?_)
    refine AL.cond ?_
    simp
    try (simp)
    repeat ((repeat (first | refine AL.seq ?_ | refine AL.block ?_ | refine AL.skip ?_ | refine AL.blk ?_)); (refine AL.region follows_Try (Nat.le_refl _) (by kernel_rfl) ?_); simp)
    repeat (first | refine AL.seq ?_ | refine AL.block ?_ | refine AL.skip ?_ | refine AL.blk ?_)
    refine AL.ret ?_
    try simp only [AU]
    refine ⟨by simp, Fin.data (by simp [resAs, resA]; rfl) hbox rfl htok (fun _ h => h) (Nat.le_refl _) ?_⟩
    simp [packA, sizeR, h0]
end Go.AM
/-
  The reference's over, Valid, fits, Light.
-/
namespace Go.AM
open Go Go.Proofs
set_option linter.unusedSimpArgs false
set_option linter.unusedVariables false

theorem shape_kind {c : Cd} (h : shapeC c = 0) (h5 : c.kind = 5) : c.kids.length = 1 := by
  unfold shapeC at h
  split at h
  · rename_i hk
    simp [okC, h5] at hk
    omega
  · omega
/-! ### Light -/
end Go.AM
namespace Go.AM
open Go Go.Proofs
set_option linter.unusedSimpArgs false
set_option linter.unusedVariables false

/-! ### places, index, Through, Then, Compose -/
def placesK (l h : List Int) (i : Nat) : List Int := (l.take i).map (indexI h)
@[simp] theorem placesK_len (l h : List Int) (i : Nat) : (placesK l h i).length = min i l.length := by simp [placesK]
def byK (l by' : List Int) (i : Nat) : List Int := (l.take i).map fun x => by'.getD x.toNat 0
@[simp] theorem byK_len (l h : List Int) (i : Nat) : (byK l h i).length = min i l.length := by simp [byK]
def thenM (m n : Mo) : Mo := ⟨byK m.nodes n.nodes m.nodes.length, byK m.edges n.edges m.edges.length⟩
/-- What a valid morphism holds lies within. -/
theorem firstE_all {f : Nat → Int} : ∀ n, firstE f n = 0 → ∀ i, i < n → f i = 0
  | 0, _, i, hi => absurd hi (Nat.not_lt_zero _)
  | n + 1, h, i, hi => by
    simp only [firstE] at h
    split at h
    · rename_i h0
      by_cases e : i = n
      · subst e; exact h
      · exact firstE_all n h0 i (by omega)
    · contradiction

structure VM (a b : Gr) (m : Mo) : Prop where
  va : validG a = 0
  vb : validG b = 0
  ln : m.nodes.length = a.nodes.length
  le : m.edges.length = a.edges.length
  n : ∀ x ∈ m.nodes, 0 ≤ x ∧ x < b.nodes.length
  e : ∀ x ∈ m.edges, 0 ≤ x ∧ x < b.edges.length
  nt : ∀ i, i < a.nodes.length → b.nodes.getD (m.nodes.getD i 0).toNat 0 = a.nodes.getD i 0
  et : ∀ i, i < a.edges.length → b.edges.getD (m.edges.getD i 0).toNat default = ⟨(a.edges.getD i default).ty, m.nodes.getD (a.edges.getD i default).fr.toNat 0, m.nodes.getD (a.edges.getD i default).to.toNat 0⟩

theorem validM_VM {a b : Gr} {m : Mo} (h : validM a b m = 0) : VM a b m := by
  unfold validM at h
  split at h
  · omega
  · rename_i h1
    split at h
    · omega
    · rename_i h2
      split at h
      · cases h
      · rename_i h3
        have hl1 : m.nodes.length = a.nodes.length := by omega
        have hl2 : m.edges.length = a.edges.length := by omega
        split at h
        · contradiction
        · rename_i h4
          have h4' : firstE (nodeE a b m) a.nodes.length = 0 := Decidable.not_not.1 h4
          have n1 := firstE_all _ h4'
          have n2 := firstE_all _ h
          refine ⟨by omega, by omega, hl1, hl2, fun x hx => ?_, fun x hx => ?_, fun i hi => ?_, fun i hi => ?_⟩
          · obtain ⟨i, hi, rfl⟩ := List.getElem_of_mem hx
            have := n1 i (by omega)
            have e : m.nodes.getD i 0 = m.nodes[i] := by simp [hi]
            unfold nodeE at this
            rw [e] at this
            split at this
            · cases this
            · omega
          · obtain ⟨i, hi, rfl⟩ := List.getElem_of_mem hx
            have := n2 i (by omega)
            have e : m.edges.getD i 0 = m.edges[i] := by simp [hi]
            unfold edgeE at this
            rw [e] at this
            split at this
            · cases this
            · omega
          · have := n1 i hi
            unfold nodeE at this
            split at this
            · cases this
            · split at this
              · assumption
              · cases this
          · have := n2 i hi
            unfold edgeE at this
            split at this
            · cases this
            · simp only at this
              split at this
              · cases this
              · rename_i t1
                split at this
                · cases this
                · rename_i t2
                  have t1' := Decidable.not_not.1 t1
                  simp only [ne_eq, not_or, Decidable.not_not] at t2
                  rw [t1', t2.1, t2.2]

def compM (a b c : Gr) (m n : Mo) : Mo × Int := if validM a b m ≠ 0 then (⟨[], []⟩, validM a b m) else if validM b c n ≠ 0 then (⟨[], []⟩, validM b c n) else (thenM m n, 0)
end Go.AM
/-
  shift.holds.
-/
namespace Go.AM
open Go Go.Proofs
set_option linter.unusedSimpArgs false
set_option linter.unusedVariables false

def stIC (xs : List Cd) (f : FuncId) (caps : List AV) (nb : Nat) (box : Nat → Option (List (List AV))) (tok : Nat → Bool) (nt : Nat) (i : Nat) : AState := ⟨tl [(0, .d (conds xs)), (1, .fn (.func f) caps), (7, I xs.length), (8, I i)], lb nb box [], tok, nt⟩
def anyC (p : Cd → Bool) (xs : List Cd) : Bool := xs.any p

theorem indexFuncC_c (xs : List Cd) (f : FuncId) (caps : List AV) (p : Cd → Bool) (hx : xs.length ≤ kidN) (box : Nat → Option (List (List AV))) (nb : Nat) (tok : Nat → Bool) (nt : Nat) (hc : ∀ c ∈ caps, OkIn (fun k => box k ≠ none) (fun _ => True) c)
    (hf : ∀ x ∈ xs, ∀ box' nb', Ext box box' → ACalls Try.prog f (x.av :: caps) ⟨box', nb', tok, nt⟩ fun v m => v = B (p x) ∧ m = ⟨box', nb', tok, nt⟩) :
    ACalls Try.prog 84 [.d (conds xs), .fn (.func f) caps] ⟨box, nb, tok, nt⟩ fun v m => v = I (if anyC p xs = true then (xs.findIdx p : Nat) else -1) ∧ m = ⟨box, nb, tok, nt⟩ := by
  rw [kidN_eq] at hx
  refine ACalls.of_body Try.func84 rfl (by kernel_rfl) follows_Try (by kernel_rfl) (by simp [Try.ntmps84]) ?_
  intro hbox htok
  simp only at hbox htok
  apply AL.start
  try (simp)
  repeat ((repeat (first | refine AL.seq ?_ | refine AL.block ?_ | refine AL.skip ?_ | refine AL.blk ?_)); (refine AL.region follows_Try (Nat.le_refl _) (by kernel_rfl) ?_); simp)
  repeat (first | refine AL.seq ?_ | refine AL.block ?_ | refine AL.skip ?_ | refine AL.blk ?_)
  refine AL.loopT (stIC xs f caps nb box tok nt) (fun i => i ≤ xs.length ∧ ∀ x ∈ xs.take i, p x = false) (fun i => xs.length - i) 0 ⟨Nat.zero_le _, by simp⟩ (Weaks.mk (Nat.le_refl _) rfl (by simp [ToL]; exact .same (okFn hc hbox [] (by simp) rfl _)) trivial) ?_
  rintro i S ⟨hi, htk⟩ hS
  simp only [stIC] at hS
  subst hS
  have hw : IntKind.i64.wrap (↑i + 1) = ((i + 1 : Nat) : Int) := by rw [wrap_in (by omega) (by omega)]; rfl
  try (simp)
  repeat ((repeat (first | refine AL.seq ?_ | refine AL.block ?_ | refine AL.skip ?_ | refine AL.blk ?_)); (refine AL.region follows_Try (Nat.le_refl _) (by kernel_rfl) ?_); simp)
  repeat (first | refine AL.seq ?_ | refine AL.block ?_ | refine AL.skip ?_ | refine AL.blk ?_)
  refine AL.cond ?_
  simp
  refine ⟨fun hlt => ?_, fun hge => ?_⟩
  · have hfx := hf xs[i] (List.getElem_mem _)
    have hpx : p xs[i] = true → anyC p xs = true ∧ (xs.findIdx p = i) := fun he => any_take hlt htk he
    have hmore : p xs[i] = false → ∀ x ∈ xs.take (i + 1), p x = false := fun he x hx => by
      rw [List.take_succ_eq_append_getElem hlt] at hx
      rcases List.mem_append.1 hx with hx | hx
      · exact htk x hx
      · simp at hx; rw [hx]; exact he
    try (simp [hlt, Cd.cells_eq])
    repeat ((repeat (first | refine AL.seq ?_ | refine AL.block ?_ | refine AL.skip ?_ | refine AL.blk ?_)); (refine AL.region follows_Try (Nat.le_refl _) (by kernel_rfl) ?_); simp [hlt, Cd.cells_eq])
    generalize xs[i] = x at *
    refine Stop.of_b (hfx _ _ ((Ext.refl box).lb hbox [])) ?_
    simp
    cases he : p x
    · repeat (first | refine AL.seq ?_ | refine AL.block ?_ | refine AL.skip ?_ | refine AL.blk ?_)
      refine AL.cond ?_
      simp
      try (simp [hw])
      repeat ((repeat (first | refine AL.seq ?_ | refine AL.block ?_ | refine AL.skip ?_ | refine AL.blk ?_)); (refine AL.region follows_Try (Nat.le_refl _) (by kernel_rfl) ?_); simp [hw])
      repeat (first | refine AL.seq ?_ | refine AL.block ?_ | refine AL.skip ?_ | refine AL.blk ?_)
      refine AL.nil ?_
      refine ⟨i + 1, ⟨hlt, ?_⟩, by omega, Weaks.mk (Nat.le_refl _) rfl (by simp [ToL]; exact .same (okFn hc hbox [] (by simp) rfl _)) trivial⟩
      exact hmore he
    · obtain ⟨h1, h2⟩ := hpx he
      repeat (first | refine AL.seq ?_ | refine AL.block ?_ | refine AL.skip ?_ | refine AL.blk ?_)
      refine AL.cond ?_
      simp
      try (simp)
      repeat ((repeat (first | refine AL.seq ?_ | refine AL.block ?_ | refine AL.skip ?_ | refine AL.blk ?_)); (refine AL.region follows_Try (Nat.le_refl _) (by kernel_rfl) ?_); simp)
      repeat (first | refine AL.seq ?_ | refine AL.block ?_ | refine AL.skip ?_ | refine AL.blk ?_)
      refine AL.ret ?_
      try simp only [AU]
      refine ⟨by simp, Fin.data (by simp [resAs, resA]; rfl) hbox rfl htok (fun _ h => h) (Nat.le_refl _) ?_⟩
      simp [packA, h1, h2]
  · repeat (first | refine AL.seq ?_ | refine AL.block ?_ | refine AL.skip ?_ | refine AL.blk ?_)
    refine AL.exit ?_
    simp only [AU, ↓reduceIte]
    try (simp)
    repeat ((repeat (first | refine AL.seq ?_ | refine AL.block ?_ | refine AL.skip ?_ | refine AL.blk ?_)); (refine AL.region follows_Try (Nat.le_refl _) (by kernel_rfl) ?_); simp)
    have hn : anyC p xs = false := by
      rw [List.take_of_length_le hge] at htk
      simpa [anyC] using htk
    repeat (first | refine AL.seq ?_ | refine AL.block ?_ | refine AL.skip ?_ | refine AL.blk ?_)
    refine AL.ret ?_
    try simp only [AU]
    refine ⟨by simp, Fin.data (by simp [resAs, resA]; rfl) hbox rfl htok (fun _ h => h) (Nat.le_refl _) ?_⟩
    simp [packA, hn]

theorem containsFuncC_c (xs : List Cd) (f : FuncId) (caps : List AV) (p : Cd → Bool) (hx : xs.length ≤ kidN) (box : Nat → Option (List (List AV))) (nb : Nat) (tok : Nat → Bool) (nt : Nat) (hc : ∀ c ∈ caps, OkIn (fun k => box k ≠ none) (fun _ => True) c)
    (hf : ∀ x ∈ xs, ∀ box' nb', Ext box box' → ACalls Try.prog f (x.av :: caps) ⟨box', nb', tok, nt⟩ fun v m => v = B (p x) ∧ m = ⟨box', nb', tok, nt⟩) :
    ACalls Try.prog 68 [.d (conds xs), .fn (.func f) caps] ⟨box, nb, tok, nt⟩ fun v m => v = B (anyC p xs) ∧ m = ⟨box, nb, tok, nt⟩ := by
  refine ACalls.of_body Try.func68 rfl (by kernel_rfl) follows_Try (by kernel_rfl) (by simp [Try.ntmps68]) ?_
  intro hbox htok
  simp only at hbox htok
  apply AL.start
  try (simp)
  repeat ((repeat (first | refine AL.seq ?_ | refine AL.block ?_ | refine AL.skip ?_ | refine AL.blk ?_)); (refine AL.region follows_Try (Nat.le_refl _) (by kernel_rfl) ?_); simp)
  refine Stop.of_b (indexFuncC_c xs f caps p hx (lb nb box []) _ _ _ (fun c h => (hc c h).mono (fun k hk => by rw [hbox]; exact hk) fun _ h => h) (fun x hx' box' nb' he => hf x hx' box' nb' (by rw [hbox] at he; exact he))) ?_
  simp
  cases hany : anyC p xs
  · try (simp)
    repeat ((repeat (first | refine AL.seq ?_ | refine AL.block ?_ | refine AL.skip ?_ | refine AL.blk ?_)); (refine AL.region follows_Try (Nat.le_refl _) (by kernel_rfl) ?_); simp)
    repeat (first | refine AL.seq ?_ | refine AL.block ?_ | refine AL.skip ?_ | refine AL.blk ?_)
    refine AL.ret ?_
    try simp only [AU]
    refine ⟨by simp, Fin.data (by simp [resAs, resA]; rfl) hbox rfl htok (fun _ h => h) (Nat.le_refl _) ?_⟩
    simp [packA]
  · have h0 : (0 : Int) ≤ (xs.findIdx p : Nat) := by omega
    try (simp)
    repeat ((repeat (first | refine AL.seq ?_ | refine AL.block ?_ | refine AL.skip ?_ | refine AL.blk ?_)); (refine AL.region follows_Try (Nat.le_refl _) (by kernel_rfl) ?_); simp)
    repeat (first | refine AL.seq ?_ | refine AL.block ?_ | refine AL.skip ?_ | refine AL.blk ?_)
    refine AL.ret ?_
    try simp only [AU]
    refine ⟨by simp, Fin.data (by simp [resAs, resA]; rfl) hbox rfl htok (fun _ h => h) (Nat.le_refl _) ?_⟩
    simp [packA, h0]

abbrev Mo.cells2 (m : Mo) : List AV := [.d (ints m.nodes), .d (ints m.edges)]
theorem yes66_c (k : Cd) (g : Gr) (m : Mo) (r : Bool) (hd : ∀ tok nt, DCall Try.prog 43 [k.av, g.av, m.av] tok nt (B r) tok nt) (box : Nat → Option (List (List AV))) (nb k1 k2 : Nat) (tok : Nat → Bool) (nt : Nat) (h1 : box k1 = some [g.cells2]) (h2 : box k2 = some [m.cells2]) :
    ACalls Try.prog 66 [k.av, .ptr k1 0 0, .ptr k2 0 0] ⟨box, nb, tok, nt⟩ fun v m => v = B r ∧ m = ⟨box, nb, tok, nt⟩ := by
  refine ACalls.of_body Try.func66 rfl (by kernel_rfl) follows_Try (by kernel_rfl) (by simp [Try.ntmps66]) ?_
  intro hbox htok
  simp only at hbox htok
  apply AL.start
  have k1n := key_lt hbox h1
  have k2n := key_lt hbox h2
  try (simp [lb_out k1n, h1, lb_out k2n, h2])
  repeat ((repeat (first | refine AL.seq ?_ | refine AL.block ?_ | refine AL.skip ?_ | refine AL.blk ?_)); (refine AL.region follows_Try (Nat.le_refl _) (by kernel_rfl) ?_); simp [lb_out k1n, h1, lb_out k2n, h2])
  refine Stop.of_d (hd _ _) ?_
  simp
  try (simp)
  repeat ((repeat (first | refine AL.seq ?_ | refine AL.block ?_ | refine AL.skip ?_ | refine AL.blk ?_)); (refine AL.region follows_Try (Nat.le_refl _) (by kernel_rfl) ?_); simp)
  repeat (first | refine AL.seq ?_ | refine AL.block ?_ | refine AL.skip ?_ | refine AL.blk ?_)
  refine AL.ret ?_
  try simp only [AU]
  refine ⟨by simp, Fin.data (by simp [resAs, resA]; rfl) hbox rfl htok (fun _ h => h) (Nat.le_refl _) ?_⟩
  simp [packA]
theorem no67_c (k : Cd) (g : Gr) (m : Mo) (r : Bool) (hd : ∀ tok nt, DCall Try.prog 43 [k.av, g.av, m.av] tok nt (B r) tok nt) (box : Nat → Option (List (List AV))) (nb k1 k2 : Nat) (tok : Nat → Bool) (nt : Nat) (h1 : box k1 = some [g.cells2]) (h2 : box k2 = some [m.cells2]) :
    ACalls Try.prog 67 [k.av, .ptr k1 0 0, .ptr k2 0 0] ⟨box, nb, tok, nt⟩ fun v m => v = B (!r) ∧ m = ⟨box, nb, tok, nt⟩ := by
  refine ACalls.of_body Try.func67 rfl (by kernel_rfl) follows_Try (by kernel_rfl) (by simp [Try.ntmps67]) ?_
  intro hbox htok
  simp only at hbox htok
  apply AL.start
  have k1n := key_lt hbox h1
  have k2n := key_lt hbox h2
  try (simp [lb_out k1n, h1, lb_out k2n, h2])
  repeat ((repeat (first | refine AL.seq ?_ | refine AL.block ?_ | refine AL.skip ?_ | refine AL.blk ?_)); (refine AL.region follows_Try (Nat.le_refl _) (by kernel_rfl) ?_); simp [lb_out k1n, h1, lb_out k2n, h2])
  refine Stop.of_d (hd _ _) ?_
  simp
  try (simp)
  repeat ((repeat (first | refine AL.seq ?_ | refine AL.block ?_ | refine AL.skip ?_ | refine AL.blk ?_)); (refine AL.region follows_Try (Nat.le_refl _) (by kernel_rfl) ?_); simp)
  repeat (first | refine AL.seq ?_ | refine AL.block ?_ | refine AL.skip ?_ | refine AL.blk ?_)
  refine AL.ret ?_
  try simp only [AU]
  refine ⟨by simp, Fin.data (by simp [resAs, resA]; rfl) hbox rfl htok (fun _ h => h) (Nat.le_refl _) ?_⟩
  simp [packA]
theorem acc70_c (c k : Cd) (g : Gr) (m : Mo) (r : Bool) (hl0 : 0 < c.kids.length) (hk : c.kids[0] = k) (hd : ∀ tok nt, DCall Try.prog 43 [k.av, g.av, m.av] tok nt (B r) tok nt) (box : Nat → Option (List (List AV))) (nb k1 k2 : Nat) (tok : Nat → Bool) (nt : Nat) (h1 : box k1 = some [c.row]) (h2 : box k2 = some [g.cells2]) :
    ACalls Try.prog 70 [m.av, .ptr k1 0 0, .ptr k2 0 0] ⟨box, nb, tok, nt⟩ fun v m => v = B r ∧ m = ⟨box, nb, tok, nt⟩ := by
  refine ACalls.of_body Try.func70 rfl (by kernel_rfl) follows_Try (by kernel_rfl) (by simp [Try.ntmps70]) ?_
  intro hbox htok
  simp only at hbox htok
  apply AL.start
  have k1n := key_lt hbox h1
  have k2n := key_lt hbox h2
  try (simp [lb_out k1n, h1, lb_out k2n, h2, hk, hl0, Cd.cells_eq])
  repeat ((repeat (first | refine AL.seq ?_ | refine AL.block ?_ | refine AL.skip ?_ | refine AL.blk ?_)); (refine AL.region follows_Try (Nat.le_refl _) (by kernel_rfl) ?_); simp [lb_out k1n, h1, lb_out k2n, h2, hk, hl0, Cd.cells_eq])
  refine Stop.of_d (hd _ _) ?_
  simp
  try (simp)
  repeat ((repeat (first | refine AL.seq ?_ | refine AL.block ?_ | refine AL.skip ?_ | refine AL.blk ?_)); (refine AL.region follows_Try (Nat.le_refl _) (by kernel_rfl) ?_); simp)
  repeat (first | refine AL.seq ?_ | refine AL.block ?_ | refine AL.skip ?_ | refine AL.blk ?_)
  refine AL.ret ?_
  try simp only [AU]
  refine ⟨by simp, Fin.data (by simp [resAs, resA]; rfl) hbox rfl htok (fun _ h => h) (Nat.le_refl _) ?_⟩
  simp [packA]

def holStep (k : Int) (mm : Mo) (p g : Gr) (m : Mo) (bs : Mo → List Bool) : Bool :=
  if k = 2 then !((bs m).headD false) else if k = 3 then (bs m).all id else if k = 4 then (bs m).any id
  else if k = 5 then nodeB p g (fun q => (bs q).headD false) (imgK p.edges.length mm.edges m.edges mm.edges.length) p.nodes.length (imgK p.nodes.length mm.nodes m.nodes mm.nodes.length)
  else true
mutual
def Cd.hol : Cd → Gr → Mo → Bool
  | .mk k c mm p s v t, g, m => holStep k mm p g m (fun q => Cd.holL c g q)
def Cd.holL : List Cd → Gr → Mo → List Bool
  | [], _, _ => []
  | x :: r, g, m => Cd.hol x g m :: Cd.holL r g m
end
theorem Cd.holL_eq (g : Gr) (m : Mo) : ∀ l : List Cd, Cd.holL l g m = l.map fun x => Cd.hol x g m
  | [] => by simp [Cd.holL]
  | x :: r => by simp [Cd.holL, Cd.holL_eq g m r]
theorem Cd.hol_eq (c : Cd) (g : Gr) (m : Mo) : c.hol g m = holStep c.kind c.m c.g g m (fun q => c.kids.map fun x => Cd.hol x g q) := by
  cases c
  simp only [Cd.hol, Cd.holL_eq]
  rfl

theorem Ext.of_lk {base : Nat} {out : Nat → Option (List (List AV))} {L L' : List (Nat × List (List AV))} (h : ∀ s r, lk L s = some r → lk L' s = some r) : Ext (AM.lb base out L) (AM.lb base out L') := fun k rows hk => by
  by_cases hb : k < base
  · rw [lb_out hb] at hk ⊢; exact hk
  · have hkk : k = base + (k - base) := by omega
    rw [hkk, lb_at] at hk ⊢
    exact h _ _ hk
structure Flm (a : Gr) (m : Mo) : Prop where
  n : m.nodes.length = a.nodes.length
  e : m.edges.length = a.edges.length
  nn : ∀ x ∈ m.nodes, 0 ≤ x
  ne : ∀ x ∈ m.edges, 0 ≤ x
theorem errL_zero {f : Cd → Int} : ∀ {l : List Cd}, errL f l = 0 → ∀ x ∈ l, f x = 0
  | [], _, x, hx => by cases hx
  | y :: r, h, x, hx => by
    simp only [errL] at h
    split at h
    · rename_i h0
      rcases List.mem_cons.1 hx with rfl | hx
      · exact h0
      · exact errL_zero h x hx
    · contradiction
theorem Cd.ovr_zero {c : Cd} {a : Gr} (h : c.ovr a = 0) : shapeC c = 0 ∧ ovrStep a c.kind c.m c.g = 0 ∧ ∀ x ∈ c.kids, x.ovr (c.inn a) = 0 := by
  rw [c.ovr_eq] at h
  split at h
  · rename_i h0
    split at h
    · rename_i h1
      exact ⟨h0, h1, errL_zero h⟩
    · contradiction
  · contradiction
theorem shape_one {c : Cd} (h : shapeC c = 0) (h5 : c.kind = 2 ∨ c.kind = 5) : 0 < c.kids.length := by
  unfold shapeC at h
  split at h
  · rename_i hk
    rcases h5 with h5 | h5 <;> simp [okC, h5] at hk <;> omega
  · omega
theorem all_any {l : List Bool} : l.all id = !(l.any not) := by
  induction l with
  | nil => rfl
  | cons x r ih => cases x <;> simp [ih]

theorem ThR.nil {t k sz : Nat} {es : List (List D)} : ThR t k sz es [] [] := ⟨rfl, fun i h => by simp at h⟩
theorem ThR.cons {t k sz : Nat} {es : List (List D)} {x y : AV} {r r' : List AV} (h : ThTo t k sz es x y) (hr : ThR t k sz es r r') : ThR t k sz es (x :: r) (y :: r') := by
  refine ⟨by simp [hr.1], fun i h1 h2 => ?_⟩
  match i with
  | 0 => exact h
  | i + 1 => exact hr.2 i (by simpa using h1) (by simpa using h2)
theorem ThRs.one {t k sz : Nat} {es : List (List D)} {r r' : List AV} (h : ThR t k sz es r r') : ThRs t k sz es [r] [r'] := by
  refine ⟨rfl, fun i h1 h2 => ?_⟩
  match i with
  | 0 => exact h
  | i + 1 => simp at h1
theorem ThRs.same {t k sz : Nat} {es : List (List D)} {r : List (List AV)} : ThRs t k sz es r r := ⟨rfl, fun i h1 h2 => ⟨rfl, fun j g1 g2 => .same⟩⟩
theorem imgK_neg {n : Nat} {by' m : List Int} (hm : ∀ x ∈ m, 0 ≤ x) (h : by'.length ≤ m.length) : ∀ i, i ≤ by'.length → ∀ x ∈ imgK n by' m i, x < 0 → x = -1
  | 0, _, x, hx, _ => (List.mem_replicate.1 hx).2
  | i + 1, hi, x, hx, hneg => by
    rcases List.mem_or_eq_of_mem_set hx with h1 | h1
    · exact imgK_neg hm h i (by omega) x h1 hneg
    · have him : i < m.length := by omega
      have := hm m[i] (List.getElem_mem him)
      simp [him] at h1
      omega

set_option maxRecDepth 100000 in
theorem holds43_c : ∀ (n : Nat) (c : Cd), SizeOf.sizeOf c < n → c.Fit → ∀ a, c.ovr a = 0 → ∀ g : Gr, g.Fit → ∀ m : Mo, Flm a m → ∀ (tok : Nat → Bool) (nt : Nat), DCall Try.prog 43 [c.av, g.av, m.av] tok nt (B (c.hol g m)) tok nt
  | 0, c, hn, _, _, _, _, _, _, _, tok, nt => absurd hn (Nat.not_lt_zero _)
  | n + 1, c, hn, hb, a, hv, g, hg, m, hm, tok, nt => by
    intro box nb
    have ih := fun x (hx : x ∈ c.kids) => holds43_c n x (by have := Cd.kid_lt hx; omega) (hb.kid x hx) (c.inn a) ((Cd.ovr_zero hv).2.2 x hx) g hg
    obtain ⟨hs0, hst, _⟩ := Cd.ovr_zero hv
    have hkb := hb.kids
    have hR := c.hol_eq g m
    have hsk := shape_one hs0
    have hcap : ∀ c1 ∈ [AV.ptr (nb + 4) 0 0, .ptr (nb + 5) 0 0], OkIn (fun k => lb nb box [(5, [m.cells2]), (4, [g.cells2]), (3, [c.row])] k ≠ none) (fun _ => True) c1 := by
      intro c1 hc1
      simp only [List.mem_cons, List.not_mem_nil, or_false] at hc1
      rcases hc1 with rfl | rfl
      · exact .ptr (by simp [lb_at])
      · exact .ptr (by simp [lb_at])
    refine ACalls.of_body Try.func43 rfl (by kernel_rfl) follows_Try (by kernel_rfl) (by simp [Try.ntmps43]) ?_
    intro hbox htok
    simp only at hbox htok
    apply AL.start
    try (simp)
    repeat ((repeat (first | refine AL.seq ?_ | refine AL.block ?_ | refine AL.skip ?_ | refine AL.blk ?_)); (refine AL.region follows_Try (Nat.le_refl _) (by kernel_rfl) ?_); simp)
    by_cases k2 : c.kind = 2
    · have b2 : (c.kind == 2) = true := by simp [k2]
      have hlt : 0 < c.kids.length := hsk (.inl k2)
      have hii : c.inn a = a := if_neg (by rw [k2]; decide)
      rw [hii] at ih
      have ihx := ih _ (List.getElem_mem hlt) m hm
      have hR2 : c.hol g m = !(Cd.hol c.kids[0] g m) := by
        rw [hR, holStep, if_pos k2]
        congr 1
        match c.kids, hlt with
        | y :: r, _ => rfl
      simp only [b2]
      repeat (first | refine AL.seq ?_ | refine AL.block ?_ | refine AL.skip ?_ | refine AL.blk ?_)
      refine AL.cond ?_
      simp
      try (simp [hlt, Cd.cells_eq])
      repeat ((repeat (first | refine AL.seq ?_ | refine AL.block ?_ | refine AL.skip ?_ | refine AL.blk ?_)); (refine AL.region follows_Try (Nat.le_refl _) (by kernel_rfl) ?_); simp [hlt, Cd.cells_eq])
      generalize c.kids[0] = x at *
      refine Stop.of_b (no67_c x g m _ ihx _ _ _ _ _ _ (by simp [lb_at]) (by simp [lb_at])) ?_
      simp
      try (simp)
      repeat ((repeat (first | refine AL.seq ?_ | refine AL.block ?_ | refine AL.skip ?_ | refine AL.blk ?_)); (refine AL.region follows_Try (Nat.le_refl _) (by kernel_rfl) ?_); simp)
      repeat (first | refine AL.seq ?_ | refine AL.block ?_ | refine AL.skip ?_ | refine AL.blk ?_)
      refine AL.ret ?_
      try simp only [AU]
      refine ⟨by simp, Fin.data (by simp [resAs, resA]; rfl) hbox rfl htok (fun _ h => h) (Nat.le_refl _) ?_⟩
      simp [packA, hR2]
    · have b2 : (c.kind == 2) = false := by simp [k2]
      simp only [b2]
      repeat (first | refine AL.seq ?_ | refine AL.block ?_ | refine AL.skip ?_ | refine AL.blk ?_)
      refine AL.cond ?_
      simp
      try (simp)
      repeat ((repeat (first | refine AL.seq ?_ | refine AL.block ?_ | refine AL.skip ?_ | refine AL.blk ?_)); (refine AL.region follows_Try (Nat.le_refl _) (by kernel_rfl) ?_); simp)
      by_cases k3 : c.kind = 3
      · have b3 : (c.kind == 3) = true := by simp [k3]
        have hii : c.inn a = a := if_neg (by rw [k3]; decide)
        rw [hii] at ih
        have hR3 : c.hol g m = !(anyC (fun x => !(x.hol g m)) c.kids) := by
          rw [hR, holStep, if_neg k2, if_pos k3, all_any, anyC, List.any_map]
          rfl
        simp only [b3]
        repeat (first | refine AL.seq ?_ | refine AL.block ?_ | refine AL.skip ?_ | refine AL.blk ?_)
        refine AL.cond ?_
        simp
        try (simp)
        repeat ((repeat (first | refine AL.seq ?_ | refine AL.block ?_ | refine AL.skip ?_ | refine AL.blk ?_)); (refine AL.region follows_Try (Nat.le_refl _) (by kernel_rfl) ?_); simp)
        refine Stop.of_b (containsFuncC_c c.kids 67 [.ptr (nb + 4) 0 0, .ptr (nb + 5) 0 0] (fun x => !(x.hol g m)) hkb _ _ _ _ hcap (fun x hx box' nb' he => no67_c x g m _ (ih x hx m hm) _ _ _ _ _ _ (he _ _ (by simp [lb_at])) (he _ _ (by simp [lb_at])))) ?_
        simp
        try (simp)
        repeat ((repeat (first | refine AL.seq ?_ | refine AL.block ?_ | refine AL.skip ?_ | refine AL.blk ?_)); (refine AL.region follows_Try (Nat.le_refl _) (by kernel_rfl) ?_); simp)
        repeat (first | refine AL.seq ?_ | refine AL.block ?_ | refine AL.skip ?_ | refine AL.blk ?_)
        refine AL.ret ?_
        try simp only [AU]
        refine ⟨by simp, Fin.data (by simp [resAs, resA]; rfl) hbox rfl htok (fun _ h => h) (Nat.le_refl _) ?_⟩
        simp [packA, hR3]
      · have b3 : (c.kind == 3) = false := by simp [k3]
        simp only [b3]
        repeat (first | refine AL.seq ?_ | refine AL.block ?_ | refine AL.skip ?_ | refine AL.blk ?_)
        refine AL.cond ?_
        simp
        try (simp)
        repeat ((repeat (first | refine AL.seq ?_ | refine AL.block ?_ | refine AL.skip ?_ | refine AL.blk ?_)); (refine AL.region follows_Try (Nat.le_refl _) (by kernel_rfl) ?_); simp)
        by_cases k4 : c.kind = 4
        · have b4 : (c.kind == 4) = true := by simp [k4]
          have hii : c.inn a = a := if_neg (by rw [k4]; decide)
          rw [hii] at ih
          have hR4 : c.hol g m = anyC (fun x => x.hol g m) c.kids := by
            rw [hR, holStep, if_neg k2, if_neg k3, if_pos k4, anyC, List.any_map]
            rfl
          simp only [b4]
          repeat (first | refine AL.seq ?_ | refine AL.block ?_ | refine AL.skip ?_ | refine AL.blk ?_)
          refine AL.cond ?_
          simp
          try (simp)
          repeat ((repeat (first | refine AL.seq ?_ | refine AL.block ?_ | refine AL.skip ?_ | refine AL.blk ?_)); (refine AL.region follows_Try (Nat.le_refl _) (by kernel_rfl) ?_); simp)
          refine Stop.of_b (containsFuncC_c c.kids 66 [.ptr (nb + 4) 0 0, .ptr (nb + 5) 0 0] (fun x => x.hol g m) hkb _ _ _ _ hcap (fun x hx box' nb' he => yes66_c x g m _ (ih x hx m hm) _ _ _ _ _ _ (he _ _ (by simp [lb_at])) (he _ _ (by simp [lb_at])))) ?_
          simp
          try (simp)
          repeat ((repeat (first | refine AL.seq ?_ | refine AL.block ?_ | refine AL.skip ?_ | refine AL.blk ?_)); (refine AL.region follows_Try (Nat.le_refl _) (by kernel_rfl) ?_); simp)
          repeat (first | refine AL.seq ?_ | refine AL.block ?_ | refine AL.skip ?_ | refine AL.blk ?_)
          refine AL.ret ?_
          try simp only [AU]
          refine ⟨by simp, Fin.data (by simp [resAs, resA]; rfl) hbox rfl htok (fun _ h => h) (Nat.le_refl _) ?_⟩
          simp [packA, hR4]
        · have b4 : (c.kind == 4) = false := by simp [k4]
          simp only [b4]
          repeat (first | refine AL.seq ?_ | refine AL.block ?_ | refine AL.skip ?_ | refine AL.blk ?_)
          refine AL.cond ?_
          simp
          try (simp)
          repeat ((repeat (first | refine AL.seq ?_ | refine AL.block ?_ | refine AL.skip ?_ | refine AL.blk ?_)); (refine AL.region follows_Try (Nat.le_refl _) (by kernel_rfl) ?_); simp)
          by_cases k5 : c.kind = 5
          · have b5 : (c.kind == 5) = true := by simp [k5]
            simp only [b5]
            repeat (first | refine AL.seq ?_ | refine AL.block ?_ | refine AL.skip ?_ | refine AL.blk ?_)
            refine AL.cond ?_
            simp
            try (simp)
            repeat ((repeat (first | refine AL.seq ?_ | refine AL.block ?_ | refine AL.skip ?_ | refine AL.blk ?_)); (refine AL.region follows_Try (Nat.le_refl _) (by kernel_rfl) ?_); simp)
            have hii : c.inn a = c.g := if_pos k5
            rw [hii] at ih
            have hlt : 0 < c.kids.length := hsk (.inr k5)
            have hvm : validM a c.g c.m = 0 := by
              have h := hst
              unfold ovrStep at h
              rw [if_pos k5] at h
              split at h
              · contradiction
              · rename_i h1; simpa using h1
            have V := validM_VM hvm
            have hgc := hb.g
            have c1 : c.m.nodes.length = m.nodes.length := V.ln.trans hm.n.symm
            have c2 : c.m.edges.length = m.edges.length := V.le.trans hm.e.symm
            have c3 := hb.m.n
            have c4 := hb.m.e
            refine Stop.of_d (images69_c c.g.nodes.length c.m.nodes m.nodes hgc.n c3 (by omega) V.n _ _) ?_
            simp
            try (simp)
            repeat ((repeat (first | refine AL.seq ?_ | refine AL.block ?_ | refine AL.skip ?_ | refine AL.blk ?_)); (refine AL.region follows_Try (Nat.le_refl _) (by kernel_rfl) ?_); simp)
            refine Stop.of_d (images69_c c.g.edges.length c.m.edges m.edges hgc.e c4 (by omega) V.e _ _) ?_
            simp
            have l1 : (imgK c.g.nodes.length c.m.nodes m.nodes c.m.nodes.length).length = c.g.nodes.length := imgK_len _ _ _ _
            have l2 : (imgK c.g.edges.length c.m.edges m.edges c.m.edges.length).length = c.g.edges.length := imgK_len _ _ _ _
            have n1 := imgK_neg (n := c.g.nodes.length) (by' := c.m.nodes) hm.nn (by omega) c.m.nodes.length (Nat.le_refl _)
            have n2 := imgK_neg (n := c.g.edges.length) (by' := c.m.edges) hm.ne (by omega) c.m.edges.length (Nat.le_refl _)
            have hR5 : c.hol g m = nodeB c.g g (fun q => Cd.hol c.kids[0] g q) (imgK c.g.edges.length c.m.edges m.edges c.m.edges.length) c.g.nodes.length (imgK c.g.nodes.length c.m.nodes m.nodes c.m.nodes.length) := by
              rw [hR, holStep, if_neg k2, if_neg k3, if_neg k4, if_pos k5]
              congr 1
              funext q
              match c.kids, hlt with
              | y :: r, _ => rfl
            generalize imgK c.g.nodes.length c.m.nodes m.nodes c.m.nodes.length = N0 at *
            generalize imgK c.g.edges.length c.m.edges m.edges c.m.edges.length = E0 at *
            repeat (first | refine AL.seq ?_ | refine AL.block ?_ | refine AL.skip ?_ | refine AL.blk ?_)
            refine AL.weak (Weaks.mk (l' := [(10, .ptr (nb + 62) 0 0), (3, .ptr (nb + 3) 0 0), (4, .ptr (nb + 4) 0 0), (51, .ex (nt + 1) 1 (rI N0)), (60, .ex (nt + 2 + 1) 1 (rI E0))])
              (loc' := [(62, [[.d (ints c.g.nodes), .d (AM.edges c.g.edges), .d (ints g.nodes), .d (AM.edges g.edges), .ex (nt + 1) 1 (rI N0), .ex (nt + 2 + 1) 1 (rI E0), .d (.raw .nilFunc)]]), (4, [g.cells2]), (3, [c.row])]) (by omega) rfl (by simp [ToL]) (by simp [BoxL])) ?_
            refine AL.trans (Trans.thawI (l' := [(10, .ptr (nb + 62) 0 0), (3, .ptr (nb + 3) 0 0), (4, .ptr (nb + 4) 0 0), (51, .msl (nb + 51) 0 c.g.nodes.length 1), (60, .ex (nt + 2 + 1) 1 (rI E0))])
              (loc' := [(62, [[.d (ints c.g.nodes), .d (AM.edges c.g.edges), .d (ints g.nodes), .d (AM.edges g.edges), .msl (nb + 51) 0 c.g.nodes.length 1, .ex (nt + 2 + 1) 1 (rI E0), .d (.raw .nilFunc)]]), (4, [g.cells2]), (3, [c.row])])
              (nt + 1) 51 N0 51 rfl (by show 51 < 69; decide) rfl (by rw [upd_other _ _ (by omega)]; exact upd_same _ _ _) rfl
              ⟨rfl, .same, rfl, .same, rfl, .same, rfl, thTo_exI l1.symm, rfl, .same, trivial⟩
              ⟨rfl, .one (.cons .same (.cons .same (.cons .same (.cons .same (.cons (thTo_exI l1.symm) (.cons .same (.cons .same .nil))))))), rfl, .same, rfl, .same, trivial⟩) ?_
            refine AL.trans (Trans.thawI (l' := [(10, .ptr (nb + 62) 0 0), (3, .ptr (nb + 3) 0 0), (4, .ptr (nb + 4) 0 0), (51, .msl (nb + 51) 0 c.g.nodes.length 1), (60, .msl (nb + 60) 0 c.g.edges.length 1)])
              (loc' := [(51, rowsI N0), (62, [[.d (ints c.g.nodes), .d (AM.edges c.g.edges), .d (ints g.nodes), .d (AM.edges g.edges), .msl (nb + 51) 0 c.g.nodes.length 1, .msl (nb + 60) 0 c.g.edges.length 1, .d (.raw .nilFunc)]]), (4, [g.cells2]), (3, [c.row])])
              (nt + 2 + 1) 60 E0 60 rfl (by show 60 < 69; decide) rfl (by rw [upd_other _ _ (by omega)]; exact upd_same _ _ _) rfl
              ⟨rfl, .same, rfl, .same, rfl, .same, rfl, .same, rfl, thTo_exI l2.symm, trivial⟩
              ⟨rfl, .same, rfl, .one (.cons .same (.cons .same (.cons .same (.cons .same (.cons .same (.cons (thTo_exI l2.symm) (.cons .same .nil))))))), rfl, .same, rfl, .same, trivial⟩) ?_
            have htt : ∀ t, tok t = true → upd (upd (upd (upd tok (nt + 1) true) (nt + 2 + 1) true) (nt + 1) false) (nt + 2 + 1) false t = true := fun t ht => by
              have := htok t ht
              rw [upd_other _ _ (by omega), upd_other _ _ (by omega), upd_other _ _ (by omega), upd_other _ _ (by omega)]; exact ht
            generalize upd (upd (upd (upd tok (nt + 1) true) (nt + 2 + 1) true) (nt + 1) false) (nt + 2 + 1) false = tok1 at *
            try (simp)
            repeat ((repeat (first | refine AL.seq ?_ | refine AL.block ?_ | refine AL.skip ?_ | refine AL.blk ?_)); (refine AL.region follows_Try (Nat.le_refl _) (by kernel_rfl) ?_); simp)
            have hF : ExF c.g g (nb + 62) (nb + 51) (nb + 60) (lb nb box [(4, [g.cells2]), (3, [c.row])]) :=
              ⟨hgc, hg, fun e he => validG_edges V.vb e he, by omega, by omega, by omega, by simp [lb_at, lk], by simp [lb_at, lk]⟩
            refine Stop.of_a (node71_c c.g g (fun q => Cd.hol c.kids[0] g q) 70 [.ptr (nb + 3) 0 0, .ptr (nb + 4) 0 0] (nb + 62) (nb + 51) (nb + 60) (lb nb box [(4, [g.cells2]), (3, [c.row])]) hF ?_ ?_ c.g.nodes.length 0 (by omega) N0 E0 _ _ _ _ ?_ n1 n2 (fun j hj => absurd hj (Nat.not_lt_zero _))) ?_
            · intro c1 hc1
              simp only [List.mem_cons, List.not_mem_nil, or_false] at hc1
              rcases hc1 with rfl | rfl
              · exact .ptr (by simp [lb_at])
              · exact .ptr (by simp [lb_at])
            · intro q box' nb' tok' nt' he q1 q2 q3 q4
              exact acc70_c c _ g q _ hlt rfl (ih _ (List.getElem_mem hlt) q ⟨q1, q2, q3, q4⟩) box' nb' _ _ _ _ (he _ _ (by simp [lb_at])) (he _ _ (by simp [lb_at]))
            · refine ⟨?_, by simp [lb_at], by simp [lb_at], by simp [lb_at], l1, l2⟩
              refine Ext.of_lk fun s r hs => ?_
              rw [lk_cons, lk_cons] at hs
              by_cases e4 : s = 4
              · subst e4; simpa [lk_cons] using hs
              · rw [if_neg (by omega)] at hs
                by_cases e3 : s = 3
                · subst e3; simpa [lk_cons] using hs
                · rw [if_neg (by omega)] at hs; simp [lk] at hs
            rintro v m1 ⟨rfl, N', E', hl, hl2, hE', rfl⟩
            try (simp)
            repeat ((repeat (first | refine AL.seq ?_ | refine AL.block ?_ | refine AL.skip ?_ | refine AL.blk ?_)); (refine AL.region follows_Try (Nat.le_refl _) (by kernel_rfl) ?_); simp)
            repeat (first | refine AL.seq ?_ | refine AL.block ?_ | refine AL.skip ?_ | refine AL.blk ?_)
            refine AL.ret ?_
            try simp only [AU]
            refine ⟨by simp, Fin.gen (by simp [resAs, resA]; rfl) hbox (Nat.le_refl _) (by omega) (fun t ht => ⟨htt t ht, .inr (htok t ht)⟩) (fun k rows _ h => .inl h) (by simp [packA, hR5])⟩
          · have b5 : (c.kind == 5) = false := by simp [k5]
            simp only [b5]
            repeat (first | refine AL.seq ?_ | refine AL.block ?_ | refine AL.skip ?_ | refine AL.blk ?_)
            refine AL.cond ?_
            simp
            try (simp)
            repeat ((repeat (first | refine AL.seq ?_ | refine AL.block ?_ | refine AL.skip ?_ | refine AL.blk ?_)); (refine AL.region follows_Try (Nat.le_refl _) (by kernel_rfl) ?_); simp)
            repeat (first | refine AL.seq ?_ | refine AL.block ?_ | refine AL.skip ?_ | refine AL.blk ?_)
            refine AL.ret ?_
            try simp only [AU]
            refine ⟨by simp, Fin.data (by simp [resAs, resA]; rfl) hbox rfl htok (fun _ h => h) (Nat.le_refl _) ?_⟩
            simp [packA, hR, holStep, k2, k3, k4, k5]
end Go.AM
/-
  shift.Satisfies, agree.
-/
namespace Go.AM
open Go Go.Proofs
set_option linter.unusedSimpArgs false
set_option linter.unusedVariables false

def satR (a : Gr) (c : Cd) (g : Gr) (m : Mo) : Bool × Int := if arrR a g m ≠ 0 then (false, arrR a g m) else if validC a c ≠ 0 then (false, validC a c) else (c.hol g m, 0)
theorem arrR_valid {a b : Gr} {m : Mo} (h : arrR a b m = 0) : validM a b m = 0 ∧ injM a b m = true := by
  unfold arrR at h
  split at h
  · contradiction
  · rename_i h1
    split at h
    · rename_i h2; exact ⟨by simpa using h1, h2⟩
    · contradiction
theorem arrR_flm {a b : Gr} {m : Mo} (h : arrR a b m = 0) : Flm a m :=
  have V := validM_VM (arrR_valid h).1
  ⟨V.ln, V.le, fun x hx => (V.n x hx).1, fun x hx => (V.e x hx).1⟩
theorem validC_ovr {a : Gr} {c : Cd} (h : validC a c = 0) : validG a = 0 ∧ c.ovr a = 0 ∧ smallC c = 0 := by
  unfold validC at h
  split at h
  · contradiction
  · rename_i h1
    split at h
    · contradiction
    · rename_i h2; exact ⟨by simpa using h1, by simpa using h2, h⟩

theorem satisfies_c (a : Gr) (c : Cd) (g : Gr) (m : Mo) (ha : a.Fit) (hc : c.Fit) (hg : g.Fit) (hm : m.Fit) (tok : Nat → Bool) (nt : Nat) : DCall Try.prog 19 [a.av, c.av, g.av, m.av] tok nt (.tup [B (satR a c g m).1, I (satR a c g m).2]) tok nt := by
  intro box nb
  have hi := cdInj_c a g m ha hg hm
  have hv := validC_c a c ha hc
  have hh := fun (h1 : arrR a g m = 0) (h2 : validC a c = 0) => holds43_c _ c (Nat.lt_succ_self _) hc a (validC_ovr h2).2.1 g hg m (arrR_flm h1)
  refine ACalls.of_body Try.func19 rfl (by kernel_rfl) follows_Try (by kernel_rfl) (by simp [Try.ntmps19]) ?_
  intro hbox htok
  simp only at hbox htok
  apply AL.start
  try (simp)
  repeat ((repeat (first | refine AL.seq ?_ | refine AL.block ?_ | refine AL.skip ?_ | refine AL.blk ?_)); (refine AL.region follows_Try (Nat.le_refl _) (by kernel_rfl) ?_); simp)
  refine Stop.of_d (hi _ _) ?_
  simp
  try (simp)
  repeat ((repeat (first | refine AL.seq ?_ | refine AL.block ?_ | refine AL.skip ?_ | refine AL.blk ?_)); (refine AL.region follows_Try (Nat.le_refl _) (by kernel_rfl) ?_); simp)
  by_cases h0 : arrR a g m = 0
  · simp only [h0]
    repeat (first | refine AL.seq ?_ | refine AL.block ?_ | refine AL.skip ?_ | refine AL.blk ?_)
    refine AL.cond ?_
    simp
    try (simp)
    repeat ((repeat (first | refine AL.seq ?_ | refine AL.block ?_ | refine AL.skip ?_ | refine AL.blk ?_)); (refine AL.region follows_Try (Nat.le_refl _) (by kernel_rfl) ?_); simp)
    refine Stop.of_d (hv _ _) ?_
    simp
    try (simp)
    repeat ((repeat (first | refine AL.seq ?_ | refine AL.block ?_ | refine AL.skip ?_ | refine AL.blk ?_)); (refine AL.region follows_Try (Nat.le_refl _) (by kernel_rfl) ?_); simp)
    by_cases h1 : validC a c = 0
    · have hh' := hh h0 h1
      simp only [h1]
      repeat (first | refine AL.seq ?_ | refine AL.block ?_ | refine AL.skip ?_ | refine AL.blk ?_)
      refine AL.cond ?_
      simp
      try (simp)
      repeat ((repeat (first | refine AL.seq ?_ | refine AL.block ?_ | refine AL.skip ?_ | refine AL.blk ?_)); (refine AL.region follows_Try (Nat.le_refl _) (by kernel_rfl) ?_); simp)
      refine Stop.of_d (hh' _ _) ?_
      simp
      try (simp)
      repeat ((repeat (first | refine AL.seq ?_ | refine AL.block ?_ | refine AL.skip ?_ | refine AL.blk ?_)); (refine AL.region follows_Try (Nat.le_refl _) (by kernel_rfl) ?_); simp)
      repeat (first | refine AL.seq ?_ | refine AL.block ?_ | refine AL.skip ?_ | refine AL.blk ?_)
      refine AL.ret ?_
      try simp only [AU]
      refine ⟨by simp, Fin.data (by simp [resAs, resA]; rfl) hbox rfl htok (fun _ h => h) (Nat.le_refl _) ?_⟩
      simp [packA, satR, h0, h1]
    · have b1 : (validC a c != 0) = true := by simp [h1]
      simp only [b1]
      repeat (first | refine AL.seq ?_ | refine AL.block ?_ | refine AL.skip ?_ | refine AL.blk ?_)
      refine AL.cond ?_
      simp
      try (simp)
      repeat ((repeat (first | refine AL.seq ?_ | refine AL.block ?_ | refine AL.skip ?_ | refine AL.blk ?_)); (refine AL.region follows_Try (Nat.le_refl _) (by kernel_rfl) ?_); simp)
      repeat (first | refine AL.seq ?_ | refine AL.block ?_ | refine AL.skip ?_ | refine AL.blk ?_)
      refine AL.ret ?_
      try simp only [AU]
      refine ⟨by simp, Fin.data (by simp [resAs, resA]; rfl) hbox rfl htok (fun _ h => h) (Nat.le_refl _) ?_⟩
      simp [packA, satR, h0, h1]
  · have b0 : (arrR a g m != 0) = true := by simp [h0]
    simp only [b0]
    repeat (first | refine AL.seq ?_ | refine AL.block ?_ | refine AL.skip ?_ | refine AL.blk ?_)
    refine AL.cond ?_
    simp
    try (simp)
    repeat ((repeat (first | refine AL.seq ?_ | refine AL.block ?_ | refine AL.skip ?_ | refine AL.blk ?_)); (refine AL.region follows_Try (Nat.le_refl _) (by kernel_rfl) ?_); simp)
    repeat (first | refine AL.seq ?_ | refine AL.block ?_ | refine AL.skip ?_ | refine AL.blk ?_)
    refine AL.ret ?_
    try simp only [AU]
    refine ⟨by simp, Fin.data (by simp [resAs, resA]; rfl) hbox rfl htok (fun _ h => h) (Nat.le_refl _) ?_⟩
    simp [packA, satR, h0]

/-- Two ways that lead to the same. -/
def agrK (a b c d : List Int) (i : Nat) : Bool := decide (∀ j, j < i → b.getD (a.getD j 0).toNat 0 = d.getD (c.getD j 0).toNat 0)
def stAg (a b c d : List Int) (nb : Nat) (box : Nat → Option (List (List AV))) (tok : Nat → Bool) (nt : Nat) (i : Nat) : AState :=
  ⟨tl [(11, I a.length), (12, I i), (0, .d (ints a)), (1, .d (ints b)), (2, .d (ints c)), (3, .d (ints d))], lb nb box [], tok, nt⟩
theorem agree_c (a b c d : List Int) (hl : a.length ≤ 1000000) (h1 : ∀ x ∈ a, 0 ≤ x ∧ x < b.length) (hc : a.length ≤ c.length) (h2 : ∀ x ∈ c, 0 ≤ x ∧ x < d.length) (tok : Nat → Bool) (nt : Nat) :
    DCall Try.prog 83 [.d (ints a), .d (ints b), .d (ints c), .d (ints d)] tok nt (B (agrK a b c d a.length)) tok nt := by
  intro box nb
  refine ACalls.of_body Try.func83 rfl (by kernel_rfl) follows_Try (by kernel_rfl) (by simp [Try.ntmps83]) ?_
  intro hbox htok
  simp only at hbox htok
  apply AL.start
  try (simp)
  repeat ((repeat (first | refine AL.seq ?_ | refine AL.block ?_ | refine AL.skip ?_ | refine AL.blk ?_)); (refine AL.region follows_Try (Nat.le_refl _) (by kernel_rfl) ?_); simp)
  repeat (first | refine AL.seq ?_ | refine AL.block ?_ | refine AL.skip ?_ | refine AL.blk ?_)
  refine AL.loopT (stAg a b c d nb box tok nt) (fun i => i ≤ a.length ∧ agrK a b c d i = true) (fun i => a.length - i) 0 ⟨Nat.zero_le _, by simp [agrK]⟩ (Weaks.mk (Nat.le_refl _) rfl (by simp [ToL, lk]) (by simp [BoxL, lk])) ?_
  rintro i S ⟨hi, hz⟩ hS
  simp only [stAg] at hS
  subst hS
  have hw : IntKind.i64.wrap (↑i + 1) = ((i + 1 : Nat) : Int) := by rw [wrap_in (by omega) (by omega)]; rfl
  try (simp)
  repeat ((repeat (first | refine AL.seq ?_ | refine AL.block ?_ | refine AL.skip ?_ | refine AL.blk ?_)); (refine AL.region follows_Try (Nat.le_refl _) (by kernel_rfl) ?_); simp)
  repeat (first | refine AL.seq ?_ | refine AL.block ?_ | refine AL.skip ?_ | refine AL.blk ?_)
  refine AL.cond ?_
  simp
  refine ⟨fun hlt => ?_, fun hge => ?_⟩
  · have hic : i < c.length := by omega
    obtain ⟨x1, x2⟩ := h1 _ (List.getElem_mem hlt)
    obtain ⟨y1, y2⟩ := h2 _ (List.getElem_mem hic)
    have x3 : a[i].toNat < b.length := by omega
    have y3 : c[i].toNat < d.length := by omega
    have hyes : b[a[i].toNat] = d[c[i].toNat] → agrK a b c d (i + 1) = true := fun he => by
      simp only [agrK, decide_eq_true_eq] at hz ⊢
      intro j hj
      by_cases e : j = i
      · subst e; simpa [hlt, hic, x3, y3] using he
      · exact hz j (by omega)
    have hno : b[a[i].toNat] ≠ d[c[i].toNat] → agrK a b c d a.length = false := fun he => by
      simp only [agrK, decide_eq_false_iff_not]
      intro h
      have := h i hlt
      simp [hlt, hic, x3, y3] at this
      exact he this
    try (simp [hlt, hic, x1, x3, y1, y3, x2, y2])
    repeat ((repeat (first | refine AL.seq ?_ | refine AL.block ?_ | refine AL.skip ?_ | refine AL.blk ?_)); (refine AL.region follows_Try (Nat.le_refl _) (by kernel_rfl) ?_); simp [hlt, hic, x1, x3, y1, y3, x2, y2])
    by_cases he : b[a[i].toNat] = d[c[i].toNat]
    · have hy := hyes he
      simp only [he]
      repeat (first | refine AL.seq ?_ | refine AL.block ?_ | refine AL.skip ?_ | refine AL.blk ?_)
      refine AL.cond ?_
      simp
      try (simp [hw])
      repeat ((repeat (first | refine AL.seq ?_ | refine AL.block ?_ | refine AL.skip ?_ | refine AL.blk ?_)); (refine AL.region follows_Try (Nat.le_refl _) (by kernel_rfl) ?_); simp [hw])
      repeat (first | refine AL.seq ?_ | refine AL.block ?_ | refine AL.skip ?_ | refine AL.blk ?_)
      refine AL.nil ?_
      exact ⟨i + 1, ⟨hlt, hy⟩, by omega, Weaks.mk (Nat.le_refl _) rfl (by simp [ToL, lk]) (by simp [BoxL, lk])⟩
    · have hn := hno he
      have bn : (b[a[i].toNat] != d[c[i].toNat]) = true := by simp [he]
      simp only [bn]
      repeat (first | refine AL.seq ?_ | refine AL.block ?_ | refine AL.skip ?_ | refine AL.blk ?_)
      refine AL.cond ?_
      simp
      try (simp)
      repeat ((repeat (first | refine AL.seq ?_ | refine AL.block ?_ | refine AL.skip ?_ | refine AL.blk ?_)); (refine AL.region follows_Try (Nat.le_refl _) (by kernel_rfl) ?_); simp)
      repeat (first | refine AL.seq ?_ | refine AL.block ?_ | refine AL.skip ?_ | refine AL.blk ?_)
      refine AL.ret ?_
      try simp only [AU]
      refine ⟨by simp, Fin.data (by simp [resAs, resA]; rfl) hbox rfl htok (fun _ h => h) (Nat.le_refl _) ?_⟩
      simp [packA, hn]
  · repeat (first | refine AL.seq ?_ | refine AL.block ?_ | refine AL.skip ?_ | refine AL.blk ?_)
    refine AL.exit ?_
    simp only [AU, ↓reduceIte]
    have : i = a.length := by omega
    subst this
    try (simp)
    repeat ((repeat (first | refine AL.seq ?_ | refine AL.block ?_ | refine AL.skip ?_ | refine AL.blk ?_)); (refine AL.region follows_Try (Nat.le_refl _) (by kernel_rfl) ?_); simp)
    repeat (first | refine AL.seq ?_ | refine AL.block ?_ | refine AL.skip ?_ | refine AL.blk ?_)
    refine AL.ret ?_
    try simp only [AU]
    refine ⟨by simp, Fin.data (by simp [resAs, resA]; rfl) hbox rfl htok (fun _ h => h) (Nat.le_refl _) ?_⟩
    simp [packA, hz]
end Go.AM
/-
  What all standard overlaps are, and what shifting computes.
-/
namespace Go.AM
open Go Go.Proofs
set_option linter.unusedSimpArgs false
set_option linter.unusedVariables false

/-- A morphism that stays within. -/
structure Inn (m : Mo) (a b : Gr) : Prop where
  ln : m.nodes.length = a.nodes.length
  le : m.edges.length = a.edges.length
  n : ∀ x ∈ m.nodes, 0 ≤ x ∧ x < b.nodes.length
  e : ∀ x ∈ m.edges, 0 ≤ x ∧ x < b.edges.length
theorem Inn.of {a b : Gr} {m : Mo} (h : validM a b m = 0) : Inn m a b := have V := validM_VM h; ⟨V.ln, V.le, V.n, V.e⟩

structure OvOk (b p : Gr) (o : Ov) : Prop where
  l : validM b o.g o.l = 0
  r : validM p o.g o.r = 0
  il : injM b o.g o.l = true
  ir : injM p o.g o.r = true

theorem overlapsR_ok {b p : Gr} {o : Ov} (ho : o ∈ (overlapsR b p).1) : OvOk b p o := by
  by_cases hb : validG b = 0
  · by_cases hp : validG p = 0
    · by_cases hs : 40 < b.nodes.length + p.nodes.length ∨ 80 < b.edges.length + p.edges.length
      · simp [overlapsR, hb, hp, hs] at ho
      · rw [overlapsR_list b p hb hp hs] at ho
        split at ho
        · simp at ho
        · simp only [listO, List.mem_map] at ho
          obtain ⟨⟨x, es⟩, h1, rfl⟩ := ho
          have hp1 := (pairsM_mem b p _).1 h1
          have g1 := glue_law hb hp (by omega) hp1
          have g2 := glue_law2 hb hp (by omega) hp1
          exact ⟨g1.2.1, g1.2.2, g2.1, g2.2.1⟩
    · simp [overlapsR, hb, hp] at ho
  · simp [overlapsR, hb] at ho
theorem overlapsR_err {b p : Gr} (hb : validG b = 0) (hp : validG p = 0) : (overlapsR b p).2 = 0 ∨ (overlapsR b p).2 = 3 := by
  unfold overlapsR
  rw [if_neg (by simp [hb]), if_neg (by simp [hp])]
  split
  · exact .inr rfl
  · split
    · exact .inr rfl
    · exact .inl rfl

/-! ### Shifting -/
abbrev St2 := Int × Int
def seqL {α : Type} (f : α → St2 → List Cd × St2) : List α → St2 → List Cd × St2
  | [], st => ([], st)
  | x :: r, st => ((f x st).1 ++ (seqL f r (f x st).2).1, (seqL f r (f x st).2).2)
theorem seqL_append {α : Type} (f : α → St2 → List Cd × St2) (x : α) : ∀ (l : List α) (st : St2), seqL f (l ++ [x]) st = ((seqL f l st).1 ++ (f x (seqL f l st).2).1, (f x (seqL f l st).2).2)
  | [], st => by simp [seqL]
  | y :: r, st => by simp [seqL, seqL_append f x r]
theorem seqL_take {α : Type} (f : α → St2 → List Cd × St2) (l : List α) (st : St2) {i : Nat} (h : i < l.length) :
    seqL f (l.take (i + 1)) st = ((seqL f (l.take i) st).1 ++ (f l[i] (seqL f (l.take i) st).2).1, (f l[i] (seqL f (l.take i) st).2).2) := by
  rw [List.take_succ_eq_append_getElem h, seqL_append]

def cdOf (k : Int) (kids : List Cd) : Cd := .mk k kids ⟨[], []⟩ ⟨[], []⟩ [] 0 []
def exOf (o : Ov) (kid : Cd) : Cd := .mk 5 [kid] o.l o.g [] 0 []
def agrO (m mm : Mo) (o : Ov) : Bool := agrK m.nodes o.l.nodes mm.nodes o.r.nodes m.nodes.length && agrK m.edges o.l.edges mm.edges o.r.edges m.edges.length
def inc (n : Int) : Int := IntKind.i64.wrap (n + 1)
def ovF (m mm : Mo) (H : Gr → Mo → St2 → Cd × St2) (o : Ov) (st : St2) : List Cd × St2 :=
  if agrO m mm o = true then ([exOf o (H o.g o.r (inc st.1, st.2)).1], (H o.g o.r (inc st.1, st.2)).2) else ([], st)
def st1 (st : St2) : St2 := (inc st.1, if 2000 < inc st.1 then 3 else st.2)
def shStep (k : Int) (mm : Mo) (p b : Gr) (m : Mo) (st : St2) (L : St2 → List Cd × St2) (H : Gr → Mo → St2 → Cd × St2) : Cd × St2 :=
  if (st1 st).2 ≠ 0 then (cdOf k [], st1 st)
  else if k ≠ 5 then (cdOf k (L (st1 st)).1, (L (st1 st)).2)
  else if (overlapsR b p).2 ≠ 0 then (cdOf 4 [], ((st1 st).1, (overlapsR b p).2))
  else (cdOf 4 (seqL (ovF m mm H) (overlapsR b p).1 (st1 st)).1, (seqL (ovF m mm H) (overlapsR b p).1 (st1 st)).2)
mutual
def Cd.shf : Cd → Gr → Mo → St2 → Cd × St2
  | .mk k c mm p s v t, b, m, st => shStep k mm p b m st (fun st => Cd.shfL c b m st) (fun b m st => Cd.shfH c b m st)
def Cd.shfL : List Cd → Gr → Mo → St2 → List Cd × St2
  | [], _, _, st => ([], st)
  | x :: r, b, m, st => ([(Cd.shf x b m st).1] ++ (Cd.shfL r b m (Cd.shf x b m st).2).1, (Cd.shfL r b m (Cd.shf x b m st).2).2)
def Cd.shfH : List Cd → Gr → Mo → St2 → Cd × St2
  | [], _, _, st => (cdOf 0 [], st)
  | x :: _, b, m, st => Cd.shf x b m st
end
def shF (b : Gr) (m : Mo) (x : Cd) (st : St2) : List Cd × St2 := ([(Cd.shf x b m st).1], (Cd.shf x b m st).2)
theorem Cd.shfL_eq (b : Gr) (m : Mo) : ∀ (l : List Cd) (st : St2), Cd.shfL l b m st = seqL (shF b m) l st
  | [], st => by simp [Cd.shfL, seqL]
  | x :: r, st => by simp [Cd.shfL, seqL, shF, Cd.shfL_eq b m r]
theorem Cd.shf_eq (c : Cd) (b : Gr) (m : Mo) (st : St2) : c.shf b m st = shStep c.kind c.m c.g b m st (fun st => seqL (shF b m) c.kids st) (fun b m st => Cd.shfH c.kids b m st) := by
  cases c
  simp only [Cd.shf, Cd.shfL_eq]
  rfl
end Go.AM
/-
  The abstract machine: regions whose order is open, and in which a call writes a box.
-/
namespace Go.AM
open Go
set_option linter.unusedSimpArgs false
set_option linter.unusedVariables false

variable {P : Program}

theorem EffV.val {o : Oper} {ρ : Operand → AV} {box box' : Nat → Option (List (List AV))} {tok tok' : Nat → Bool} {nt nt' : Nat} {v : AV} (h : EffV P o ρ box tok nt v box' tok' nt') : isVal o.op = true := by
  unfold EffV at h
  split at h
  · rename_i c ho
    split at h
    · rename_i f hf
      rw [ho]
      obtain ⟨cal, args, tys⟩ := c
      simp only at hf
      subst hf
      rfl
    · exact h.elim
  · exact h.elim
theorem EffV.spec {o : Oper} {ρ : Operand → AV} {box box' : Nat → Option (List (List AV))} {tok tok' : Nat → Bool} {nt nt' : Nat} {v : AV} (h : EffV P o ρ box tok nt v box' tok' nt') :
    ∃ x k i off rows, callPtr o.op = some x ∧ ρ x = .ptr k i off ∧ box' = upd box k (some rows) := by
  unfold EffV at h
  split at h
  · split at h
    · split at h
      · obtain ⟨x, k, i, off, rows, g1, g2, g3, g4, g5⟩ := h
        exact ⟨x, k, i, off, rows, g1, g2, g4⟩
      · exact h.elim
    · exact h.elim
  · exact h.elim

theorem Eff.up {wr : Bool} {base : Nat} {o : Oper} {ρ : Operand → AV} {box box' : Nat → Option (List (List AV))} {tok tok' : Nat → Bool} {nt nt' : Nat} {v : AV} (h : Eff P false base o ρ box tok nt v box' tok' nt') : Eff P wr base o ρ box tok nt v box' tok' nt' := by
  unfold Eff at h ⊢
  cases hc : cls o.op <;> simp only [hc] at h ⊢ <;> first | exact h | exact .inl (t_false h)
theorem Eff.down {wr : Bool} {base : Nat} {o : Oper} {ρ : Operand → AV} {box box' : Nat → Option (List (List AV))} {tok tok' : Nat → Bool} {nt nt' : Nat} {v : AV} (hv : isVal o.op = false) (h : Eff P wr base o ρ box tok nt v box' tok' nt') : Eff P false base o ρ box tok nt v box' tok' nt' := by
  unfold Eff at h ⊢
  cases hc : cls o.op <;> simp only [hc] at h ⊢ <;> first | exact h | skip
  rcases h with h | ⟨_, h⟩
  · exact .inl h
  · rw [h.val] at hv; cases hv
theorem Step.up {wr : Bool} {base : Nat} {o : Oper} {S S' : AState} (h : Step P false base o S S') : Step P wr base o S S' := by
  obtain ⟨v, b, t, n, h1, h2⟩ := h
  exact ⟨v, b, t, n, h1.up, h2⟩

def ptrOp3 (o : Op) : Option Operand := match ptrOp o with
  | some p => some p
  | none => callPtr o
def calm (x y : Oper) : Bool := match isVal x.op, isVal y.op with
  | true, true => false
  | true, false => decide (cls y.op = .n) || decide (cls y.op = .r)
  | false, true => decide (cls x.op = .n) || decide (cls x.op = .r)
  | false, false => !clash x y || isPtr x.op && isPtr y.op

theorem load_ptr {o : Oper} (h : cls o.op = .r) : ∃ p, ptrOp o.op = some p := by
  cases hop : o.op <;> rw [hop] at h <;> simp only [cls, reduceCtorEq] at h
  · exact ⟨_, rfl⟩
  · split at h <;> first | (rename_i e; cases e; done) | (cases h; done) | simp_all
theorem val_cls {o : Op} (h : isVal o = true) : cls o = .t ∧ ptrOp o = none := by
  unfold isVal at h
  split at h
  · exact ⟨rfl, rfl⟩
  · cases h

theorem calm_swap {base : Nat} {x y : Oper} {ρ : Operand → AV} {b0 b1 b2 : Nat → Option (List (List AV))} {t0 t1 t2 : Nat → Bool} {n0 n1 n2 : Nat} {vx vy : AV} (hc : calm x y = true)
    (hk : ∀ p q, ptrOp3 x.op = some p → ptrOp3 y.op = some q → (cls x.op ≠ .r ∨ cls y.op ≠ .r) → ∀ k i off k' i' off', ρ p = .ptr k i off → ρ q = .ptr k' i' off' → k ≠ k')
    (hx : Eff P true base x ρ b0 t0 n0 vx b1 t1 n1) (hy : Eff P true base y ρ b1 t1 n1 vy b2 t2 n2) : ∃ c t n, Eff P true base y ρ b0 t0 n0 vy c t n ∧ Eff P true base x ρ c t n vx b2 t2 n2 := by
  unfold calm at hc
  cases vx' : isVal x.op <;> cases vy' : isVal y.op <;> simp only [vx', vy'] at hc
  · have dx := hx.down vx'
    have dy := hy.down vy'
    cases hcl : clash x y with
    | false =>
      obtain ⟨c, t, n, h1, h2⟩ := eff_swap hcl dx dy
      exact ⟨c, t, n, h1.up, h2.up⟩
    | true =>
      rw [hcl] at hc
      simp only [Bool.not_true, Bool.false_or, Bool.and_eq_true] at hc
      obtain ⟨p, hp⟩ := Option.isSome_iff_exists.1 hc.1
      obtain ⟨q, hq⟩ := Option.isSome_iff_exists.1 hc.2
      have hp3 : ptrOp3 x.op = some p := by unfold ptrOp3; rw [hp]
      have hq3 : ptrOp3 y.op = some q := by unfold ptrOp3; rw [hq]
      have hr : cls x.op ≠ .r ∨ cls y.op ≠ .r := by
        by_cases e1 : cls x.op = .r
        · by_cases e2 : cls y.op = .r
          · simp [clash, e1, e2] at hcl
          · exact .inr e2
        · exact .inl e1
      obtain ⟨c, t, n, h1, h2⟩ := eff_far hp hq (hk p q hp3 hq3 hr) dx dy
      exact ⟨c, t, n, h1.up, h2.up⟩
  · -- the call comes second
    obtain ⟨cy, py⟩ := val_cls vy'
    unfold Eff at hx hy ⊢
    simp only [Bool.or_eq_true, decide_eq_true_eq] at hc
    rcases hc with hc | hc <;> simp only [hc, cy] at hx hy ⊢
    · obtain ⟨e, rfl, rfl, rfl⟩ := hx
      exact ⟨_, _, _, hy, e, rfl, rfl, rfl⟩
    · obtain ⟨e, rfl, rfl, rfl⟩ := hx
      obtain ⟨p, hp⟩ := load_ptr hc
      refine ⟨_, _, _, hy, ?_, rfl, rfl, rfl⟩
      rcases hy with ⟨_, rfl⟩ | ⟨_, hv⟩
      · exact e
      · obtain ⟨z, k, i, off, rows, g1, g2, rfl⟩ := hv.spec
        refine effR_ptr hp hc e fun k1 i1 off1 h1 => ?_
        exact hk p z (by unfold ptrOp3; rw [hp]) (by unfold ptrOp3; rw [py]; exact g1) (.inr (by rw [cy]; decide)) _ _ _ _ _ _ h1 g2
  · -- the call comes first
    obtain ⟨cx, px⟩ := val_cls vx'
    unfold Eff at hx hy ⊢
    simp only [Bool.or_eq_true, decide_eq_true_eq] at hc
    rcases hc with hc | hc <;> simp only [hc, cx] at hx hy ⊢
    · obtain ⟨e, rfl, rfl, rfl⟩ := hy
      exact ⟨_, _, _, ⟨e, rfl, rfl, rfl⟩, hx⟩
    · obtain ⟨e, rfl, rfl, rfl⟩ := hy
      obtain ⟨q, hq⟩ := load_ptr hc
      refine ⟨_, _, _, ⟨?_, rfl, rfl, rfl⟩, hx⟩
      rcases hx with ⟨_, rfl⟩ | ⟨_, hv⟩
      · exact e
      · obtain ⟨z, k, i, off, rows, g1, g2, rfl⟩ := hv.spec
        refine effR_back hq hc (fun k1 i1 off1 h1 => ?_) e
        exact Ne.symm (hk z q (by unfold ptrOp3; rw [px]; exact g1) (by unfold ptrOp3; rw [hq]) (.inl (by rw [cx]; decide)) _ _ _ _ _ _ g2 h1)
  · cases hc

def regOk3 (ops : Array Oper) : Bool :=
  let an := ancs ops.toList []
  dstUniq ops && (List.range ops.size).all fun i => (match ops[i]? with | some o => (direct o).all fun j => decide (j < i) | none => true) &&
    (List.range i).all fun j => (an.getD i 0).testBit j || (match ops[j]?, ops[i]? with
      | some x, some y => Oper.apart ops x y && calm x y
      | _, _ => false)

/-- The pairs of pointers that nothing orders, one of them a store's or a call's. -/
def unPairs (ops : Array Oper) : List (Operand × Operand) :=
  let an := ancs ops.toList []
  (List.range ops.size).flatMap fun i => (List.range i).filterMap fun j => if (an.getD i 0).testBit j then none else match ops[j]?, ops[i]? with
    | some x, some y => match ptrOp3 x.op, ptrOp3 y.op with
      | some p, some q => if cls x.op = .r ∧ cls y.op = .r then none else some (p, q)
      | _, _ => none
    | _, _ => none
def FarP (S : AState) : List (Operand × Operand) → Prop
  | [] => True
  | (p, q) :: r => NK (S.ev p) (S.ev q) ∧ FarP S r
theorem FarP.at {S : AState} {p q : Operand} : ∀ {L : List (Operand × Operand)}, FarP S L → (p, q) ∈ L → NK (S.ev p) (S.ev q)
  | (a, b) :: r, h, hm => by
    rcases List.mem_cons.1 hm with e | hm
    · cases e; exact h.1
    · exact FarP.at h.2 hm
theorem unPairs_mem {ops : Array Oper} {i j : Nat} {x y : Oper} {p q : Operand} (hx : ops[j]? = some x) (hy : ops[i]? = some y) (hij : j < i) (hb : ((ancs ops.toList []).getD i 0).testBit j = false) (hp : ptrOp3 x.op = some p) (hq : ptrOp3 y.op = some q) (hr : cls x.op ≠ .r ∨ cls y.op ≠ .r) : (p, q) ∈ unPairs ops := by
  have his : i < ops.size := (Array.getElem?_eq_some_iff.1 hy).1
  unfold unPairs
  simp only [List.mem_flatMap, List.mem_range, List.mem_filterMap]
  refine ⟨i, his, j, hij, ?_⟩
  have hnr : ¬ (cls x.op = .r ∧ cls y.op = .r) := fun h => by rcases hr with hr | hr; exact hr h.1; exact hr h.2
  rw [hb, hx, hy]
  simp [hp, hq, hnr]

theorem any_sound3 {n nb base : Nat} {ops : Array Oper} {Q : Exit → Act → World → Prop} {Sf : AState} {G0 : Gh} {w0 : World} {b0 : Nat → Option (List (List AV))} (hreg : regOk3 ops = true) (hal : allocOk ops = true) (hdst : dstOk n ops = true) (hnb : base + n ≤ nb)
    (hfar : FarP Sf (unPairs ops))
    (hQ : ∀ a' w' G', RelS n nb G' Sf a' w' → LeK base G0 w0 b0 G' w' Sf.box → Q .normal a' w') (fuel : Nat) (listed : Array Bool) (rem : List Nat) (S : AState) (a : Act) (w : World) (G : Gh) (hrem : rem = List.range ops.size) (hside : Side ops S)
    (h1 : listed.size = ops.size) (h2 : rem = (List.range ops.size).filter (fun i => !listed.getD i true)) (h3 : rem.length = fuel) (h4 : ∀ i o, ops[i]? = some o → listed.getD i false = true → ∀ j ∈ direct o, listed.getD j false = true)
    (h5 : IRun P true base ops rem S Sf) (h6 : RelS n nb G S a w) (h7 : ∀ i ∈ rem, ∀ o, ops[i]? = some o → Pend P base o G S.box) (h8 : LeK base G0 w0 b0 G w S.box) : wpAny P .any ops Q fuel listed a w := by
  unfold regOk3 at hreg
  simp only [Bool.and_eq_true] at hreg
  obtain ⟨hu, hreg⟩ := hreg
  have key : ∀ (i : Nat) (o : Oper), ops[i]? = some o → (∀ j ∈ direct o, j < i) ∧ ∀ j x, ops[j]? = some x → j < i → ((ancs ops.toList []).getD i 0).testBit j = true ∨ x.apart ops o = true ∧ calm x o = true := by
    intro i o ho
    have his : i < ops.size := (Array.getElem?_eq_some_iff.1 ho).1
    have hall := List.all_eq_true.1 hreg i (by simpa using his)
    rw [ho] at hall
    simp only [Bool.and_eq_true] at hall
    refine ⟨fun j hj => by simpa using List.all_eq_true.1 hall.1 j hj, fun j x hx hj => ?_⟩
    have h2 := List.all_eq_true.1 hall.2 j (by simpa using hj)
    rw [hx] at h2
    simpa only [Bool.or_eq_true, Bool.and_eq_true] using h2
  have start : Ivs Sf S := by
    intro t
    by_cases hd : ∃ o ∈ ops.toList, o.dst = some t
    · obtain ⟨o, ho, hd⟩ := hd
      exact .inr (hside o ho t hd)
    · refine .inl (irun_keeps (fun j _ x hx hxd => hd ⟨x, by simpa using Array.mem_of_getElem? hx, hxd⟩) h5).symm
  refine any_sound' (wr := true) (fun i o ho => (key i o ho).1) (Iv := Ivs Sf) (fun i o S' S'' rest ho hni hst hrun hiv => ivs_step hu i o S' S'' rest ho hni hst hrun hiv) ?_ hal hdst hnb hQ fuel listed rem S a w G h1 h2 h3 h4 start h5 h6 h7 h8
  intro i j o x ho hx hj hb S' S1 S2 hiv g1 g2
  rcases (key i o ho).2 j x hx hj with h | ⟨h, h'⟩
  · rw [hb] at h; cases h
  · refine gstep_swap' h (fun {c0 c1 c2 s0 s1 s2 m0 m1 m2 vx vy} e1 e2 => ?_) g1 g2
    have back : ∀ (z : Operand) k i off, S'.ev z = .ptr k i off → Sf.ev z = .ptr k i off := by
      intro z k i off hz
      cases z with
      | tmp t =>
        rcases hiv t with e | e
        · exact e.symm.trans hz
        · have hz' : S'.tmps t = .ptr k i off := hz
          rw [hz'] at e
          exact e.elim
      | const c => exact hz
      | global c => exact hz
      | func c => exact hz
    refine calm_swap h' (fun p q hp hq hr k i1 off k' i2 off' hk hk' => ?_) e1 e2
    have hnk := hfar.at (unPairs_mem hx ho hj hb hp hq hr)
    rw [back p _ _ _ hk, back q _ _ _ hk'] at hnk
    exact hnk

/-! ### The evaluator -/
def StopW (P : Program) (o : Oper) (fid : FuncId) (args : List AV) (S : AState) (K : AState → Prop) : Prop :=
  (∃ v tok' nt', RCall P fid args S.box S.tok S.nt v tok' nt' ∧ K ⟨putT S.tmps o.dst v, S.box, tok', nt'⟩) ∨
  ∃ x k i off rows v tok' nt', callPtr o.op = some x ∧ S.ev x = .ptr k i off ∧ S.box k ≠ none ∧ WCall P fid args k S.box S.tok S.nt v rows tok' nt' ∧ K ⟨putT S.tmps o.dst v, upd S.box k (some rows), tok', nt'⟩

def FOneW (P : Program) (cx : Cx) (o : Oper) (K : AState → Prop) (S : AState) : Prop := match callFn o S.ev with
  | some (fid, args) => StopW P o fid args S K
  | none => FOne P cx true o K S

def FOpsW (P : Program) (cx : Cx) (ops : Array Oper) : List Oper → (AState → Prop) → AState → Prop
  | [], K, S => K S
  | o :: r, K, S => match o.guard with
    | none => FOneW P cx o (FOpsW P cx ops r K) S
    | some (j, want) => match yieldA ops S j with
      | some (some b) => Gd b want (FOneW P cx o (FOpsW P cx ops r K)) (FSkip o.dst (FOpsW P cx ops r K)) S
      | some none => FSkip o.dst (FOpsW P cx ops r K) S
      | none => False

theorem fOpsW_true {cx : Cx} {ops : Array Oper} {K : AState → Prop} : ∀ (l : List Oper) (S : AState), FOpsW P cx ops l K S → ∃ S', ARun P true cx.base ops l S S' ∧ K S'
  | [], S, h => ⟨S, rfl, h⟩
  | o :: r, S, h => by
    have one : FOneW P cx o (FOpsW P cx ops r K) S → ∃ S1 S', Step P true cx.base o S S1 ∧ ARun P true cx.base ops r S1 S' ∧ K S' := by
      intro h1
      unfold FOneW at h1
      split at h1
      · rename_i fid args hc
        unfold callFn at hc
        split at hc
        · rename_i c ho
          split at hc
          · rename_i f hcal
            split at hc
            · rename_i fid' caps hf
              simp only [Option.some.injEq, Prod.mk.injEq] at hc
              obtain ⟨rfl, rfl⟩ := hc
              have hcl : cls o.op = .t := by
                rw [ho]
                obtain ⟨cal, args, tys⟩ := c
                simp only at hcal
                subst hcal
                rfl
              rcases h1 with ⟨v, tok', nt', hd, hk'⟩ | ⟨x, k, i, off, rows, v, tok', nt', g1, g2, g3, hw, hk'⟩
              · obtain ⟨S', h2, h3⟩ := fOpsW_true r _ hk'
                refine ⟨_, S', ⟨v, S.box, tok', nt', ?_, rfl⟩, h2, h3⟩
                unfold Eff
                rw [hcl]
                refine .inl ⟨.inr ?_, rfl⟩
                unfold EffC
                simp only [ho, hcal, hf]
                exact hd
              · obtain ⟨S', h2, h3⟩ := fOpsW_true r _ hk'
                refine ⟨_, S', ⟨v, upd S.box k (some rows), tok', nt', ?_, rfl⟩, h2, h3⟩
                unfold Eff
                rw [hcl]
                refine .inr ⟨rfl, ?_⟩
                unfold EffV
                rw [ho] at g1 ⊢
                simp only [hcal, hf]
                exact ⟨x, k, i, off, rows, g1, g2, g3, rfl, hw⟩
            · cases hc
          · cases hc
        · cases hc
      · rename_i hc
        rcases fOne_cases h1 with ⟨_, S1, hs, hk⟩ | ⟨hdr, _⟩ | ⟨fid, args, hc', hk⟩
        · obtain ⟨S', h2, h3⟩ := fOpsW_true r S1 hk
          exact ⟨S1, S', hs.up, h2, h3⟩
        · cases hdr
        · rw [hc] at hc'; cases hc'
    unfold FOpsW at h
    unfold ARun
    split at h
    · rename_i hg
      obtain ⟨S1, S', h1, h2, h3⟩ := one h
      exact ⟨S', ⟨S1, by unfold GStep; rw [hg]; exact h1, h2⟩, h3⟩
    · rename_i j want hg
      split at h
      · rename_i b hy
        by_cases e : b = want
        · obtain ⟨S1, S', h1, h2, h3⟩ := one (h.1 e)
          exact ⟨S', ⟨S1, by unfold GStep; rw [hg]; simp only [hy, e, ↓reduceIte]; exact h1, h2⟩, h3⟩
        · obtain ⟨S', h2, h3⟩ := fOpsW_true r _ (h.2 (by cases b <;> cases want <;> simp_all))
          exact ⟨S', ⟨_, by unfold GStep; rw [hg]; simp only [hy, Option.some.injEq, e, ↓reduceIte], h2⟩, h3⟩
      · rename_i hy
        obtain ⟨S', h2, h3⟩ := fOpsW_true r _ h
        exact ⟨S', ⟨_, by unfold GStep; rw [hg]; simp only [hy, reduceCtorEq, ↓reduceIte], h2⟩, h3⟩
      · exact h.elim

def FRegW (P : Program) (cx : Cx) (ops : Array Oper) (K : AState → Prop) (S : AState) : Prop := match preF P cx.base ops.toList S.box with
  | some b => FOpsW P cx ops ops.toList K ⟨S.tmps, b, S.tok, S.nt⟩
  | none => False

theorem AL.region3 {cx : Cx} {nt0 : Nat} {K : Exit → AState → Prop} {r : List CI} {S : AState} {id : Nat} {ops : Array Oper} (hf : P.follows .mixedOrders = true) (hnb : cx.base + cx.n ≤ cx.nb) (hok : (allocOk ops && dstOk cx.n ops && regOk3 ops) = true) (hside : Side ops S) (L : List (Operand × Operand)) (hL : unPairs ops = L)
    (h : FRegW P cx ops (fun S' => FarP S' L ∧ AL P cx nt0 K r S') S) : AL P cx nt0 K (.c (.region id ops true) :: r) S := by
  simp only [AL]
  simp only [Bool.and_eq_true] at hok
  obtain ⟨⟨hal, hdst⟩, hreg⟩ := hok
  intro G0 w0 he hn G a w hr hl
  have hd := dstOk_spec hdst
  have hpre : PreB P cx.base ops.toList S.box fun b => ∃ S', ARun P true cx.base ops ops.toList { S with box := b } S' ∧ FarP S' L ∧ AL P cx nt0 K r S' := by
    unfold FRegW at h
    split at h
    · rename_i b hb
      exact preF_sound _ _ b hb (fOpsW_true _ _ h)
    · exact h.elim
  obtain ⟨b, hb, hr1, hp, hkeep⟩ := preB_sound hnb ops.toList S.box (S := S) hr (fun o ho d hod => hd o d (by simpa using ho) hod) (allocOk_nodup hal) hpre
  have hl1 : LeC cx G0 w0 G w { S with box := b } := ⟨hl.1, fun k hk hg => by
    rw [← hl.2 k hk hg]
    refine hkeep k fun hm => ?_
    obtain ⟨o, ho, he⟩ := List.mem_filterMap.1 hm
    split at he
    · rename_i T s h1 h2
      simp only [Option.some.injEq] at he
      subst he
      exact absurd hk (by simp)
    · cases he⟩
  obtain ⟨S', hrun, hfar, hK⟩ := hb
  refine wp_region_any hf ?_
  have hrd : RelS cx.n cx.nb G { S with box := b } a w.drew := hr1.drew
  have hld : LeC cx G0 w0 G w.drew { S with box := b } := hl1.step ⟨Le.drew, fun k _ hg => ⟨hg, rfl⟩⟩
  refine any_sound3 (n := cx.n) (nb := cx.nb) (base := cx.base) (Sf := S') (G0 := G) (w0 := w.drew) (b0 := b) hreg hal hdst hnb (by rw [hL]; exact hfar) (fun a' w' G' h1 h2 => ⟨S', G', hK, h1, hld.step h2⟩) ops.size (Array.replicate ops.size false) (List.range ops.size) { S with box := b } a w.drew G rfl hside (by simp) ?_ (by simp) ?_ (IRun.of_all hrun) hrd ?_ (LeK.refl _ _ _ _)
  · rw [List.filter_eq_self.2]
    intro i hi
    simp at hi
    simp [Array.getD, hi]
  · intro i o ho hlst
    have hi := (Array.getElem?_eq_some_iff.1 ho).1
    simp [Array.getD, hi] at hlst
  · intro i _ o ho
    exact hp o (by simpa using Array.mem_of_getElem? ho)

theorem StopW.of_r {o : Oper} {fid : FuncId} {args : List AV} {S : AState} {K : AState → Prop} {v : AV} {tok' : Nat → Bool} {nt' : Nat} (h : RCall P fid args S.box S.tok S.nt v tok' nt') (hk : K ⟨putT S.tmps o.dst v, S.box, tok', nt'⟩) : StopW P o fid args S K := .inl ⟨v, tok', nt', h, hk⟩
theorem StopW.of_d {o : Oper} {fid : FuncId} {args : List AV} {S : AState} {K : AState → Prop} {v : AV} {tok' : Nat → Bool} {nt' : Nat} (h : DCall P fid args S.tok S.nt v tok' nt') (hk : K ⟨putT S.tmps o.dst v, S.box, tok', nt'⟩) : StopW P o fid args S K := .of_r (h.r _) hk
theorem StopW.of_w {o : Oper} {fid : FuncId} {args : List AV} {S : AState} {K : AState → Prop} {v : AV} {tok' : Nat → Bool} {nt' : Nat} {x : Operand} {k i off : Nat} {rows : List (List AV)} (hx : callPtr o.op = some x) (hp : S.ev x = .ptr k i off) (hb : S.box k ≠ none)
    (h : WCall P fid args k S.box S.tok S.nt v rows tok' nt') (hk : K ⟨putT S.tmps o.dst v, upd S.box k (some rows), tok', nt'⟩) : StopW P o fid args S K := .inr ⟨x, k, i, off, rows, v, tok', nt', hx, hp, hb, h, hk⟩

attribute [simp] FRegW FOneW callFn FarP
@[simp] theorem FOpsW_nil {cx : Cx} {ops : Array Oper} {K : AState → Prop} {t : Nat → AV} {b : Nat → Option (List (List AV))} {k : Nat → Bool} {n : Nat} : FOpsW P cx ops [] K ⟨t, b, k, n⟩ = K ⟨t, b, k, n⟩ := by simp only [FOpsW]
@[simp] theorem FOpsW_cons {cx : Cx} {ops : Array Oper} {o : Oper} {r : List Oper} {K : AState → Prop} {t : Nat → AV} {b : Nat → Option (List (List AV))} {k : Nat → Bool} {n : Nat} : FOpsW P cx ops (o :: r) K ⟨t, b, k, n⟩ = match o.guard with
    | none => FOneW P cx o (FOpsW P cx ops r K) ⟨t, b, k, n⟩
    | some (j, want) => match yieldA ops ⟨t, b, k, n⟩ j with
      | some (some g) => Gd g want (FOneW P cx o (FOpsW P cx ops r K)) (FSkip o.dst (FOpsW P cx ops r K)) ⟨t, b, k, n⟩
      | some none => FSkip o.dst (FOpsW P cx ops r K) ⟨t, b, k, n⟩
      | none => False := by
  simp only [FOpsW]
end Go.AM
