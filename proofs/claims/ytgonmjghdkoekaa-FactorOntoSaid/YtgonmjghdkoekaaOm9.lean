import Derived.Test.YtgonmjghdkoekaaOm8
namespace Go.AM
open Go Go.Proofs
set_option linter.unusedSimpArgs false
set_option linter.unusedVariables false

/-! ### What the library's Sort and Compact leave of a list -/
theorem upTo_facts (d : Array Int) (hs : ∀ i j, i ≤ j → j < d.size → d[i]! ≤ d[j]!) : ∀ m, m ≤ d.size → (Lib.compactUpTo d m).Pairwise (· < ·) ∧ ∀ x, x ∈ Lib.compactUpTo d m ↔ ∃ j, j < m ∧ d[j]! = x
  | 0, _ => ⟨List.Pairwise.nil, fun x => ⟨fun h => by simp [Lib.compactUpTo] at h, fun ⟨j, hj, _⟩ => absurd hj (Nat.not_lt_zero _)⟩⟩
  | m + 1, hm => by
    obtain ⟨h1, h2⟩ := upTo_facts d hs m (by omega)
    rw [Lib.compactUpTo_succ]
    by_cases hk : Lib.keeps d m = true
    · rw [if_pos hk]
      refine ⟨List.pairwise_append.2 ⟨h1, List.pairwise_singleton _ _, fun x hx y hy => ?_⟩, fun x => ?_⟩
      · rw [List.mem_singleton] at hy
        subst hy
        obtain ⟨j, hj, rfl⟩ := (h2 x).1 hx
        simp only [Lib.keeps, decide_eq_true_eq] at hk
        have a1 := hs j (m - 1) (by omega) (by omega)
        have a2 := hs (m - 1) m (by omega) (by omega)
        have a3 : d[m]! ≠ d[m - 1]! := by rcases hk with hk | hk; omega; exact hk
        omega
      · rw [List.mem_append, List.mem_singleton, h2]
        constructor
        · rintro (⟨j, hj, e⟩ | e)
          · exact ⟨j, by omega, e⟩
          · exact ⟨m, by omega, e.symm⟩
        · rintro ⟨j, hj, e⟩
          by_cases ej : j = m
          · subst ej; exact .inr e.symm
          · exact .inl ⟨j, by omega, e⟩
    · rw [if_neg hk, List.append_nil]
      refine ⟨h1, fun x => ?_⟩
      rw [h2]
      constructor
      · rintro ⟨j, hj, e⟩; exact ⟨j, by omega, e⟩
      · rintro ⟨j, hj, e⟩
        by_cases ej : j = m
        · subst ej
          simp only [Lib.keeps, decide_eq_true_eq, not_or, Decidable.not_not] at hk
          exact ⟨j - 1, by omega, by rw [← hk.2]; exact e⟩
        · exact ⟨j, by omega, e⟩

def sortI (l : List Int) : List Int := l.mergeSort fun x y => decide (x ≤ y)
theorem sortI_perm (l : List Int) : (sortI l).Perm l := List.mergeSort_perm l _
theorem sortI_sorted (l : List Int) : (sortI l).Pairwise (· ≤ ·) := by
  have := List.pairwise_mergeSort (le := fun x y : Int => decide (x ≤ y)) (fun a b c h1 h2 => by simp only [decide_eq_true_eq] at *; omega) (fun a b => by simp only [Bool.or_eq_true, decide_eq_true_eq]; omega) l
  exact this.imp fun h => by simpa using h
theorem sortI_arr (l : List Int) (i j : Nat) (hij : i ≤ j) (hj : j < (sortI l).toArray.size) : (sortI l).toArray[i]! ≤ (sortI l).toArray[j]! := by
  simp only [List.size_toArray] at hj
  rw [getElem!_pos _ i (by simp; omega), getElem!_pos _ j (by simpa using hj)]
  by_cases e : i = j
  · subst e; omega
  · exact List.pairwise_iff_getElem.1 (sortI_sorted l) i j (by omega) hj (by omega)

/-- The numbers of a list, in order, each once. -/
def imagesI (l : List Int) : List Int := Lib.compact (sortI l)
theorem imagesI_sorted (l : List Int) : (imagesI l).Pairwise (· < ·) := (upTo_facts (sortI l).toArray (sortI_arr l) (sortI l).length (by simp)).1
theorem imagesI_mem (l : List Int) (x : Int) : x ∈ imagesI l ↔ x ∈ l := by
  have := (upTo_facts (sortI l).toArray (sortI_arr l) (sortI l).length (by simp)).2 x
  rw [show imagesI l = Lib.compactUpTo (sortI l).toArray (sortI l).length from rfl, this, ← (sortI_perm l).mem_iff]
  constructor
  · rintro ⟨j, hj, e⟩
    rw [getElem!_pos _ j (by simpa using hj)] at e
    rw [← e]
    exact List.getElem_mem _
  · intro h
    obtain ⟨j, hj, e⟩ := List.getElem_of_mem h
    exact ⟨j, hj, by rw [getElem!_pos _ j (by simpa using hj)]; exact e⟩

theorem imagesN_len (l : List Int) : imagesN l = (imagesI l).length := rfl

theorem imagesN_iff (l : List Int) : imagesN l = l.length ↔ l.Nodup := by
  have hl : (sortI l).length = l.length := (sortI_perm l).length_eq
  rw [imagesN_len, ← (sortI_perm l).nodup_iff, ← hl]
  constructor
  · intro h
    have h2 : ∀ j, j < (sortI l).length → Lib.keeps (sortI l).toArray j = true := by
      unfold imagesI Lib.compact Lib.compactUpTo at h
      rw [List.length_map] at h
      have h3 : (List.range (sortI l).length).filter (Lib.keeps (sortI l).toArray) = List.range (sortI l).length := List.filter_sublist.eq_of_length (by rw [h, List.length_range])
      intro j hj
      exact (List.filter_eq_self.1 h3) j (List.mem_range.2 hj)
    have h4 : imagesI l = sortI l := Lib.compact_all _ h2
    have h5 := imagesI_sorted l
    rw [h4] at h5
    exact h5.imp fun h => by omega
  · intro h
    have h4 : imagesI l = sortI l := Lib.compact_all _ fun j hj => by
      by_cases e : j = 0
      · simp [Lib.keeps, e]
      · apply Lib.keeps_pos
        rw [getElem!_pos _ j (by simpa using hj), getElem!_pos _ (j - 1) (by simp; omega)]
        intro e2
        exact List.pairwise_iff_getElem.1 h (j - 1) j (by omega) hj (by omega) e2.symm
    rw [h4]

theorem distK_nodup (l : List Int) : distK l l.length = true ↔ l.Nodup := by
  simp only [distK, List.all_eq_true, List.mem_range, decide_eq_true_eq]
  rw [List.Nodup, List.pairwise_iff_getElem]
  constructor
  · intro h i j hi hj hij e
    apply h j hj i hij
    rw [List.getD_eq_getElem?_getD, List.getD_eq_getElem?_getD, List.getElem?_eq_getElem hj, List.getElem?_eq_getElem hi]
    exact e.symm
  · intro h j hj k hkj e
    rw [List.getD_eq_getElem?_getD, List.getD_eq_getElem?_getD, List.getElem?_eq_getElem hj, List.getElem?_eq_getElem (show k < l.length by omega)] at e
    exact h k j (by omega) hj hkj e.symm

theorem images_dist (l : List Int) : decide (imagesN l = l.length) = distK l l.length := by
  rw [Bool.eq_iff_iff, decide_eq_true_eq, imagesN_iff, distK_nodup]

theorem images_beq (l : List Int) : ((imagesN l : Int) == (l.length : Int)) = distK l l.length := by
  rw [← images_dist, beqD]
  simp
  omega

/-! ### morphism.Injective -/
theorem injective56_c (a b : Gr) (m : Mo) (ha : a.Fit) (hb : b.Fit) (hm : m.Fit) (tok : Nat → Bool) (nt : Nat) : DCall Try.prog 56 [a.av, b.av, m.av] tok nt (B (injM a b m)) tok nt := by
  intro box nb
  have i1 := images_beq m.nodes
  have i2 := images_beq m.edges
  refine ACalls.of_body Try.func56 rfl (by kernel_rfl) follows_Try (by kernel_rfl) (by simp [Try.ntmps56]) ?_
  intro hbox htok
  simp only at hbox htok
  apply AL.start
  repeat (first | refine AL.seq ?_ | refine AL.block ?_ | refine AL.skip ?_ | refine AL.blk ?_)
  refine AL.region follows_Try (Nat.le_refl _) (by kernel_rfl) ?_
  simp
  repeat (first | refine AL.seq ?_ | refine AL.block ?_ | refine AL.skip ?_ | refine AL.blk ?_)
  refine AL.region follows_Try (Nat.le_refl _) (by kernel_rfl) ?_
  simp
  refine Stop.of_d (valid51_c a b m ha hb _ _) ?_
  simp
  by_cases h1 : validM a b m = 0
  · simp [h1]
    refine Stop.of_d (images88_c m.nodes hm.n _ _) ?_
    simp [h1]
    simp only [i1]
    by_cases h2 : distK m.nodes m.nodes.length = true
    · simp [h2]
      refine Stop.of_d (images88_c m.edges hm.e _ _) ?_
      simp [h1, h2, i2]
      repeat (first | refine AL.seq ?_ | refine AL.block ?_ | refine AL.skip ?_ | refine AL.blk ?_)
      refine AL.ret ?_
      try simp only [AU]
      refine ⟨by simp, Fin.data (by simp [resAs, resA]; rfl) hbox rfl htok (fun _ h => h) (Nat.le_refl _) ?_⟩
      simp [packA, injM, h1, h2]
    · have h3 : distK m.nodes m.nodes.length = false := by simpa using h2
      simp only [h3]
      simp
      repeat (first | refine AL.seq ?_ | refine AL.block ?_ | refine AL.skip ?_ | refine AL.blk ?_)
      refine AL.ret ?_
      try simp only [AU]
      refine ⟨by simp, Fin.data (by simp [resAs, resA]; rfl) hbox rfl htok (fun _ h => h) (Nat.le_refl _) ?_⟩
      simp [packA, injM, h1, h3]
  · have hb1 : (validM a b m == 0) = false := by simp [h1]
    simp only [hb1]
    try simp
    repeat (first | refine AL.seq ?_ | refine AL.block ?_ | refine AL.skip ?_ | refine AL.blk ?_)
    refine AL.ret ?_
    try simp only [AU]
    refine ⟨by simp, Fin.data (by simp [resAs, resA]; rfl) hbox rfl htok (fun _ h => h) (Nat.le_refl _) ?_⟩
    simp [packA, injM, h1]
end Go.AM
namespace Go.AM
open Go Go.Proofs
set_option linter.unusedSimpArgs false
set_option linter.unusedVariables false

/-! ### places, index, Through, Then, Compose -/
def placesK (l h : List Int) (i : Nat) : List Int := (l.take i).map (indexI h)
theorem placesK_zero (l h : List Int) : placesK l h 0 = [] := by simp [placesK]
@[simp] theorem placesK_len (l h : List Int) (i : Nat) : (placesK l h i).length = min i l.length := by simp [placesK]
theorem placesK_succ (l h : List Int) {i : Nat} (hi : i < l.length) : placesK l h (i + 1) = placesK l h i ++ [indexI h l[i]] := by simp only [placesK, List.take_add_one, List.getElem?_eq_getElem hi, Option.toList, List.map_append, List.map_cons, List.map_nil]
def byK (l by' : List Int) (i : Nat) : List Int := (l.take i).map fun x => by'.getD x.toNat 0
theorem byK_zero (l h : List Int) : byK l h 0 = [] := by simp [byK]
@[simp] theorem byK_len (l h : List Int) (i : Nat) : (byK l h i).length = min i l.length := by simp [byK]
theorem byK_succ (l h : List Int) {i : Nat} (hi : i < l.length) : byK l h (i + 1) = byK l h i ++ [h.getD l[i].toNat 0] := by simp only [byK, List.take_add_one, List.getElem?_eq_getElem hi, Option.toList, List.map_append, List.map_cons, List.map_nil]

def st57 (l h : List Int) (nb : Nat) (box : Nat → Option (List (List AV))) (a : Acc) : AState := ⟨tl [(0, .d (ints l)), (1, .d (ints h)), (5, .osl 1 (rI (placesK l h a.i)) a.own), (8, .d (ints l)), (9, I l.length), (10, I a.i)], lb nb box [], a.tok, a.nt⟩

theorem places57_c (l h : List Int) (hl : l.length ≤ 1000000) (hh : h.length ≤ 1000000) (tok : Nat → Bool) (nt : Nat) : DCall Try.prog 57 [.d (ints l), .d (ints h)] tok nt (.d (ints (placesK l h l.length))) tok nt := by
  intro box nb
  refine ACalls.of_body Try.func57 rfl (by kernel_rfl) follows_Try (by kernel_rfl) (by simp [Try.ntmps57]) ?_
  intro hbox htok
  simp only at hbox htok
  apply AL.start
  repeat (first | refine AL.seq ?_ | refine AL.block ?_ | refine AL.skip ?_ | refine AL.blk ?_)
  refine AL.region follows_Try (Nat.le_refl _) (by kernel_rfl) ?_
  simp
  repeat (first | refine AL.seq ?_ | refine AL.block ?_ | refine AL.skip ?_ | refine AL.blk ?_)
  refine AL.region follows_Try (Nat.le_refl _) (by kernel_rfl) ?_
  simp
  repeat (first | refine AL.seq ?_ | refine AL.block ?_ | refine AL.skip ?_ | refine AL.blk ?_)
  refine AL.region follows_Try (Nat.le_refl _) (by kernel_rfl) ?_
  simp
  repeat (first | refine AL.seq ?_ | refine AL.block ?_ | refine AL.skip ?_ | refine AL.blk ?_)
  refine AL.loopT (st57 l h nb box) (fun a => a.i ≤ l.length ∧ TK tok nt a.tok a.nt [a.own]) (fun a => l.length - a.i) ⟨0, .full, tok, nt⟩ ⟨Nat.zero_le _, (TK.start htok).full⟩ (Weaks.mk (Nat.le_refl _) rfl (by simp [ToL, placesK_zero]) trivial) ?_
  rintro ⟨i, own, tok', nt'⟩ S ⟨hi, htk⟩ hS
  simp only [st57] at hS hi htk
  subst hS
  have hw : IntKind.i64.wrap (↑i + 1) = ((i + 1 : Nat) : Int) := by rw [wrap_in (by omega) (by omega)]; rfl
  repeat (first | refine AL.seq ?_ | refine AL.block ?_ | refine AL.skip ?_ | refine AL.blk ?_)
  refine AL.region follows_Try (Nat.le_refl _) (by kernel_rfl) ?_
  simp
  repeat (first | refine AL.seq ?_ | refine AL.block ?_ | refine AL.skip ?_ | refine AL.blk ?_)
  refine AL.cond ?_
  simp
  refine ⟨fun hlt => ?_, fun hge => ?_⟩
  · repeat (first | refine AL.seq ?_ | refine AL.block ?_ | refine AL.skip ?_ | refine AL.blk ?_)
    refine AL.region follows_Try (Nat.le_refl _) (by kernel_rfl) ?_
    simp [hlt]
    repeat (first | refine AL.seq ?_ | refine AL.block ?_ | refine AL.skip ?_ | refine AL.blk ?_)
    refine AL.region follows_Try (Nat.le_refl _) (by kernel_rfl) ?_
    simp
    refine Stop.of_d (index_c h l[i] hh _ _) ?_
    simp
    refine ⟨⟨by omega, htk.live⟩, ?_⟩
    repeat (first | refine AL.seq ?_ | refine AL.block ?_ | refine AL.skip ?_ | refine AL.blk ?_)
    refine AL.region follows_Try (Nat.le_refl _) (by kernel_rfl) ?_
    simp [hw]
    repeat (first | refine AL.seq ?_ | refine AL.block ?_ | refine AL.skip ?_ | refine AL.blk ?_)
    refine AL.nil ?_
    refine ⟨⟨i + 1, _, _, _⟩, ⟨hlt, htk.app⟩, by simp; omega, Weaks.mk htk.app.le rfl (by simp [ToL, placesK_succ l h hlt]) trivial⟩
  · repeat (first | refine AL.seq ?_ | refine AL.block ?_ | refine AL.skip ?_ | refine AL.blk ?_)
    refine AL.exit ?_
    simp only [AU, ↓reduceIte]
    repeat (first | refine AL.seq ?_ | refine AL.block ?_ | refine AL.skip ?_ | refine AL.blk ?_)
    refine AL.region follows_Try (Nat.le_refl _) (by kernel_rfl) ?_
    simp
    have : i = l.length := by omega
    subst this
    repeat (first | refine AL.seq ?_ | refine AL.block ?_ | refine AL.skip ?_ | refine AL.blk ?_)
    refine AL.ret ?_
    try simp only [AU]
    refine ⟨by simp, Fin.data (by simp [resAs, resA]; rfl) hbox rfl htok htk.old htk.le ?_⟩
    simp [packA, ]

def st60 (xs : List Int) (v : Int) (nb : Nat) (box : Nat → Option (List (List AV))) (tok : Nat → Bool) (nt : Nat) (i : Nat) : AState := ⟨tl [(0, .d (ints xs)), (1, I v), (5, I i)], lb nb box [], tok, nt⟩

theorem index60_c (xs : List Int) (v : Int) (hx : xs.length ≤ 1000000) (tok : Nat → Bool) (nt : Nat) : DCall Try.prog 60 [.d (ints xs), I v] tok nt (I (indexI xs v)) tok nt := by
  intro box nb
  refine ACalls.of_body Try.func60 rfl (by kernel_rfl) follows_Try (by kernel_rfl) (by simp [Try.ntmps60]) ?_
  intro hbox htok
  simp only at hbox htok
  apply AL.start
  repeat (first | refine AL.seq ?_ | refine AL.block ?_ | refine AL.skip ?_ | refine AL.blk ?_)
  refine AL.region follows_Try (Nat.le_refl _) (by kernel_rfl) ?_
  simp
  repeat (first | refine AL.seq ?_ | refine AL.block ?_ | refine AL.skip ?_ | refine AL.blk ?_)
  refine AL.region follows_Try (Nat.le_refl _) (by kernel_rfl) ?_
  simp
  repeat (first | refine AL.seq ?_ | refine AL.block ?_ | refine AL.skip ?_ | refine AL.blk ?_)
  refine AL.loopT (st60 xs v nb box tok nt) (fun i => i ≤ xs.length ∧ v ∉ xs.take i) (fun i => xs.length - i) 0 ⟨Nat.zero_le _, by simp⟩ (Weaks.mk (Nat.le_refl _) rfl (by simp [ToL]) trivial) ?_
  rintro i S ⟨hi, htk⟩ hS
  simp only [st60] at hS
  subst hS
  have hw : IntKind.i64.wrap (↑i + 1) = ((i + 1 : Nat) : Int) := by rw [wrap_in (by omega) (by omega)]; rfl
  repeat (first | refine AL.seq ?_ | refine AL.block ?_ | refine AL.skip ?_ | refine AL.blk ?_)
  refine AL.region follows_Try (Nat.le_refl _) (by kernel_rfl) ?_
  simp
  repeat (first | refine AL.seq ?_ | refine AL.block ?_ | refine AL.skip ?_ | refine AL.blk ?_)
  refine AL.cond ?_
  simp
  refine ⟨fun hlt => ?_, fun hge => ?_⟩
  · have hsp : xs = xs.take i ++ xs[i] :: xs.drop (i + 1) := by simp
    repeat (first | refine AL.seq ?_ | refine AL.block ?_ | refine AL.skip ?_ | refine AL.blk ?_)
    refine AL.region follows_Try (Nat.le_refl _) (by kernel_rfl) ?_
    simp [hlt]
    repeat (first | refine AL.seq ?_ | refine AL.block ?_ | refine AL.skip ?_ | refine AL.blk ?_)
    refine AL.cond ?_
    simp
    refine ⟨fun he => ?_, fun hne => ?_⟩
    · repeat (first | refine AL.seq ?_ | refine AL.block ?_ | refine AL.skip ?_ | refine AL.blk ?_)
      refine AL.region follows_Try (Nat.le_refl _) (by kernel_rfl) ?_
      simp
      have hmem : v ∈ xs := by rw [← he]; exact List.getElem_mem _
      have hid : xs.idxOf v = i := by
        unfold List.idxOf
        rw [List.findIdx_eq hlt]
        refine ⟨by simp [he], fun j hj => ?_⟩
        have : xs[j] ≠ v := fun e => htk (by rw [← e, List.mem_take_iff_getElem]; exact ⟨j, by omega, rfl⟩)
        simpa using this
      repeat (first | refine AL.seq ?_ | refine AL.block ?_ | refine AL.skip ?_ | refine AL.blk ?_)
      refine AL.ret ?_
      try simp only [AU]
      refine ⟨by simp, Fin.data (by simp [resAs, resA]; rfl) hbox rfl htok (fun _ h => h) (Nat.le_refl _) ?_⟩
      simp [packA, indexI, hmem, hid]
    · repeat (first | refine AL.seq ?_ | refine AL.block ?_ | refine AL.skip ?_ | refine AL.blk ?_)
      refine AL.region follows_Try (Nat.le_refl _) (by kernel_rfl) ?_
      simp [hw]
      repeat (first | refine AL.seq ?_ | refine AL.block ?_ | refine AL.skip ?_ | refine AL.blk ?_)
      refine AL.nil ?_
      refine ⟨i + 1, ⟨hlt, ?_⟩, by omega, Weaks.mk (Nat.le_refl _) rfl (by simp [ToL]) trivial⟩
      rw [List.take_succ_eq_append_getElem hlt]
      simp only [List.mem_append, List.mem_singleton, not_or]
      exact ⟨htk, fun e => hne e.symm⟩
  · repeat (first | refine AL.seq ?_ | refine AL.block ?_ | refine AL.skip ?_ | refine AL.blk ?_)
    refine AL.exit ?_
    simp only [AU, ↓reduceIte]
    repeat (first | refine AL.seq ?_ | refine AL.block ?_ | refine AL.skip ?_ | refine AL.blk ?_)
    refine AL.region follows_Try (Nat.le_refl _) (by kernel_rfl) ?_
    simp
    have hn : v ∉ xs := by rwa [List.take_of_length_le hge] at htk
    repeat (first | refine AL.seq ?_ | refine AL.block ?_ | refine AL.skip ?_ | refine AL.blk ?_)
    refine AL.ret ?_
    try simp only [AU]
    refine ⟨by simp, Fin.data (by simp [resAs, resA]; rfl) hbox rfl htok (fun _ h => h) (Nat.le_refl _) ?_⟩
    simp [packA, indexI, hn]

def st68 (l h : List Int) (nb : Nat) (box : Nat → Option (List (List AV))) (a : Acc) : AState := ⟨tl [(0, .d (ints l)), (1, .d (ints h)), (5, .osl 1 (rI (byK l h a.i)) a.own), (6, I a.i)], lb nb box [], a.tok, a.nt⟩

theorem through68_c (l h : List Int) (hl : l.length ≤ 1000000) (hr : ∀ x ∈ l, 0 ≤ x ∧ x < h.length) (tok : Nat → Bool) (nt : Nat) : DCall Try.prog 68 [.d (ints l), .d (ints h)] tok nt (.d (ints (byK l h l.length))) tok nt := by
  intro box nb
  refine ACalls.of_body Try.func68 rfl (by kernel_rfl) follows_Try (by kernel_rfl) (by simp [Try.ntmps68]) ?_
  intro hbox htok
  simp only at hbox htok
  apply AL.start
  repeat (first | refine AL.seq ?_ | refine AL.block ?_ | refine AL.skip ?_ | refine AL.blk ?_)
  refine AL.region follows_Try (Nat.le_refl _) (by kernel_rfl) ?_
  simp
  repeat (first | refine AL.seq ?_ | refine AL.block ?_ | refine AL.skip ?_ | refine AL.blk ?_)
  refine AL.region follows_Try (Nat.le_refl _) (by kernel_rfl) ?_
  simp
  repeat (first | refine AL.seq ?_ | refine AL.block ?_ | refine AL.skip ?_ | refine AL.blk ?_)
  refine AL.region follows_Try (Nat.le_refl _) (by kernel_rfl) ?_
  simp
  repeat (first | refine AL.seq ?_ | refine AL.block ?_ | refine AL.skip ?_ | refine AL.blk ?_)
  refine AL.loopT (st68 l h nb box) (fun a => a.i ≤ l.length ∧ TK tok nt a.tok a.nt [a.own]) (fun a => l.length - a.i) ⟨0, .full, tok, nt⟩ ⟨Nat.zero_le _, (TK.start htok).full⟩ (Weaks.mk (Nat.le_refl _) rfl (by simp [ToL, byK_zero]) trivial) ?_
  rintro ⟨i, own, tok', nt'⟩ S ⟨hi, htk⟩ hS
  simp only [st68] at hS hi htk
  subst hS
  have hw : IntKind.i64.wrap (↑i + 1) = ((i + 1 : Nat) : Int) := by rw [wrap_in (by omega) (by omega)]; rfl
  repeat (first | refine AL.seq ?_ | refine AL.block ?_ | refine AL.skip ?_ | refine AL.blk ?_)
  refine AL.region follows_Try (Nat.le_refl _) (by kernel_rfl) ?_
  simp
  repeat (first | refine AL.seq ?_ | refine AL.block ?_ | refine AL.skip ?_ | refine AL.blk ?_)
  refine AL.cond ?_
  simp
  refine ⟨fun hlt => ?_, fun hge => ?_⟩
  · obtain ⟨x0, x1⟩ := hr _ (List.getElem_mem hlt)
    have x2 : l[i].toNat < h.length := by omega
    repeat (first | refine AL.seq ?_ | refine AL.block ?_ | refine AL.skip ?_ | refine AL.blk ?_)
    refine AL.region follows_Try (Nat.le_refl _) (by kernel_rfl) ?_
    simp [hlt, x0, x1, x2]
    refine ⟨⟨by omega, htk.live⟩, ?_⟩
    repeat (first | refine AL.seq ?_ | refine AL.block ?_ | refine AL.skip ?_ | refine AL.blk ?_)
    refine AL.region follows_Try (Nat.le_refl _) (by kernel_rfl) ?_
    simp [hw]
    repeat (first | refine AL.seq ?_ | refine AL.block ?_ | refine AL.skip ?_ | refine AL.blk ?_)
    refine AL.nil ?_
    refine ⟨⟨i + 1, _, _, _⟩, ⟨hlt, htk.app⟩, by simp; omega, Weaks.mk htk.app.le rfl (by simp [ToL, byK_succ l h hlt, x2]) trivial⟩
  · repeat (first | refine AL.seq ?_ | refine AL.block ?_ | refine AL.skip ?_ | refine AL.blk ?_)
    refine AL.exit ?_
    simp only [AU, ↓reduceIte]
    repeat (first | refine AL.seq ?_ | refine AL.block ?_ | refine AL.skip ?_ | refine AL.blk ?_)
    refine AL.region follows_Try (Nat.le_refl _) (by kernel_rfl) ?_
    simp
    have : i = l.length := by omega
    subst this
    repeat (first | refine AL.seq ?_ | refine AL.block ?_ | refine AL.skip ?_ | refine AL.blk ?_)
    refine AL.ret ?_
    try simp only [AU]
    refine ⟨by simp, Fin.data (by simp [resAs, resA]; rfl) hbox rfl htok htk.old htk.le ?_⟩
    simp [packA, ]

def thenM (m n : Mo) : Mo := ⟨byK m.nodes n.nodes m.nodes.length, byK m.edges n.edges m.edges.length⟩
theorem then63_c (m n : Mo) (hm : m.Fit) (hn : ∀ x ∈ m.nodes, 0 ≤ x ∧ x < n.nodes.length) (he : ∀ x ∈ m.edges, 0 ≤ x ∧ x < n.edges.length) (tok : Nat → Bool) (nt : Nat) : DCall Try.prog 63 [m.av, n.av] tok nt (thenM m n).av tok nt := by
  intro box nb
  refine ACalls.of_body Try.func63 rfl (by kernel_rfl) follows_Try (by kernel_rfl) (by simp [Try.ntmps63]) ?_
  intro hbox htok
  simp only at hbox htok
  apply AL.start
  repeat (first | refine AL.seq ?_ | refine AL.block ?_ | refine AL.skip ?_ | refine AL.blk ?_)
  refine AL.region follows_Try (Nat.le_refl _) (by kernel_rfl) ?_
  simp
  repeat (first | refine AL.seq ?_ | refine AL.block ?_ | refine AL.skip ?_ | refine AL.blk ?_)
  refine AL.region follows_Try (Nat.le_refl _) (by kernel_rfl) ?_
  simp
  refine Stop.of_d (through68_c m.nodes n.nodes hm.n hn _ _) ?_
  simp
  refine Stop.of_d (through68_c m.edges n.edges hm.e he _ _) ?_
  simp
  repeat (first | refine AL.seq ?_ | refine AL.block ?_ | refine AL.skip ?_ | refine AL.blk ?_)
  refine AL.ret ?_
  try simp only [AU]
  refine ⟨by simp, Fin.data (by simp [resAs, resA]; rfl) hbox rfl htok (fun _ h => h) (Nat.le_refl _) ?_⟩
  simp [packA, thenM]

/-- What a valid morphism holds lies within. -/
theorem firstE_all {f : Nat → Int} : ∀ n, firstE f n = 0 → ∀ i, i < n → f i = 0
  | 0, _, i, hi => absurd hi (Nat.not_lt_zero _)
  | n + 1, h, i, hi => by
    simp only [firstE] at h
    split at h
    · rename_i h0
      by_cases e : i = n
      · subst e; exact h
      · exact firstE_all n h0 i (by omega)
    · contradiction

structure VM (a b : Gr) (m : Mo) : Prop where
  va : validG a = 0
  vb : validG b = 0
  ln : m.nodes.length = a.nodes.length
  le : m.edges.length = a.edges.length
  n : ∀ x ∈ m.nodes, 0 ≤ x ∧ x < b.nodes.length
  e : ∀ x ∈ m.edges, 0 ≤ x ∧ x < b.edges.length
  nt : ∀ i, i < a.nodes.length → b.nodes.getD (m.nodes.getD i 0).toNat 0 = a.nodes.getD i 0
  et : ∀ i, i < a.edges.length → b.edges.getD (m.edges.getD i 0).toNat default = ⟨(a.edges.getD i default).ty, m.nodes.getD (a.edges.getD i default).fr.toNat 0, m.nodes.getD (a.edges.getD i default).to.toNat 0⟩

theorem validM_VM {a b : Gr} {m : Mo} (h : validM a b m = 0) : VM a b m := by
  unfold validM at h
  split at h
  · omega
  · rename_i h1
    split at h
    · omega
    · rename_i h2
      split at h
      · cases h
      · rename_i h3
        have hl1 : m.nodes.length = a.nodes.length := by omega
        have hl2 : m.edges.length = a.edges.length := by omega
        split at h
        · contradiction
        · rename_i h4
          have h4' : firstE (nodeE a b m) a.nodes.length = 0 := Decidable.not_not.1 h4
          have n1 := firstE_all _ h4'
          have n2 := firstE_all _ h
          refine ⟨by omega, by omega, hl1, hl2, fun x hx => ?_, fun x hx => ?_, fun i hi => ?_, fun i hi => ?_⟩
          · obtain ⟨i, hi, rfl⟩ := List.getElem_of_mem hx
            have := n1 i (by omega)
            have e : m.nodes.getD i 0 = m.nodes[i] := by simp [hi]
            unfold nodeE at this
            rw [e] at this
            split at this
            · cases this
            · omega
          · obtain ⟨i, hi, rfl⟩ := List.getElem_of_mem hx
            have := n2 i (by omega)
            have e : m.edges.getD i 0 = m.edges[i] := by simp [hi]
            unfold edgeE at this
            rw [e] at this
            split at this
            · cases this
            · omega
          · have := n1 i hi
            unfold nodeE at this
            split at this
            · cases this
            · split at this
              · assumption
              · cases this
          · have := n2 i hi
            unfold edgeE at this
            split at this
            · cases this
            · simp only at this
              split at this
              · cases this
              · rename_i t1
                split at this
                · cases this
                · rename_i t2
                  have t1' := Decidable.not_not.1 t1
                  simp only [ne_eq, not_or, Decidable.not_not] at t2
                  rw [t1', t2.1, t2.2]

def compM (a b c : Gr) (m n : Mo) : Mo × Int := if validM a b m ≠ 0 then (⟨[], []⟩, validM a b m) else if validM b c n ≠ 0 then (⟨[], []⟩, validM b c n) else (thenM m n, 0)
theorem compose31_c (a b c : Gr) (m n : Mo) (ha : a.Fit) (hb : b.Fit) (hc : c.Fit) (hm : m.Fit) (tok : Nat → Bool) (nt : Nat) : DCall Try.prog 31 [a.av, b.av, c.av, m.av, n.av] tok nt (.tup [(compM a b c m n).1.av, I (compM a b c m n).2]) tok nt := by
  intro box nb
  refine ACalls.of_body Try.func31 rfl (by kernel_rfl) follows_Try (by kernel_rfl) (by simp [Try.ntmps31]) ?_
  intro hbox htok
  simp only at hbox htok
  apply AL.start
  repeat (first | refine AL.seq ?_ | refine AL.block ?_ | refine AL.skip ?_ | refine AL.blk ?_)
  refine AL.region follows_Try (Nat.le_refl _) (by kernel_rfl) ?_
  simp
  repeat (first | refine AL.seq ?_ | refine AL.block ?_ | refine AL.skip ?_ | refine AL.blk ?_)
  refine AL.region follows_Try (Nat.le_refl _) (by kernel_rfl) ?_
  simp
  refine Stop.of_d (valid53_c a b m ha hb _ _) ?_
  simp
  by_cases h1 : validM a b m = 0
  · repeat (first | refine AL.seq ?_ | refine AL.block ?_ | refine AL.skip ?_ | refine AL.blk ?_)
    refine AL.region follows_Try (Nat.le_refl _) (by kernel_rfl) ?_
    simp [h1]
    repeat (first | refine AL.seq ?_ | refine AL.block ?_ | refine AL.skip ?_ | refine AL.blk ?_)
    refine AL.cond ?_
    simp
    repeat (first | refine AL.seq ?_ | refine AL.block ?_ | refine AL.skip ?_ | refine AL.blk ?_)
    refine AL.region follows_Try (Nat.le_refl _) (by kernel_rfl) ?_
    simp
    refine Stop.of_d (valid53_c b c n hb hc _ _) ?_
    simp
    by_cases h2 : validM b c n = 0
    · repeat (first | refine AL.seq ?_ | refine AL.block ?_ | refine AL.skip ?_ | refine AL.blk ?_)
      refine AL.region follows_Try (Nat.le_refl _) (by kernel_rfl) ?_
      simp [h2]
      repeat (first | refine AL.seq ?_ | refine AL.block ?_ | refine AL.skip ?_ | refine AL.blk ?_)
      refine AL.cond ?_
      simp
      repeat (first | refine AL.seq ?_ | refine AL.block ?_ | refine AL.skip ?_ | refine AL.blk ?_)
      refine AL.region follows_Try (Nat.le_refl _) (by kernel_rfl) ?_
      simp
      have v1 := validM_VM h1
      have v2 := validM_VM h2
      refine Stop.of_d (then63_c m n hm (fun x hx => by have := v1.n x hx; rw [v2.ln]; exact this) (fun x hx => by have := v1.e x hx; rw [v2.le]; exact this) _ _) ?_
      simp
      repeat (first | refine AL.seq ?_ | refine AL.block ?_ | refine AL.skip ?_ | refine AL.blk ?_)
      refine AL.ret ?_
      try simp only [AU]
      refine ⟨by simp, Fin.data (by simp [resAs, resA]; rfl) hbox rfl htok (fun _ h => h) (Nat.le_refl _) ?_⟩
      simp [packA, compM, h1, h2]
    · have hb1 : (validM b c n != 0) = true := by simp [h2]
      repeat (first | refine AL.seq ?_ | refine AL.block ?_ | refine AL.skip ?_ | refine AL.blk ?_)
      refine AL.region follows_Try (Nat.le_refl _) (by kernel_rfl) ?_
      simp [hb1]
      repeat (first | refine AL.seq ?_ | refine AL.block ?_ | refine AL.skip ?_ | refine AL.blk ?_)
      refine AL.cond ?_
      simp
      repeat (first | refine AL.seq ?_ | refine AL.block ?_ | refine AL.skip ?_ | refine AL.blk ?_)
      refine AL.region follows_Try (Nat.le_refl _) (by kernel_rfl) ?_
      simp
      repeat (first | refine AL.seq ?_ | refine AL.block ?_ | refine AL.skip ?_ | refine AL.blk ?_)
      refine AL.ret ?_
      try simp only [AU]
      refine ⟨by simp, Fin.data (by simp [resAs, resA]; rfl) hbox rfl htok (fun _ h => h) (Nat.le_refl _) ?_⟩
      simp [packA, compM, h1, h2, ints]
  · have hb1 : (validM a b m != 0) = true := by simp [h1]
    repeat (first | refine AL.seq ?_ | refine AL.block ?_ | refine AL.skip ?_ | refine AL.blk ?_)
    refine AL.region follows_Try (Nat.le_refl _) (by kernel_rfl) ?_
    simp [hb1]
    repeat (first | refine AL.seq ?_ | refine AL.block ?_ | refine AL.skip ?_ | refine AL.blk ?_)
    refine AL.cond ?_
    simp
    repeat (first | refine AL.seq ?_ | refine AL.block ?_ | refine AL.skip ?_ | refine AL.blk ?_)
    refine AL.region follows_Try (Nat.le_refl _) (by kernel_rfl) ?_
    simp
    repeat (first | refine AL.seq ?_ | refine AL.block ?_ | refine AL.skip ?_ | refine AL.blk ?_)
    refine AL.ret ?_
    try simp only [AU]
    refine ⟨by simp, Fin.data (by simp [resAs, resA]; rfl) hbox rfl htok (fun _ h => h) (Nat.le_refl _) ?_⟩
    simp [packA, compM, h1, ints]
end Go.AM
namespace Go.AM
open Go Go.Proofs
set_option linter.unusedSimpArgs false
set_option linter.unusedVariables false

/-! ### Through -/
/-- What is left of the second morphism, behind the first. -/
def restK (h k nodes : List Int) : Nat → List Int
  | 0 => h
  | i + 1 => if nodes.getD i 0 < 0 then restK h k nodes i ++ [k.getD i 0] else restK h k nodes i
theorem restK_len (h k nodes : List Int) : ∀ i, (restK h k nodes i).length ≤ h.length + i
  | 0 => by simp [restK]
  | i + 1 => by
    have := restK_len h k nodes i
    simp only [restK]
    split <;> simp <;> omega

def emptyO : Ov := ⟨⟨[], []⟩, ⟨[], []⟩, ⟨[], []⟩⟩
structure Th where
  o : Ov
  m : Mo
  e : Int
def thrR (a b x : Gr) (h k : Mo) : Th :=
  if validM a x h ≠ 0 then ⟨emptyO, ⟨[], []⟩, validM a x h⟩ else if validM b x k ≠ 0 then ⟨emptyO, ⟨[], []⟩, validM b x k⟩
  else if injM a x h = true ∧ injM b x k = true then
    ⟨glue a b (placesK k.nodes h.nodes k.nodes.length) (placesK k.edges h.edges k.edges.length),
      ⟨restK h.nodes k.nodes (placesK k.nodes h.nodes k.nodes.length) k.nodes.length, restK h.edges k.edges (placesK k.edges h.edges k.edges.length) k.edges.length⟩, 0⟩
  else ⟨emptyO, ⟨[], []⟩, 1⟩

def st28a (h k : Mo) (o : Ov) (P Q : List Int) (nb : Nat) (box : Nat → Option (List (List AV))) (y : Acc2) : AState :=
  ⟨tl [(77, .d (ints P)), (78, I P.length), (79, I y.i), (9, .ptr (nb + 9) 0 0), (10, .ptr (nb + 10) 0 0), (11, .ptr (nb + 11) 0 0), (16, .d (ints Q)), (17, .ptr (nb + 17) 0 0), (18, .ptr (nb + 18) 0 0)],
    lb nb box [(9, [[.d (ints k.nodes), .d (ints k.edges)]]), (10, [[.bot, .bot, .bot, .bot, .bot, .bot]]), (11, [[.bot, .bot]]), (17, [[.d (ints o.g.nodes), .d (AM.edges o.g.edges), .d (ints o.l.nodes), .d (ints o.l.edges), .d (ints o.r.nodes), .d (ints o.r.edges)]]),
      (18, [[.osl 1 (rI (restK h.nodes k.nodes P y.i)) y.o1, .osl 1 (rI h.edges) y.o2]])], y.tok, y.nt⟩

def st28b (h k : Mo) (o : Ov) (P Q : List Int) (nb : Nat) (box : Nat → Option (List (List AV))) (y : Acc) : AState :=
  ⟨tl [(97, .d (ints Q)), (98, I Q.length), (99, I y.i), (9, .ptr (nb + 9) 0 0), (10, .ptr (nb + 10) 0 0), (11, .ptr (nb + 11) 0 0), (17, .ptr (nb + 17) 0 0), (18, .ptr (nb + 18) 0 0)],
    lb nb box [(9, [[.d (ints k.nodes), .d (ints k.edges)]]), (10, [[.bot, .bot, .bot, .bot, .bot, .bot]]), (11, [[.bot, .bot]]), (17, [[.d (ints o.g.nodes), .d (AM.edges o.g.edges), .d (ints o.l.nodes), .d (ints o.l.edges), .d (ints o.r.nodes), .d (ints o.r.edges)]]),
      (18, [[.d (ints (restK h.nodes k.nodes P P.length)), .osl 1 (rI (restK h.edges k.edges Q y.i)) y.own]])], y.tok, y.nt⟩

theorem through28_c (a b x : Gr) (h k : Mo) (ha : a.Fit) (hb : b.Fit) (hx : x.Fit) (hh : h.Fit) (hk : k.Fit) (tok : Nat → Bool) (nt : Nat) :
    DCall Try.prog 28 [a.av, b.av, x.av, h.av, k.av] tok nt (.tup [(thrR a b x h k).o.av, (thrR a b x h k).m.av, I (thrR a b x h k).e]) tok nt := by
  intro box nb
  refine ACalls.of_body Try.func28 rfl (by kernel_rfl) follows_Try (by kernel_rfl) (by simp [Try.ntmps28]) ?_
  intro hbox htok
  simp only at hbox htok
  apply AL.start
  repeat (first | refine AL.seq ?_ | refine AL.block ?_ | refine AL.skip ?_ | refine AL.blk ?_)
  refine AL.region follows_Try (Nat.le_refl _) (by kernel_rfl) ?_
  simp
  repeat (first | refine AL.seq ?_ | refine AL.block ?_ | refine AL.skip ?_ | refine AL.blk ?_)
  refine AL.region follows_Try (Nat.le_refl _) (by kernel_rfl) ?_
  simp
  refine Stop.of_d (valid51_c a x h ha hx _ _) ?_
  simp
  by_cases h1 : validM a x h = 0
  · repeat (first | refine AL.seq ?_ | refine AL.block ?_ | refine AL.skip ?_ | refine AL.blk ?_)
    refine AL.region follows_Try (Nat.le_refl _) (by kernel_rfl) ?_
    simp [h1]
    repeat (first | refine AL.seq ?_ | refine AL.block ?_ | refine AL.skip ?_ | refine AL.blk ?_)
    refine AL.cond ?_
    simp
    repeat (first | refine AL.seq ?_ | refine AL.block ?_ | refine AL.skip ?_ | refine AL.blk ?_)
    refine AL.region follows_Try (Nat.le_refl _) (by kernel_rfl) ?_
    simp
    refine Stop.of_d (valid51_c b x k hb hx _ _) ?_
    simp
    by_cases h2 : validM b x k = 0
    · repeat (first | refine AL.seq ?_ | refine AL.block ?_ | refine AL.skip ?_ | refine AL.blk ?_)
      refine AL.region follows_Try (Nat.le_refl _) (by kernel_rfl) ?_
      simp [h2]
      repeat (first | refine AL.seq ?_ | refine AL.block ?_ | refine AL.skip ?_ | refine AL.blk ?_)
      refine AL.cond ?_
      simp
      repeat (first | refine AL.seq ?_ | refine AL.block ?_ | refine AL.skip ?_ | refine AL.blk ?_)
      refine AL.region follows_Try (Nat.le_refl _) (by kernel_rfl) ?_
      simp
      refine Stop.of_d (injective56_c a x h ha hx hh _ _) ?_
      simp
      by_cases h3 : injM a x h = true
      · simp [h3]
        refine Stop.of_d (injective56_c b x k hb hx hk _ _) ?_
        simp [h3]
        by_cases h4 : injM b x k = true
        · simp [h4]
          repeat (first | refine AL.seq ?_ | refine AL.block ?_ | refine AL.skip ?_ | refine AL.blk ?_)
          refine AL.cond ?_
          simp
          repeat (first | refine AL.seq ?_ | refine AL.block ?_ | refine AL.skip ?_ | refine AL.blk ?_)
          refine AL.region follows_Try (Nat.le_refl _) (by kernel_rfl) ?_
          simp
          have v1 := validM_VM h1
          have v2 := validM_VM h2
          refine Stop.of_d (places57_c k.nodes h.nodes hk.n hh.n _ _) ?_
          simp
          refine Stop.of_d (places57_c k.edges h.edges hk.e hh.e _ _) ?_
          simp
          have hRes : thrR a b x h k = ⟨glue a b (placesK k.nodes h.nodes k.nodes.length) (placesK k.edges h.edges k.edges.length), ⟨restK h.nodes k.nodes (placesK k.nodes h.nodes k.nodes.length) k.nodes.length, restK h.edges k.edges (placesK k.edges h.edges k.edges.length) k.edges.length⟩, 0⟩ := by
            simp [thrR, h1, h2, h3, h4]
          simp only [hRes]
          have hbn := hb.n
          have hbe := hb.e
          have hhn := hh.n
          have hhe := hh.e
          have hkn := hk.n
          have hke := hk.e
          have hPl : (placesK k.nodes h.nodes k.nodes.length).length = k.nodes.length := by simp
          have hQl : (placesK k.edges h.edges k.edges.length).length = k.edges.length := by simp
          clear hRes
          generalize placesK k.nodes h.nodes k.nodes.length = P at *
          generalize placesK k.edges h.edges k.edges.length = Q at *
          have hxb := validG_edges v2.va
          have vln := v2.ln
          have vle := v2.le
          repeat (first | refine AL.seq ?_ | refine AL.block ?_ | refine AL.skip ?_ | refine AL.blk ?_)
          refine AL.region follows_Try (Nat.le_refl _) (by kernel_rfl) ?_
          simp
          refine Stop.of_d (glued_c a b P Q ha v1.va (by omega) (by omega) (by omega) (by omega) (fun i _ h2 _ => by obtain ⟨e1, e2, e3, e4⟩ := hxb _ (List.getElem_mem h2); omega) _ _) ?_
          simp
          generalize glue a b P Q = o at *
          repeat (first | refine AL.seq ?_ | refine AL.block ?_ | refine AL.skip ?_ | refine AL.blk ?_)
          refine AL.region follows_Try (Nat.le_refl _) (by kernel_rfl) ?_
          simp
          refine Stop.of_d (clone_c h.nodes hhn _ _) ?_
          simp
          refine Stop.of_d (clone_c h.edges hhe _ _) ?_
          simp
          repeat (first | refine AL.seq ?_ | refine AL.block ?_ | refine AL.skip ?_ | refine AL.blk ?_)
          refine AL.region follows_Try (Nat.le_refl _) (by kernel_rfl) ?_
          simp
          repeat (first | refine AL.seq ?_ | refine AL.block ?_ | refine AL.skip ?_ | refine AL.blk ?_)
          have htk0 := (TK.start htok).full.app.full.app.swap
          refine AL.loopT (st28a h k o P Q nb box) (fun y => y.i ≤ P.length ∧ TK tok nt y.tok y.nt [y.o1, y.o2]) (fun y => P.length - y.i) ⟨0, .tok nt, .tok (nt + 1), _, _⟩ ⟨Nat.zero_le _, htk0⟩ (Weaks.mk htk0.le rfl (by simp [ToL, lk]) (by simp [BoxL, lk, restK])) ?_
          rintro ⟨i, o1, o2, tok', nt'⟩ S ⟨hi, htk⟩ hS
          simp only [st28a] at hS hi htk
          subst hS
          have hw : IntKind.i64.wrap (↑i + 1) = ((i + 1 : Nat) : Int) := by rw [wrap_in (by omega) (by omega)]; rfl
          have hrl := restK_len h.nodes k.nodes P i
          repeat (first | refine AL.seq ?_ | refine AL.block ?_ | refine AL.skip ?_ | refine AL.blk ?_)
          refine AL.region follows_Try (Nat.le_refl _) (by kernel_rfl) ?_
          simp
          repeat (first | refine AL.seq ?_ | refine AL.block ?_ | refine AL.skip ?_ | refine AL.blk ?_)
          refine AL.cond ?_
          simp
          refine ⟨fun hlt => ?_, fun hge => ?_⟩
          · have hik : i < k.nodes.length := by omega
            have gP : P.getD i 0 = P[i] := by simp [hlt]
            have gk : k.nodes.getD i 0 = k.nodes[i] := by simp [hik]
            repeat (first | refine AL.seq ?_ | refine AL.block ?_ | refine AL.skip ?_ | refine AL.blk ?_)
            refine AL.region follows_Try (Nat.le_refl _) (by kernel_rfl) ?_
            simp [hlt]
            repeat (first | refine AL.seq ?_ | refine AL.block ?_ | refine AL.skip ?_ | refine AL.blk ?_)
            refine AL.region follows_Try (Nat.le_refl _) (by kernel_rfl) ?_
            simp
            repeat (first | refine AL.seq ?_ | refine AL.block ?_ | refine AL.skip ?_ | refine AL.blk ?_)
            refine AL.cond ?_
            simp
            refine ⟨fun hneg => ?_, fun hpos => ?_⟩
            · repeat (first | refine AL.seq ?_ | refine AL.block ?_ | refine AL.skip ?_ | refine AL.blk ?_)
              refine AL.region follows_Try (Nat.le_refl _) (by kernel_rfl) ?_
              simp [hik]
              refine ⟨⟨by omega, htk.live⟩, ?_⟩
              repeat (first | refine AL.seq ?_ | refine AL.block ?_ | refine AL.skip ?_ | refine AL.blk ?_)
              refine AL.region follows_Try (Nat.le_refl _) (by kernel_rfl) ?_
              simp [hw]
              repeat (first | refine AL.seq ?_ | refine AL.block ?_ | refine AL.skip ?_ | refine AL.blk ?_)
              refine AL.nil ?_
              have hK : restK h.nodes k.nodes P (i + 1) = restK h.nodes k.nodes P i ++ [k.nodes[i]] := by simp only [restK, gP, gk, hneg, ↓reduceIte]
              exact ⟨⟨i + 1, _, _, _, _⟩, ⟨hlt, htk.app⟩, by simp; omega, Weaks.mk htk.app.le rfl (by simp [ToL, lk]) (by simp [BoxL, lk, hK])⟩
            · repeat (first | refine AL.seq ?_ | refine AL.block ?_ | refine AL.skip ?_ | refine AL.blk ?_)
              refine AL.region follows_Try (Nat.le_refl _) (by kernel_rfl) ?_
              simp [hw]
              repeat (first | refine AL.seq ?_ | refine AL.block ?_ | refine AL.skip ?_ | refine AL.blk ?_)
              refine AL.nil ?_
              have hK : restK h.nodes k.nodes P (i + 1) = restK h.nodes k.nodes P i := by simp only [restK, gP]; rw [if_neg (by omega)]
              exact ⟨⟨i + 1, _, _, _, _⟩, ⟨hlt, htk⟩, by simp; omega, Weaks.mk htk.le rfl (by simp [ToL, lk]) (by simp [BoxL, lk, hK])⟩
          · repeat (first | refine AL.seq ?_ | refine AL.block ?_ | refine AL.skip ?_ | refine AL.blk ?_)
            refine AL.exit ?_
            simp only [AU, ↓reduceIte]
            have : i = P.length := by omega
            subst this
            repeat (first | refine AL.seq ?_ | refine AL.block ?_ | refine AL.skip ?_ | refine AL.blk ?_)
            refine AL.region follows_Try (Nat.le_refl _) (by kernel_rfl) ?_
            simp
            repeat (first | refine AL.seq ?_ | refine AL.block ?_ | refine AL.skip ?_ | refine AL.blk ?_)
            have htk2 := htk.tail
            refine AL.loopT (st28b h k o P Q nb box) (fun y => y.i ≤ Q.length ∧ TK tok nt y.tok y.nt [y.own]) (fun y => Q.length - y.i) ⟨0, o2, tok', nt'⟩ ⟨Nat.zero_le _, htk2⟩ (Weaks.mk htk2.le rfl (by simp [ToL, lk]) (by simp [BoxL, lk, restK])) ?_
            rintro ⟨i, o2, tok', nt'⟩ S ⟨hi, htk⟩ hS
            simp only [st28b] at hS hi htk
            subst hS
            have hw : IntKind.i64.wrap (↑i + 1) = ((i + 1 : Nat) : Int) := by rw [wrap_in (by omega) (by omega)]; rfl
            have hrl := restK_len h.edges k.edges Q i
            repeat (first | refine AL.seq ?_ | refine AL.block ?_ | refine AL.skip ?_ | refine AL.blk ?_)
            refine AL.region follows_Try (Nat.le_refl _) (by kernel_rfl) ?_
            simp
            repeat (first | refine AL.seq ?_ | refine AL.block ?_ | refine AL.skip ?_ | refine AL.blk ?_)
            refine AL.cond ?_
            simp
            refine ⟨fun hlt => ?_, fun hge => ?_⟩
            · have hik : i < k.edges.length := by omega
              have gP : Q.getD i 0 = Q[i] := by simp [hlt]
              have gk : k.edges.getD i 0 = k.edges[i] := by simp [hik]
              repeat (first | refine AL.seq ?_ | refine AL.block ?_ | refine AL.skip ?_ | refine AL.blk ?_)
              refine AL.region follows_Try (Nat.le_refl _) (by kernel_rfl) ?_
              simp [hlt]
              repeat (first | refine AL.seq ?_ | refine AL.block ?_ | refine AL.skip ?_ | refine AL.blk ?_)
              refine AL.region follows_Try (Nat.le_refl _) (by kernel_rfl) ?_
              simp
              repeat (first | refine AL.seq ?_ | refine AL.block ?_ | refine AL.skip ?_ | refine AL.blk ?_)
              refine AL.cond ?_
              simp
              refine ⟨fun hneg => ?_, fun hpos => ?_⟩
              · repeat (first | refine AL.seq ?_ | refine AL.block ?_ | refine AL.skip ?_ | refine AL.blk ?_)
                refine AL.region follows_Try (Nat.le_refl _) (by kernel_rfl) ?_
                simp [hik]
                refine ⟨⟨by omega, htk.live⟩, ?_⟩
                repeat (first | refine AL.seq ?_ | refine AL.block ?_ | refine AL.skip ?_ | refine AL.blk ?_)
                refine AL.region follows_Try (Nat.le_refl _) (by kernel_rfl) ?_
                simp [hw]
                repeat (first | refine AL.seq ?_ | refine AL.block ?_ | refine AL.skip ?_ | refine AL.blk ?_)
                refine AL.nil ?_
                have hK : restK h.edges k.edges Q (i + 1) = restK h.edges k.edges Q i ++ [k.edges[i]] := by simp only [restK, gP, gk, hneg, ↓reduceIte]
                exact ⟨⟨i + 1, _, _, _⟩, ⟨hlt, htk.app⟩, by simp; omega, Weaks.mk htk.app.le rfl (by simp [ToL, lk]) (by simp [BoxL, lk, hK])⟩
              · repeat (first | refine AL.seq ?_ | refine AL.block ?_ | refine AL.skip ?_ | refine AL.blk ?_)
                refine AL.region follows_Try (Nat.le_refl _) (by kernel_rfl) ?_
                simp [hw]
                repeat (first | refine AL.seq ?_ | refine AL.block ?_ | refine AL.skip ?_ | refine AL.blk ?_)
                refine AL.nil ?_
                have hK : restK h.edges k.edges Q (i + 1) = restK h.edges k.edges Q i := by simp only [restK, gP]; rw [if_neg (by omega)]
                exact ⟨⟨i + 1, _, _, _⟩, ⟨hlt, htk⟩, by simp; omega, Weaks.mk htk.le rfl (by simp [ToL, lk]) (by simp [BoxL, lk, hK])⟩
            · repeat (first | refine AL.seq ?_ | refine AL.block ?_ | refine AL.skip ?_ | refine AL.blk ?_)
              refine AL.exit ?_
              simp only [AU, ↓reduceIte]
              have : i = Q.length := by omega
              subst this
              repeat (first | refine AL.seq ?_ | refine AL.block ?_ | refine AL.skip ?_ | refine AL.blk ?_)
              refine AL.region2 follows_Try (Nat.le_refl _) (by kernel_rfl) (Side.of (by simp)) ?_
              simp
              repeat (first | refine AL.seq ?_ | refine AL.block ?_ | refine AL.skip ?_ | refine AL.blk ?_)
              refine AL.ret ?_
              try simp only [AU]
              refine ⟨by simp, Fin.data (by simp [resAs, resA]; rfl) hbox rfl htok htk.old htk.le ?_⟩
              simp [packA, hPl, hQl]
        · simp [h4]
          repeat (first | refine AL.seq ?_ | refine AL.block ?_ | refine AL.skip ?_ | refine AL.blk ?_)
          refine AL.cond ?_
          simp
          repeat (first | refine AL.seq ?_ | refine AL.block ?_ | refine AL.skip ?_ | refine AL.blk ?_)
          refine AL.region follows_Try (Nat.le_refl _) (by kernel_rfl) ?_
          simp
          repeat (first | refine AL.seq ?_ | refine AL.block ?_ | refine AL.skip ?_ | refine AL.blk ?_)
          refine AL.ret ?_
          try simp only [AU]
          refine ⟨by simp, Fin.data (by simp [resAs, resA]; rfl) hbox rfl htok (fun _ h => h) (Nat.le_refl _) ?_⟩
          simp [packA, thrR, h1, h2, h3, h4, emptyO, ints, AM.edges]
      · simp [h3]
        repeat (first | refine AL.seq ?_ | refine AL.block ?_ | refine AL.skip ?_ | refine AL.blk ?_)
        refine AL.cond ?_
        simp
        repeat (first | refine AL.seq ?_ | refine AL.block ?_ | refine AL.skip ?_ | refine AL.blk ?_)
        refine AL.region follows_Try (Nat.le_refl _) (by kernel_rfl) ?_
        simp
        repeat (first | refine AL.seq ?_ | refine AL.block ?_ | refine AL.skip ?_ | refine AL.blk ?_)
        refine AL.ret ?_
        try simp only [AU]
        refine ⟨by simp, Fin.data (by simp [resAs, resA]; rfl) hbox rfl htok (fun _ h => h) (Nat.le_refl _) ?_⟩
        simp [packA, thrR, h1, h2, h3, emptyO, ints, AM.edges]
    · have hb1 : (validM b x k != 0) = true := by simp [h2]
      repeat (first | refine AL.seq ?_ | refine AL.block ?_ | refine AL.skip ?_ | refine AL.blk ?_)
      refine AL.region follows_Try (Nat.le_refl _) (by kernel_rfl) ?_
      simp [hb1]
      repeat (first | refine AL.seq ?_ | refine AL.block ?_ | refine AL.skip ?_ | refine AL.blk ?_)
      refine AL.cond ?_
      simp
      repeat (first | refine AL.seq ?_ | refine AL.block ?_ | refine AL.skip ?_ | refine AL.blk ?_)
      refine AL.region follows_Try (Nat.le_refl _) (by kernel_rfl) ?_
      simp
      repeat (first | refine AL.seq ?_ | refine AL.block ?_ | refine AL.skip ?_ | refine AL.blk ?_)
      refine AL.ret ?_
      try simp only [AU]
      refine ⟨by simp, Fin.data (by simp [resAs, resA]; rfl) hbox rfl htok (fun _ h => h) (Nat.le_refl _) ?_⟩
      simp [packA, thrR, h1, h2, emptyO, ints, AM.edges]
  · have hb1 : (validM a x h != 0) = true := by simp [h1]
    repeat (first | refine AL.seq ?_ | refine AL.block ?_ | refine AL.skip ?_ | refine AL.blk ?_)
    refine AL.region follows_Try (Nat.le_refl _) (by kernel_rfl) ?_
    simp [hb1]
    repeat (first | refine AL.seq ?_ | refine AL.block ?_ | refine AL.skip ?_ | refine AL.blk ?_)
    refine AL.cond ?_
    simp
    repeat (first | refine AL.seq ?_ | refine AL.block ?_ | refine AL.skip ?_ | refine AL.blk ?_)
    refine AL.region follows_Try (Nat.le_refl _) (by kernel_rfl) ?_
    simp
    repeat (first | refine AL.seq ?_ | refine AL.block ?_ | refine AL.skip ?_ | refine AL.blk ?_)
    refine AL.ret ?_
    try simp only [AU]
    refine ⟨by simp, Fin.data (by simp [resAs, resA]; rfl) hbox rfl htok (fun _ h => h) (Nat.le_refl _) ?_⟩
    simp [packA, thrR, h1, emptyO, ints, AM.edges]
end Go.AM
namespace Go.AM
open Go Go.Proofs
set_option linter.unusedSimpArgs false
set_option linter.unusedVariables false

/-! ### ref13.Through -/
def st29a (a b : Gr) (h k : Mo) (nb : Nat) (box : Nat → Option (List (List AV))) (y : Acc4) : AState :=
  ⟨tl [(16, .osl 1 (rI (placesK k.nodes h.nodes y.i)) y.o3), (17, .osl 0 [] .full), (18, I y.i), (5, .ptr (nb + 5) 0 0), (6, .ptr (nb + 6) 0 0), (8, .ptr (nb + 8) 0 0), (9, .ptr (nb + 9) 0 0), (10, .ptr (nb + 10) 0 0), (11, .ptr (nb + 11) 0 0), (15, .ptr (nb + 15) 0 0)],
    lb nb box [(5, [[.d (ints a.nodes), .d (AM.edges a.edges)]]), (6, [[.d (ints b.nodes), .d (AM.edges b.edges)]]), (8, [[.d (ints h.nodes), .d (ints h.edges)]]), (9, [[.d (ints k.nodes), .d (ints k.edges)]]), (10, [[.bot, .bot, .bot, .bot, .bot, .bot]]), (11, [[.bot, .bot]]),
      (15, [[.osl 1 (rI (restK h.nodes k.nodes (placesK k.nodes h.nodes k.nodes.length) y.i)) y.o1, .osl 1 (rI h.edges) y.o2]])], y.tok, y.nt⟩

def st29b (a b : Gr) (h k : Mo) (P R : List Int) (nb : Nat) (box : Nat → Option (List (List AV))) (y : Acc2) : AState :=
  ⟨tl [(16, .d (ints P)), (17, .osl 1 (rI (placesK k.edges h.edges y.i)) y.o1), (19, I y.i), (5, .ptr (nb + 5) 0 0), (6, .ptr (nb + 6) 0 0), (8, .ptr (nb + 8) 0 0), (9, .ptr (nb + 9) 0 0), (10, .ptr (nb + 10) 0 0), (11, .ptr (nb + 11) 0 0), (15, .ptr (nb + 15) 0 0)],
    lb nb box [(5, [[.d (ints a.nodes), .d (AM.edges a.edges)]]), (6, [[.d (ints b.nodes), .d (AM.edges b.edges)]]), (8, [[.d (ints h.nodes), .d (ints h.edges)]]), (9, [[.d (ints k.nodes), .d (ints k.edges)]]), (10, [[.bot, .bot, .bot, .bot, .bot, .bot]]), (11, [[.bot, .bot]]),
      (15, [[.d (ints R), .osl 1 (rI (restK h.edges k.edges (placesK k.edges h.edges k.edges.length) y.i)) y.o2]])], y.tok, y.nt⟩

def st29c (a b : Gr) (P Q R T : List Int) (nb : Nat) (box : Nat → Option (List (List AV))) (tok : Nat → Bool) (nt : Nat) : AState :=
  ⟨tl [(16, .d (ints P)), (17, .d (ints Q)), (5, .ptr (nb + 5) 0 0), (6, .ptr (nb + 6) 0 0), (10, .ptr (nb + 10) 0 0), (11, .ptr (nb + 11) 0 0), (15, .ptr (nb + 15) 0 0)],
    lb nb box [(5, [[.d (ints a.nodes), .d (AM.edges a.edges)]]), (6, [[.d (ints b.nodes), .d (AM.edges b.edges)]]), (10, [[.bot, .bot, .bot, .bot, .bot, .bot]]), (11, [[.bot, .bot]]),
      (15, [[.d (ints R), .d (ints T)]])], tok, nt⟩

theorem through29_c (a b x : Gr) (h k : Mo) (ha : a.Fit) (hb : b.Fit) (hx : x.Fit) (hh : h.Fit) (hk : k.Fit) (tok : Nat → Bool) (nt : Nat) :
    DCall Try.prog 29 [a.av, b.av, x.av, h.av, k.av] tok nt (.tup [(thrR a b x h k).o.av, (thrR a b x h k).m.av, I (thrR a b x h k).e]) tok nt := by
  intro box nb
  refine ACalls.of_body Try.func29 rfl (by kernel_rfl) follows_Try (by kernel_rfl) (by simp [Try.ntmps29]) ?_
  intro hbox htok
  simp only at hbox htok
  apply AL.start
  repeat (first | refine AL.seq ?_ | refine AL.block ?_ | refine AL.skip ?_ | refine AL.blk ?_)
  refine AL.region follows_Try (Nat.le_refl _) (by kernel_rfl) ?_
  simp
  repeat (first | refine AL.seq ?_ | refine AL.block ?_ | refine AL.skip ?_ | refine AL.blk ?_)
  refine AL.region follows_Try (Nat.le_refl _) (by kernel_rfl) ?_
  simp
  refine Stop.of_d (valid53_c a x h ha hx _ _) ?_
  simp
  by_cases h1 : validM a x h = 0
  · repeat (first | refine AL.seq ?_ | refine AL.block ?_ | refine AL.skip ?_ | refine AL.blk ?_)
    refine AL.region follows_Try (Nat.le_refl _) (by kernel_rfl) ?_
    simp [h1]
    repeat (first | refine AL.seq ?_ | refine AL.block ?_ | refine AL.skip ?_ | refine AL.blk ?_)
    refine AL.cond ?_
    simp
    repeat (first | refine AL.seq ?_ | refine AL.block ?_ | refine AL.skip ?_ | refine AL.blk ?_)
    refine AL.region follows_Try (Nat.le_refl _) (by kernel_rfl) ?_
    simp
    refine Stop.of_d (valid53_c b x k hb hx _ _) ?_
    simp
    by_cases h2 : validM b x k = 0
    · repeat (first | refine AL.seq ?_ | refine AL.block ?_ | refine AL.skip ?_ | refine AL.blk ?_)
      refine AL.region follows_Try (Nat.le_refl _) (by kernel_rfl) ?_
      simp [h2]
      repeat (first | refine AL.seq ?_ | refine AL.block ?_ | refine AL.skip ?_ | refine AL.blk ?_)
      refine AL.cond ?_
      simp
      repeat (first | refine AL.seq ?_ | refine AL.block ?_ | refine AL.skip ?_ | refine AL.blk ?_)
      refine AL.region follows_Try (Nat.le_refl _) (by kernel_rfl) ?_
      simp
      refine Stop.of_d (injective26_c a x h ha hx hh _ _) ?_
      simp
      by_cases h3 : injM a x h = true
      · simp [h3]
        refine Stop.of_d (injective26_c b x k hb hx hk _ _) ?_
        simp [h3]
        by_cases h4 : injM b x k = true
        · simp [h4]
          repeat (first | refine AL.seq ?_ | refine AL.block ?_ | refine AL.skip ?_ | refine AL.blk ?_)
          refine AL.cond ?_
          simp
          have v1 := validM_VM h1
          have v2 := validM_VM h2
          have hRes : thrR a b x h k = ⟨glue a b (placesK k.nodes h.nodes k.nodes.length) (placesK k.edges h.edges k.edges.length), ⟨restK h.nodes k.nodes (placesK k.nodes h.nodes k.nodes.length) k.nodes.length, restK h.edges k.edges (placesK k.edges h.edges k.edges.length) k.edges.length⟩, 0⟩ := by
            simp [thrR, h1, h2, h3, h4]
          simp only [hRes]
          have hbn := hb.n
          have hbe := hb.e
          have hhn := hh.n
          have hhe := hh.e
          have hkn := hk.n
          have hke := hk.e
          clear hRes
          have hxb := validG_edges v2.va
          have vln := v2.ln
          have vle := v2.le
          repeat (first | refine AL.seq ?_ | refine AL.block ?_ | refine AL.skip ?_ | refine AL.blk ?_)
          refine AL.region follows_Try (Nat.le_refl _) (by kernel_rfl) ?_
          simp
          refine ⟨by omega, by omega, ?_⟩
          repeat (first | refine AL.seq ?_ | refine AL.block ?_ | refine AL.skip ?_ | refine AL.blk ?_)
          refine AL.region follows_Try (Nat.le_refl _) (by kernel_rfl) ?_
          simp
          repeat (first | refine AL.seq ?_ | refine AL.block ?_ | refine AL.skip ?_ | refine AL.blk ?_)
          refine AL.region follows_Try (Nat.le_refl _) (by kernel_rfl) ?_
          simp
          repeat (first | refine AL.seq ?_ | refine AL.block ?_ | refine AL.skip ?_ | refine AL.blk ?_)
          have htk0 := (TK.start htok).full.app.full.app.swap.full
          refine AL.loopT (st29a a b h k nb box) (fun y => y.i ≤ k.nodes.length ∧ TK tok nt y.tok y.nt [y.o3, y.o1, y.o2]) (fun y => k.nodes.length - y.i) ⟨0, .tok nt, .tok (nt + 1), .full, .full, _, _⟩ ⟨Nat.zero_le _, htk0⟩ (Weaks.mk htk0.le rfl (by simp [ToL, lk, placesK_zero]) (by simp [BoxL, lk, restK])) ?_
          rintro ⟨i, o1, o2, o3, o4, tok', nt'⟩ S ⟨hi, htk⟩ hS
          simp only [st29a] at hS hi htk
          subst hS
          have hw : IntKind.i64.wrap (↑i + 1) = ((i + 1 : Nat) : Int) := by rw [wrap_in (by omega) (by omega)]; rfl
          have hrl := restK_len h.nodes k.nodes (placesK k.nodes h.nodes k.nodes.length) i
          repeat (first | refine AL.seq ?_ | refine AL.block ?_ | refine AL.skip ?_ | refine AL.blk ?_)
          refine AL.region follows_Try (Nat.le_refl _) (by kernel_rfl) ?_
          simp
          repeat (first | refine AL.seq ?_ | refine AL.block ?_ | refine AL.skip ?_ | refine AL.blk ?_)
          refine AL.cond ?_
          simp
          refine ⟨fun hlt => ?_, fun hge => ?_⟩
          · have gP : (placesK k.nodes h.nodes k.nodes.length).getD i 0 = indexI h.nodes k.nodes[i] := by simp [placesK, hlt]
            have gk : k.nodes.getD i 0 = k.nodes[i] := by simp [hlt]
            have hmn : min i k.nodes.length = i := by omega
            repeat (first | refine AL.seq ?_ | refine AL.block ?_ | refine AL.skip ?_ | refine AL.blk ?_)
            refine AL.region follows_Try (Nat.le_refl _) (by kernel_rfl) ?_
            simp [hlt]
            refine Stop.of_d (index60_c h.nodes k.nodes[i] hhn _ _) ?_
            simp
            refine ⟨⟨by omega, htk.live⟩, ?_⟩
            have htk1 := htk.app
            repeat (first | refine AL.seq ?_ | refine AL.block ?_ | refine AL.skip ?_ | refine AL.blk ?_)
            refine AL.region follows_Try (Nat.le_refl _) (by kernel_rfl) ?_
            simp [hmn]
            refine ⟨by omega, ?_⟩
            repeat (first | refine AL.seq ?_ | refine AL.block ?_ | refine AL.skip ?_ | refine AL.blk ?_)
            refine AL.cond ?_
            simp
            refine ⟨fun hneg => ?_, fun hpos => ?_⟩
            · repeat (first | refine AL.seq ?_ | refine AL.block ?_ | refine AL.skip ?_ | refine AL.blk ?_)
              refine AL.region follows_Try (Nat.le_refl _) (by kernel_rfl) ?_
              simp [hlt]
              refine ⟨⟨by omega, by simpa using htk1.swap.live⟩, ?_⟩
              have htk2 := htk1.swap.app.swap
              repeat (first | refine AL.seq ?_ | refine AL.block ?_ | refine AL.skip ?_ | refine AL.blk ?_)
              refine AL.region follows_Try (Nat.le_refl _) (by kernel_rfl) ?_
              simp [hw]
              repeat (first | refine AL.seq ?_ | refine AL.block ?_ | refine AL.skip ?_ | refine AL.blk ?_)
              refine AL.nil ?_
              have hK : restK h.nodes k.nodes (placesK k.nodes h.nodes k.nodes.length) (i + 1) = restK h.nodes k.nodes (placesK k.nodes h.nodes k.nodes.length) i ++ [k.nodes[i]] := by simp only [restK, gP, gk, hneg, ↓reduceIte]
              exact ⟨⟨i + 1, _, _, _, .full, _, _⟩, ⟨hlt, htk2⟩, by simp; omega, Weaks.mk htk2.le rfl (by simp [ToL, lk, placesK_succ _ _ hlt]) (by simp [BoxL, lk, hK])⟩
            · repeat (first | refine AL.seq ?_ | refine AL.block ?_ | refine AL.skip ?_ | refine AL.blk ?_)
              refine AL.region follows_Try (Nat.le_refl _) (by kernel_rfl) ?_
              simp [hw]
              repeat (first | refine AL.seq ?_ | refine AL.block ?_ | refine AL.skip ?_ | refine AL.blk ?_)
              refine AL.nil ?_
              have hK : restK h.nodes k.nodes (placesK k.nodes h.nodes k.nodes.length) (i + 1) = restK h.nodes k.nodes (placesK k.nodes h.nodes k.nodes.length) i := by simp only [restK, gP]; rw [if_neg (by omega)]
              exact ⟨⟨i + 1, _, _, _, .full, _, _⟩, ⟨hlt, htk1⟩, by simp; omega, Weaks.mk htk1.le rfl (by simp [ToL, lk, placesK_succ _ _ hlt]) (by simp [BoxL, lk, hK])⟩
          · repeat (first | refine AL.seq ?_ | refine AL.block ?_ | refine AL.skip ?_ | refine AL.blk ?_)
            refine AL.exit ?_
            simp only [AU, ↓reduceIte]
            have : i = k.nodes.length := by omega
            subst this
            repeat (first | refine AL.seq ?_ | refine AL.block ?_ | refine AL.skip ?_ | refine AL.blk ?_)
            refine AL.region follows_Try (Nat.le_refl _) (by kernel_rfl) ?_
            simp
            repeat (first | refine AL.seq ?_ | refine AL.block ?_ | refine AL.skip ?_ | refine AL.blk ?_)
            have htk3 := htk.tail.tail.full
            have hPl : (placesK k.nodes h.nodes k.nodes.length).length = k.nodes.length := by simp
            have hQl : (placesK k.edges h.edges k.edges.length).length = k.edges.length := by simp
            clear htk hrl htk0
            generalize restK h.nodes k.nodes (placesK k.nodes h.nodes k.nodes.length) k.nodes.length = R at *
            generalize placesK k.nodes h.nodes k.nodes.length = P at *
            refine AL.loopT (st29b a b h k P R nb box) (fun y => y.i ≤ k.edges.length ∧ TK tok nt y.tok y.nt [y.o1, y.o2]) (fun y => k.edges.length - y.i) ⟨0, .full, o2, _, _⟩ ⟨Nat.zero_le _, htk3⟩ (Weaks.mk htk3.le rfl (by simp [ToL, lk, placesK_zero]) (by simp [BoxL, lk, restK])) ?_
            rintro ⟨i, o3, o2, tok', nt'⟩ S ⟨hi, htk⟩ hS
            simp only [st29b] at hS hi htk
            subst hS
            have hw : IntKind.i64.wrap (↑i + 1) = ((i + 1 : Nat) : Int) := by rw [wrap_in (by omega) (by omega)]; rfl
            have hrl := restK_len h.edges k.edges (placesK k.edges h.edges k.edges.length) i
            repeat (first | refine AL.seq ?_ | refine AL.block ?_ | refine AL.skip ?_ | refine AL.blk ?_)
            refine AL.region follows_Try (Nat.le_refl _) (by kernel_rfl) ?_
            simp
            repeat (first | refine AL.seq ?_ | refine AL.block ?_ | refine AL.skip ?_ | refine AL.blk ?_)
            refine AL.cond ?_
            simp
            refine ⟨fun hlt => ?_, fun hge => ?_⟩
            · have gP : (placesK k.edges h.edges k.edges.length).getD i 0 = indexI h.edges k.edges[i] := by simp [placesK, hlt]
              have gk : k.edges.getD i 0 = k.edges[i] := by simp [hlt]
              have hmn : min i k.edges.length = i := by omega
              repeat (first | refine AL.seq ?_ | refine AL.block ?_ | refine AL.skip ?_ | refine AL.blk ?_)
              refine AL.region follows_Try (Nat.le_refl _) (by kernel_rfl) ?_
              simp [hlt]
              refine Stop.of_d (index60_c h.edges k.edges[i] hhe _ _) ?_
              simp
              refine ⟨⟨by omega, htk.live⟩, ?_⟩
              have htk1 := htk.app
              repeat (first | refine AL.seq ?_ | refine AL.block ?_ | refine AL.skip ?_ | refine AL.blk ?_)
              refine AL.region follows_Try (Nat.le_refl _) (by kernel_rfl) ?_
              simp [hmn]
              refine ⟨by omega, ?_⟩
              repeat (first | refine AL.seq ?_ | refine AL.block ?_ | refine AL.skip ?_ | refine AL.blk ?_)
              refine AL.cond ?_
              simp
              refine ⟨fun hneg => ?_, fun hpos => ?_⟩
              · repeat (first | refine AL.seq ?_ | refine AL.block ?_ | refine AL.skip ?_ | refine AL.blk ?_)
                refine AL.region follows_Try (Nat.le_refl _) (by kernel_rfl) ?_
                simp [hlt]
                refine ⟨⟨by omega, by simpa using htk1.swap.live⟩, ?_⟩
                have htk2 := htk1.swap.app.swap
                repeat (first | refine AL.seq ?_ | refine AL.block ?_ | refine AL.skip ?_ | refine AL.blk ?_)
                refine AL.region follows_Try (Nat.le_refl _) (by kernel_rfl) ?_
                simp [hw]
                repeat (first | refine AL.seq ?_ | refine AL.block ?_ | refine AL.skip ?_ | refine AL.blk ?_)
                refine AL.nil ?_
                have hK : restK h.edges k.edges (placesK k.edges h.edges k.edges.length) (i + 1) = restK h.edges k.edges (placesK k.edges h.edges k.edges.length) i ++ [k.edges[i]] := by simp only [restK, gP, gk, hneg, ↓reduceIte]
                exact ⟨⟨i + 1, _, _, _, _⟩, ⟨hlt, htk2⟩, by simp; omega, Weaks.mk htk2.le rfl (by simp [ToL, lk, placesK_succ _ _ hlt]) (by simp [BoxL, lk, hK])⟩
              · repeat (first | refine AL.seq ?_ | refine AL.block ?_ | refine AL.skip ?_ | refine AL.blk ?_)
                refine AL.region follows_Try (Nat.le_refl _) (by kernel_rfl) ?_
                simp [hw]
                repeat (first | refine AL.seq ?_ | refine AL.block ?_ | refine AL.skip ?_ | refine AL.blk ?_)
                refine AL.nil ?_
                have hK : restK h.edges k.edges (placesK k.edges h.edges k.edges.length) (i + 1) = restK h.edges k.edges (placesK k.edges h.edges k.edges.length) i := by simp only [restK, gP]; rw [if_neg (by omega)]
                exact ⟨⟨i + 1, _, _, _, _⟩, ⟨hlt, htk1⟩, by simp; omega, Weaks.mk htk1.le rfl (by simp [ToL, lk, placesK_succ _ _ hlt]) (by simp [BoxL, lk, hK])⟩
            · repeat (first | refine AL.seq ?_ | refine AL.block ?_ | refine AL.skip ?_ | refine AL.blk ?_)
              refine AL.exit ?_
              simp only [AU, ↓reduceIte]
              have : i = k.edges.length := by omega
              subst this
              refine AL.weak (S' := st29c a b P (placesK k.edges h.edges k.edges.length) R (restK h.edges k.edges (placesK k.edges h.edges k.edges.length) k.edges.length) nb box tok' nt') (Weaks.mk htk.le rfl (by simp [ToL, lk]) (by simp [BoxL, lk])) ?_
              generalize placesK k.edges h.edges k.edges.length = Q at *
              simp only [st29c]
              repeat (first | refine AL.seq ?_ | refine AL.block ?_ | refine AL.skip ?_ | refine AL.blk ?_)
              refine AL.region2 follows_Try (Nat.le_refl _) (by kernel_rfl) (Side.of (by simp)) ?_
              simp
              refine Stop.of_d (overlap_c a b P Q ha (by omega) (by omega) (by omega) (by omega) (fun i _ h2 _ => by obtain ⟨e1, e2, e3, e4⟩ := hxb _ (List.getElem_mem h2); omega) _ _) ?_
              generalize glue a b P Q = o at *
              simp
              repeat (first | refine AL.seq ?_ | refine AL.block ?_ | refine AL.skip ?_ | refine AL.blk ?_)
              refine AL.ret ?_
              try simp only [AU]
              refine ⟨by simp, Fin.data (by simp [resAs, resA]; rfl) hbox rfl htok htk.old htk.le ?_⟩
              simp [packA, ]
        · simp [h4]
          repeat (first | refine AL.seq ?_ | refine AL.block ?_ | refine AL.skip ?_ | refine AL.blk ?_)
          refine AL.cond ?_
          simp
          repeat (first | refine AL.seq ?_ | refine AL.block ?_ | refine AL.skip ?_ | refine AL.blk ?_)
          refine AL.region follows_Try (Nat.le_refl _) (by kernel_rfl) ?_
          simp
          repeat (first | refine AL.seq ?_ | refine AL.block ?_ | refine AL.skip ?_ | refine AL.blk ?_)
          refine AL.ret ?_
          try simp only [AU]
          refine ⟨by simp, Fin.data (by simp [resAs, resA]; rfl) hbox rfl htok (fun _ h => h) (Nat.le_refl _) ?_⟩
          simp [packA, thrR, h1, h2, h3, h4, emptyO, ints, AM.edges]
      · simp [h3]
        repeat (first | refine AL.seq ?_ | refine AL.block ?_ | refine AL.skip ?_ | refine AL.blk ?_)
        refine AL.cond ?_
        simp
        repeat (first | refine AL.seq ?_ | refine AL.block ?_ | refine AL.skip ?_ | refine AL.blk ?_)
        refine AL.region follows_Try (Nat.le_refl _) (by kernel_rfl) ?_
        simp
        repeat (first | refine AL.seq ?_ | refine AL.block ?_ | refine AL.skip ?_ | refine AL.blk ?_)
        refine AL.ret ?_
        try simp only [AU]
        refine ⟨by simp, Fin.data (by simp [resAs, resA]; rfl) hbox rfl htok (fun _ h => h) (Nat.le_refl _) ?_⟩
        simp [packA, thrR, h1, h2, h3, emptyO, ints, AM.edges]
    · have hb1 : (validM b x k != 0) = true := by simp [h2]
      repeat (first | refine AL.seq ?_ | refine AL.block ?_ | refine AL.skip ?_ | refine AL.blk ?_)
      refine AL.region follows_Try (Nat.le_refl _) (by kernel_rfl) ?_
      simp [hb1]
      repeat (first | refine AL.seq ?_ | refine AL.block ?_ | refine AL.skip ?_ | refine AL.blk ?_)
      refine AL.cond ?_
      simp
      repeat (first | refine AL.seq ?_ | refine AL.block ?_ | refine AL.skip ?_ | refine AL.blk ?_)
      refine AL.region follows_Try (Nat.le_refl _) (by kernel_rfl) ?_
      simp
      repeat (first | refine AL.seq ?_ | refine AL.block ?_ | refine AL.skip ?_ | refine AL.blk ?_)
      refine AL.ret ?_
      try simp only [AU]
      refine ⟨by simp, Fin.data (by simp [resAs, resA]; rfl) hbox rfl htok (fun _ h => h) (Nat.le_refl _) ?_⟩
      simp [packA, thrR, h1, h2, emptyO, ints, AM.edges]
  · have hb1 : (validM a x h != 0) = true := by simp [h1]
    repeat (first | refine AL.seq ?_ | refine AL.block ?_ | refine AL.skip ?_ | refine AL.blk ?_)
    refine AL.region follows_Try (Nat.le_refl _) (by kernel_rfl) ?_
    simp [hb1]
    repeat (first | refine AL.seq ?_ | refine AL.block ?_ | refine AL.skip ?_ | refine AL.blk ?_)
    refine AL.cond ?_
    simp
    repeat (first | refine AL.seq ?_ | refine AL.block ?_ | refine AL.skip ?_ | refine AL.blk ?_)
    refine AL.region follows_Try (Nat.le_refl _) (by kernel_rfl) ?_
    simp
    repeat (first | refine AL.seq ?_ | refine AL.block ?_ | refine AL.skip ?_ | refine AL.blk ?_)
    refine AL.ret ?_
    try simp only [AU]
    refine ⟨by simp, Fin.data (by simp [resAs, resA]; rfl) hbox rfl htok (fun _ h => h) (Nat.le_refl _) ?_⟩
    simp [packA, thrR, h1, emptyO, ints, AM.edges]
end Go.AM
/-
  The plain law of Through: the two morphisms go through the gluing along the places that they share, and what is left is injective. No program in sight.
-/
namespace Go.AM
open Go
set_option linter.unusedSimpArgs false
set_option linter.unusedVariables false

theorem indexI_cases (h : List Int) (v : Int) : (v ∉ h ∧ indexI h v = -1) ∨ ∃ j : Nat, j < h.length ∧ indexI h v = j ∧ h.getD j 0 = v := by
  unfold indexI
  by_cases hv : v ∈ h
  · right
    rw [if_pos hv]
    have hj : h.idxOf v < h.length := List.idxOf_lt_length_iff.2 hv
    exact ⟨h.idxOf v, hj, rfl, by rw [List.getD_eq_getElem?_getD, List.getElem?_eq_getElem hj]; simp⟩
  · left
    rw [if_neg hv]
    exact ⟨hv, rfl⟩
theorem getD_inj {h : List Int} (hn : h.Nodup) {i j : Nat} (hi : i < h.length) (hj : j < h.length) (e : h.getD i 0 = h.getD j 0) : i = j := by
  rw [List.getD_eq_getElem?_getD, List.getD_eq_getElem?_getD, List.getElem?_eq_getElem hi, List.getElem?_eq_getElem hj] at e
  rcases Nat.lt_trichotomy i j with h1 | h1 | h1
  · exact absurd e (List.pairwise_iff_getElem.1 hn i j hi hj h1)
  · exact h1
  · exact absurd e.symm (List.pairwise_iff_getElem.1 hn j i hj hi h1)
theorem indexI_at {h : List Int} (hn : h.Nodup) {j : Nat} (hj : j < h.length) : indexI h (h.getD j 0) = j := by
  rcases indexI_cases h (h.getD j 0) with ⟨h1, _⟩ | ⟨q, q1, q2, q3⟩
  · exact absurd (getD_mem hj) h1
  · rw [q2, getD_inj hn q1 hj q3]
theorem placesK_getD {k h : List Int} {i : Nat} (hi : i < k.length) : (placesK k h k.length).getD i 0 = indexI h (k.getD i 0) := by
  simp [placesK, hi]

theorem places_isM {h k : List Int} (hk : k.Nodup) (ok : Nat → Nat → Bool) {na nb : Nat} (hl : h.length = na) (hb : k.length = nb) (hok : ∀ i j, i < nb → j < na → h.getD j 0 = k.getD i 0 → ok i j = true) : isM ok na nb (placesK k h k.length) := by
  refine ⟨by simp [hb], fun i hi => ?_⟩
  unfold okAt
  rw [placesK_getD (by omega)]
  rcases indexI_cases h (k.getD i 0) with ⟨_, h2⟩ | ⟨j, h1, h2, h3⟩
  · exact .inl h2
  · refine .inr ⟨j, h2, by omega, hok i j hi (by omega) h3, fun hm => ?_⟩
    rw [List.mem_take_iff_getElem] at hm
    obtain ⟨q, hq, e⟩ := hm
    have hqi : q < i := by omega
    have hql : q < k.length := by omega
    have e2 : (placesK k h k.length).getD q 0 = (j : Int) := by
      rw [List.getD_eq_getElem?_getD, List.getElem?_eq_getElem (by simp; omega)]
      exact e
    rw [placesK_getD hql] at e2
    rcases indexI_cases h (k.getD q 0) with ⟨_, f2⟩ | ⟨j', f1, f2, f3⟩
    · omega
    · have : j' = j := by omega
      subst this
      have := getD_inj hk hql (show i < k.length by omega) (by rw [← f3, h3])
      omega

structure RI (h k r : List Int) (i : Nat) (R : List Int) (gl : Nat) : Prop where
  len : R.length = gl
  pre : ∃ t, R = h ++ t
  val : ∀ j, j < i → R.getD (r.getD j 0).toNat 0 = k.getD j 0
  mem : ∀ y ∈ R, y ∈ h ∨ ∃ j, j < i ∧ y = k.getD j 0
  nodup : R.Nodup

theorem rest_ri {α : Type} [Inhabited α] {an bn : List α} {h k : List Int} (hl : h.length = an.length) (hb : k.length = bn.length) (hh : h.Nodup) (hk : k.Nodup) {ok : Nat → Nat → Bool} (hM : isM ok an.length bn.length (placesK k h k.length))
    (hok : ∀ i k, i < bn.length → k < an.length → ok i k = true → an.getD k default = bn.getD i default) :
    ∀ i, i ≤ bn.length → RI h k (glueG an bn (placesK k h k.length) i).2 i (restK h k (placesK k h k.length) i) (glueG an bn (placesK k h k.length) i).1.length
  | 0, _ => ⟨by simp [restK, glueG, hl], ⟨[], by simp [restK]⟩, fun j hj => absurd hj (Nat.not_lt_zero _), fun y hy => .inl hy, hh⟩
  | i + 1, hi => by
    have ih := rest_ri hl hb hh hk hM hok i (by omega)
    have g := glue_gi hM hok i (by omega)
    have hik : i < k.length := by omega
    simp only [restK, glueG, placesK_getD hik]
    generalize hrn : (glueG an bn (placesK k h k.length) i).1 = rn at ih g ⊢
    generalize hr : (glueG an bn (placesK k h k.length) i).2 = r at ih g ⊢
    generalize hR : restK h k (placesK k h k.length) i = R at ih ⊢
    obtain ⟨t, ht⟩ := ih.pre
    have hlen := g.len
    have hRl := ih.len
    rcases indexI_cases h (k.getD i 0) with ⟨hnot, h2⟩ | ⟨q, q1, q2, q3⟩
    · rw [if_pos (by omega), if_pos (by omega)]
      have old : ∀ j, j < i → (r ++ [(rn.length : Int)]).getD j 0 = r.getD j 0 := fun j hj => getD_lt (by omega)
      have new : (r ++ [(rn.length : Int)]).getD i 0 = rn.length := by rw [← hlen]; exact getD_at
      refine ⟨by simp [hRl], ⟨t ++ [k.getD i 0], by rw [ht, List.append_assoc]⟩, fun j hj => ?_, fun y hy => ?_, ?_⟩
      · by_cases e : j = i
        · subst e; rw [new, Int.toNat_natCast, ← hRl]; exact getD_at
        · have := g.rng j (by omega)
          rw [old j (by omega), getD_lt (by omega)]; exact ih.val j (by omega)
      · rcases List.mem_append.1 hy with hy | hy
        · rcases ih.mem y hy with m | ⟨j, hj, e⟩
          · exact .inl m
          · exact .inr ⟨j, by omega, e⟩
        · exact .inr ⟨i, by omega, by simpa using hy⟩
      · refine List.nodup_append.2 ⟨ih.nodup, by simp, fun y hy z hz e => ?_⟩
        rw [List.mem_singleton] at hz
        subst hz
        subst e
        rcases ih.mem _ hy with m | ⟨j, hj, e⟩
        · exact hnot m
        · have := getD_inj hk hik (show j < k.length by omega) e
          omega
    · rw [if_neg (by omega), if_neg (by omega)]
      have old : ∀ j, j < i → (r ++ [indexI h (k.getD i 0)]).getD j 0 = r.getD j 0 := fun j hj => getD_lt (by omega)
      have new : (r ++ [indexI h (k.getD i 0)]).getD i 0 = indexI h (k.getD i 0) := by
        have : (r ++ [indexI h (k.getD i 0)]).getD r.length 0 = indexI h (k.getD i 0) := getD_at
        rw [hlen] at this; exact this
      refine ⟨hRl, ⟨t, ht⟩, fun j hj => ?_, fun y hy => ?_, ih.nodup⟩
      · by_cases e : j = i
        · subst e; rw [new, q2, Int.toNat_natCast, ht, getD_pre q1]; exact q3
        · rw [old j (by omega)]; exact ih.val j (by omega)
      · rcases ih.mem y hy with m | ⟨j, hj, e⟩
        · exact .inl m
        · exact .inr ⟨j, by omega, e⟩

theorem nodup_bound {l : List Int} {n : Nat} (h : l.Nodup) (hr : ∀ x ∈ l, 0 ≤ x ∧ x < n) : l.length ≤ n := by
  have := nodup_le l (iota n) h fun x hx => by
    have := hr x hx
    simp only [iota, List.mem_map, List.mem_range]
    exact ⟨x.toNat, by omega, by omega⟩
  simpa using this

theorem injM_iff (a b : Gr) (m : Mo) : injM a b m = true ↔ validM a b m = 0 ∧ m.nodes.Nodup ∧ m.edges.Nodup := by
  simp only [injM, Bool.and_eq_true, decide_eq_true_eq, distK_nodup]

theorem validM_of {a b : Gr} {m : Mo} (h : VM a b m) : validM a b m = 0 := by
  have z1 : firstE (nodeE a b m) a.nodes.length = 0 := firstE_zero _ fun i hi => by
    have := h.n _ (getD_mem (d := 0) (show i < m.nodes.length by rw [h.ln]; exact hi))
    unfold nodeE
    rw [if_neg (by omega), if_pos (h.nt i hi)]
  have z2 : firstE (edgeE a b m) a.edges.length = 0 := firstE_zero _ fun i hi => by
    have := h.e _ (getD_mem (d := 0) (show i < m.edges.length by rw [h.le]; exact hi))
    unfold edgeE
    rw [if_neg (by omega)]
    simp only [h.et i hi, ne_eq, not_true_eq_false, or_self, ↓reduceIte]
  unfold validM
  rw [if_neg (by simp [h.va]), if_neg (by simp [h.vb]), if_neg (by have := h.ln; have := h.le; omega), if_neg (by simp [z1]), z2]

theorem byK_ext {l by' t : List Int} (hl : l.length = t.length) (h : ∀ i, i < l.length → by'.getD (l.getD i 0).toNat 0 = t.getD i 0) : byK l by' l.length = t := by
  apply List.ext_getElem
  · simp [hl]
  · intro i h1 h2
    have hi : i < l.length := by omega
    have := h i hi
    simp only [List.getD_eq_getElem?_getD, List.getElem?_eq_getElem hi, List.getElem?_eq_getElem h2, Option.getD_some] at this
    simp only [byK, List.take_length, List.getElem_map, List.getD_eq_getElem?_getD]
    exact this

theorem mem_getD {l : List Int} {v : Int} (h : v ∈ l) : ∃ j, j < l.length ∧ l.getD j 0 = v := by
  obtain ⟨j, hj, e⟩ := List.getElem_of_mem h
  exact ⟨j, hj, by rw [List.getD_eq_getElem?_getD, List.getElem?_eq_getElem hj]; exact e⟩

theorem thr_law {a b x : Gr} {h k : Mo} (h1 : validM a x h = 0) (h2 : validM b x k = 0) (h3 : injM a x h = true) (h4 : injM b x k = true) :
    (thrR a b x h k).e = 0 ∧ compM a (thrR a b x h k).o.g x (thrR a b x h k).o.l (thrR a b x h k).m = (h, 0) ∧ compM b (thrR a b x h k).o.g x (thrR a b x h k).o.r (thrR a b x h k).m = (k, 0) ∧
      injM (thrR a b x h k).o.g x (thrR a b x h k).m = true ∧ (thrR a b x h k).o.Fit ∧ (thrR a b x h k).m.Fit := by
  have v1 := validM_VM h1
  have v2 := validM_VM h2
  obtain ⟨_, hn1, he1⟩ := (injM_iff a x h).1 h3
  obtain ⟨_, hn2, he2⟩ := (injM_iff b x k).1 h4
  have eT : thrR a b x h k = ⟨glue a b (placesK k.nodes h.nodes k.nodes.length) (placesK k.edges h.edges k.edges.length), ⟨restK h.nodes k.nodes (placesK k.nodes h.nodes k.nodes.length) k.nodes.length, restK h.edges k.edges (placesK k.edges h.edges k.edges.length) k.edges.length⟩, 0⟩ := by
    simp [thrR, h1, h2, h3, h4]
  rw [eT]
  simp only
  have ea := validG_edges v1.va
  have eb := validG_edges v2.va
  -- the places are matchings
  have okn : ∀ i j, i < b.nodes.length → j < a.nodes.length → okN a b i j = true → a.nodes.getD j default = b.nodes.getD i default := fun i j _ _ hok => by
    unfold okN at hok
    rw [decide_eq_true_eq] at hok
    exact hok
  have pN : isM (okN a b) a.nodes.length b.nodes.length (placesK k.nodes h.nodes k.nodes.length) := places_isM hn2 _ v1.ln v2.ln fun i j hi hj e => by
    unfold okN
    rw [decide_eq_true_eq, ← v1.nt j hj, ← v2.nt i hi, e]
  have pE : isM (okE a b (placesK k.nodes h.nodes k.nodes.length)) a.edges.length b.edges.length (placesK k.edges h.edges k.edges.length) := places_isM he2 _ v1.le v2.le fun i j hi hj e => by
    unfold okE
    rw [decide_eq_true_eq]
    have t1 := v1.et j hj
    have t2 := v2.et i hi
    rw [e, t2] at t1
    obtain ⟨a1, a2, a3, a4⟩ := ea _ (getD_mem (d := default) hj)
    obtain ⟨b1, b2, b3, b4⟩ := eb _ (getD_mem (d := default) hi)
    have ln1 := v1.ln
    have ln2 := v2.ln
    rw [placesK_getD (by omega), placesK_getD (by omega)]
    generalize a.edges.getD j default = y at *
    generalize b.edges.getD i default = z at *
    have u1 : z.ty = y.ty := (E.mk.inj t1).1
    have u2 : k.nodes.getD z.fr.toNat 0 = h.nodes.getD y.fr.toNat 0 := (E.mk.inj t1).2.1
    have u3 : k.nodes.getD z.to.toNat 0 = h.nodes.getD y.to.toNat 0 := (E.mk.inj t1).2.2
    rw [u2, u3, indexI_at hn1 (by omega), indexI_at hn1 (by omega), u1, Int.toNat_of_nonneg a1, Int.toNat_of_nonneg a3]
  have pair : isPair a b (placesK k.nodes h.nodes k.nodes.length, placesK k.edges h.edges k.edges.length) := ⟨pN, pE⟩
  have gl := glued_of ea eb pair
  have gn := gl.n
  have ge := gl.e
  have hPl : (placesK k.nodes h.nodes k.nodes.length).length = b.nodes.length := pN.1
  have hQl : (placesK k.edges h.edges k.edges.length).length = b.edges.length := pE.1
  have rN : RI h.nodes k.nodes (glue a b (placesK k.nodes h.nodes k.nodes.length) (placesK k.edges h.edges k.edges.length)).r.nodes b.nodes.length (restK h.nodes k.nodes (placesK k.nodes h.nodes k.nodes.length) k.nodes.length) (glue a b (placesK k.nodes h.nodes k.nodes.length) (placesK k.edges h.edges k.edges.length)).g.nodes.length := by
    have := rest_ri (an := a.nodes) (bn := b.nodes) v1.ln v2.ln hn1 hn2 pN okn b.nodes.length (Nat.le_refl _)
    simp only [glue, glueN_G, hPl]
    rw [v2.ln] at this ⊢
    exact this
  have rE : RI h.edges k.edges (glue a b (placesK k.nodes h.nodes k.nodes.length) (placesK k.edges h.edges k.edges.length)).r.edges b.edges.length (restK h.edges k.edges (placesK k.edges h.edges k.edges.length) k.edges.length) (glue a b (placesK k.nodes h.nodes k.nodes.length) (placesK k.edges h.edges k.edges.length)).g.edges.length := by
    have lm : (b.edges.map (mapE (glue a b (placesK k.nodes h.nodes k.nodes.length) (placesK k.edges h.edges k.edges.length)).r.nodes)).length = b.edges.length := by simp
    have := rest_ri (an := a.edges) (bn := b.edges.map (mapE (glue a b (placesK k.nodes h.nodes k.nodes.length) (placesK k.edges h.edges k.edges.length)).r.nodes)) v1.le (by rw [lm]; exact v2.le) he1 he2 (ok := fun i j => decide (a.edges.getD j default = (b.edges.map (mapE (glue a b (placesK k.nodes h.nodes k.nodes.length) (placesK k.edges h.edges k.edges.length)).r.nodes)).getD i default)) (by
        rw [lm]
        refine places_isM he2 _ v1.le v2.le fun i j hi hj e => ?_
        rw [decide_eq_true_eq]
        have q := pE.2 i hi
        unfold okAt at q
        rw [placesK_getD (by have := v2.le; omega), ← e, indexI_at he1 (by have := v1.le; omega)] at q
        rcases q with q | ⟨j', q1, q2, q3, _⟩
        · omega
        · have : j' = j := by omega
          subst this
          unfold okE at q3
          rw [decide_eq_true_eq] at q3
          obtain ⟨b1, b2, b3, b4⟩ := eb _ (getD_mem (d := default) hi)
          obtain ⟨a1, a2, a3, a4⟩ := ea _ (getD_mem (d := default) hj)
          have g3 : (b.edges.map (mapE (glue a b (placesK k.nodes h.nodes k.nodes.length) (placesK k.edges h.edges k.edges.length)).r.nodes)).getD i default = mapE (glue a b (placesK k.nodes h.nodes k.nodes.length) (placesK k.edges h.edges k.edges.length)).r.nodes (b.edges.getD i default) := by simp [hi]
          rw [g3, q3]
          rw [q3] at a1 a3
          simp only at a1 a3
          unfold mapE
          rw [gn.pos _ (by omega) (by omega), gn.pos _ (by omega) (by omega)]) (fun i j _ _ hok => by simpa using hok) b.edges.length (by rw [lm]; exact Nat.le_refl _)
    have e1 : (glue a b (placesK k.nodes h.nodes k.nodes.length) (placesK k.edges h.edges k.edges.length)).g.edges = (glueG a.edges (b.edges.map (mapE (glue a b (placesK k.nodes h.nodes k.nodes.length) (placesK k.edges h.edges k.edges.length)).r.nodes)) (placesK k.edges h.edges k.edges.length) b.edges.length).1 := by
      rw [← glueE_G _ _ _ _ _ (Nat.le_refl _), ← hQl]; rfl
    have e2 : (glue a b (placesK k.nodes h.nodes k.nodes.length) (placesK k.edges h.edges k.edges.length)).r.edges = (glueG a.edges (b.edges.map (mapE (glue a b (placesK k.nodes h.nodes k.nodes.length) (placesK k.edges h.edges k.edges.length)).r.nodes)) (placesK k.edges h.edges k.edges.length) b.edges.length).2 := by
      rw [← glueE_G _ _ _ _ _ (Nat.le_refl _), ← hQl]; rfl
    rw [e1, e2]
    rw [v2.le] at this ⊢
    exact this
  have hol : (glue a b (placesK k.nodes h.nodes k.nodes.length) (placesK k.edges h.edges k.edges.length)).l = idM a := rfl
  have hlaw := glue_law0 v1.va v2.va pair
  rw [hol] at hlaw ⊢
  generalize restK h.nodes k.nodes (placesK k.nodes h.nodes k.nodes.length) k.nodes.length = R at *
  generalize restK h.edges k.edges (placesK k.edges h.edges k.edges.length) k.edges.length = T at *
  have hof : (glue a b (placesK k.nodes h.nodes k.nodes.length) (placesK k.edges h.edges k.edges.length)).l.Fit := by
    have t1 := (validG_types v1.va).1
    rw [hol]
    exact ⟨by simp [idM]; omega, by simp [idM]; omega⟩
  generalize glue a b (placesK k.nodes h.nodes k.nodes.length) (placesK k.edges h.edges k.edges.length) = o at *
  obtain ⟨tx, _, _⟩ := validG_types v1.vb
  obtain ⟨ta, _, _⟩ := validG_types v1.va
  obtain ⟨tb, _, _⟩ := validG_types v2.va
  have bN : ∀ y ∈ R, 0 ≤ y ∧ y < x.nodes.length := fun y hy => by
    rcases rN.mem y hy with m | ⟨j, hj, e⟩
    · exact v1.n y m
    · rw [e]; exact v2.n _ (getD_mem (by rw [v2.ln]; exact hj))
  have bE : ∀ y ∈ T, 0 ≤ y ∧ y < x.edges.length := fun y hy => by
    rcases rE.mem y hy with m | ⟨j, hj, e⟩
    · exact v1.e y m
    · rw [e]; exact v2.e _ (getD_mem (by rw [v2.le]; exact hj))
  have lN := nodup_bound rN.nodup bN
  have lE := nodup_bound rE.nodup bE
  have rlN := rN.len
  have rlE := rE.len
  obtain ⟨hv, w1, w2⟩ := hlaw (by omega)
  obtain ⟨tn, etn⟩ := rN.pre
  obtain ⟨te, ete⟩ := rE.pre
  obtain ⟨un, eun, _⟩ := gn.pre
  obtain ⟨ue, eue, _⟩ := ge.pre
  have hN : ∀ i, i < a.nodes.length → R.getD i 0 = h.nodes.getD i 0 := fun i hi => by rw [etn, getD_pre (by rw [v1.ln]; exact hi)]
  have hE : ∀ i, i < a.edges.length → T.getD i 0 = h.edges.getD i 0 := fun i hi => by rw [ete, getD_pre (by rw [v1.le]; exact hi)]
  have vm : VM o.g x ⟨R, T⟩ := by
    refine ⟨hv, v1.vb, rlN, rlE, bN, bE, fun i hi => ?_, fun i hi => ?_⟩
    · by_cases hia : i < a.nodes.length
      · rw [hN i hia, eun, getD_pre hia]; exact v1.nt i hia
      · obtain ⟨j, hj, ej⟩ := mem_getD (gn.cov i (by omega) hi)
        rw [gn.len] at hj
        have q1 := rN.val j hj
        have q2 := gn.val j hj
        rw [ej, Int.toNat_natCast] at q1 q2
        have q3 := v2.nt j hj
        simp only
        rw [q1, q3]
        exact q2.symm
    · by_cases hia : i < a.edges.length
      · obtain ⟨a1, a2, a3, a4⟩ := ea _ (getD_mem (d := default) hia)
        have q := v1.et i hia
        simp only
        rw [hE i hia, eue, getD_pre hia, q, hN _ (by omega), hN _ (by omega)]
      · obtain ⟨j, hj, ej⟩ := mem_getD (ge.cov i (by omega) hi)
        rw [ge.len] at hj
        have q1 := rE.val j hj
        have q2 := ge.val j hj
        rw [ej, Int.toNat_natCast] at q1 q2
        have q3 := v2.et j hj
        obtain ⟨b1, b2, b3, b4⟩ := eb _ (getD_mem (d := default) hj)
        have g3 : (b.edges.map (mapE o.r.nodes)).getD j default = mapE o.r.nodes (b.edges.getD j default) := by simp [hj]
        rw [g3] at q2
        have f1 := rN.val (b.edges.getD j default).fr.toNat (by omega)
        have f2 := rN.val (b.edges.getD j default).to.toNat (by omega)
        simp only
        rw [q1, q3, q2]
        simp only [mapE]
        rw [f1, f2]
  have hvm := validM_of vm
  refine ⟨trivial, ?_, ?_, (injM_iff _ _ _).2 ⟨hvm, rN.nodup, rE.nodup⟩, ⟨⟨by omega, by omega⟩, hof, ⟨by rw [gn.len]; omega, by rw [ge.len]; omega⟩⟩, ⟨by simp only; omega, by simp only; omega⟩⟩
  · have c1 : byK (iota a.nodes.length) R (iota a.nodes.length).length = h.nodes := byK_ext (by simp [v1.ln]) fun i hi => by
      simp only [iota_length] at hi
      rw [iota_getD hi, Int.toNat_natCast]; exact hN i hi
    have c2 : byK (iota a.edges.length) T (iota a.edges.length).length = h.edges := byK_ext (by simp [v1.le]) fun i hi => by
      simp only [iota_length] at hi
      rw [iota_getD hi, Int.toNat_natCast]; exact hE i hi
    unfold compM
    rw [if_neg (by simp [w1]), if_neg (by simp [hvm])]
    simp only [thenM, idM, c1, c2]
  · have c1 : byK o.r.nodes R o.r.nodes.length = k.nodes := byK_ext (by rw [gn.len, v2.ln]) fun i hi => rN.val i (by rw [← gn.len]; exact hi)
    have c2 : byK o.r.edges T o.r.edges.length = k.edges := byK_ext (by rw [ge.len, v2.le]) fun i hi => rE.val i (by rw [← ge.len]; exact hi)
    unfold compM
    rw [if_neg (by simp [w2]), if_neg (by simp [hvm])]
    simp only [thenM, c1, c2]
end Go.AM
namespace Go.AM
open Go Go.Proofs
set_option linter.unusedSimpArgs false
set_option linter.unusedVariables false

theorem law7_c (a b : Gr) (o : Ov) (hl : o.l.Big) (hr : o.r.Big) (tok : Nat → Bool) (nt : Nat) : ∃ tok' nt', DCall Try.prog 7 [a.av, b.av, o.av] tok nt (B true) tok' nt' := by
  refine ⟨tok, nt, ?_⟩
  intro box nb
  refine ACalls.of_body Try.func7 rfl (by kernel_rfl) follows_Try (by kernel_rfl) (by simp [Try.ntmps7]) ?_
  intro hbox htok
  simp only at hbox htok
  apply AL.start
  repeat (first | refine AL.seq ?_ | refine AL.block ?_ | refine AL.skip ?_ | refine AL.blk ?_)
  refine AL.region follows_Try (Nat.le_refl _) (by kernel_rfl) ?_
  simp
  repeat (first | refine AL.seq ?_ | refine AL.block ?_ | refine AL.skip ?_ | refine AL.blk ?_)
  refine AL.region follows_Try (Nat.le_refl _) (by kernel_rfl) ?_
  simp
  refine Stop.of_d (awake_c _ _) ?_
  simp
  refine Stop.of_d (few05_c a _ _) ?_
  simp
  by_cases h1 : fewG a = true
  · simp [h1]
    refine Stop.of_d (few05_c b _ _) ?_
    simp [h1]
    by_cases h2 : fewG b = true
    · simp [h2]
      refine Stop.of_d (few05_c o.g _ _) ?_
      simp [h2]
      by_cases h3 : fewG o.g = true
      · simp [h3]
        refine Stop.of_d (few06_c o.l 200 hl.n hl.e _ _) ?_
        simp [h3]
        by_cases h4 : fewM o.l 200 = true
        · simp [h4]
          refine Stop.of_d (few06_c o.r 200 hr.n hr.e _ _) ?_
          simp [h4]
          by_cases h5 : fewM o.r 200 = true
          · simp [h5]
            have fa := fewG_fit h1
            have fb := fewG_fit h2
            have fg := fewG_fit h3
            have fl := fewM_fit h4
            have fr := fewM_fit h5
            repeat (first | refine AL.seq ?_ | refine AL.block ?_ | refine AL.skip ?_ | refine AL.blk ?_)
            refine AL.cond ?_
            simp
            repeat (first | refine AL.seq ?_ | refine AL.block ?_ | refine AL.skip ?_ | refine AL.blk ?_)
            refine AL.region follows_Try (Nat.le_refl _) (by kernel_rfl) ?_
            simp
            refine Stop.of_d (copied_c a fa _ _) ?_
            simp
            refine Stop.of_d (copied_c b fb _ _) ?_
            simp
            refine Stop.data ?_
            have htk := (TK.start htok).full.app.full.app.full.app.full.app
            refine Stop.of_d (through28_c a b o.g o.l o.r fa fb fg fl fr _ _) ?_
            simp
            repeat (first | refine AL.seq ?_ | refine AL.block ?_ | refine AL.skip ?_ | refine AL.blk ?_)
            refine AL.region follows_Try (Nat.le_refl _) (by kernel_rfl) ?_
            simp
            refine Stop.of_d (through29_c a b o.g o.l o.r fa fb fg fl fr _ _) ?_
            simp
            have hfit : (thrR a b o.g o.l o.r).o.Fit ∧ (thrR a b o.g o.l o.r).m.Fit := by
              have fe : emptyO.Fit := ⟨⟨by simp [emptyO], by simp [emptyO]⟩, ⟨by simp [emptyO], by simp [emptyO]⟩, ⟨by simp [emptyO], by simp [emptyO]⟩⟩
              have fm : Mo.Fit ⟨[], []⟩ := ⟨by simp, by simp⟩
              by_cases g1 : validM a o.g o.l = 0
              · by_cases g2 : validM b o.g o.r = 0
                · by_cases g3 : injM a o.g o.l = true ∧ injM b o.g o.r = true
                  · exact (thr_law g1 g2 g3.1 g3.2).2.2.2.2
                  · have : thrR a b o.g o.l o.r = ⟨emptyO, ⟨[], []⟩, 1⟩ := by unfold thrR; rw [if_neg (by simp [g1]), if_neg (by simp [g2]), if_neg g3]
                    rw [this]; exact ⟨fe, fm⟩
                · have : thrR a b o.g o.l o.r = ⟨emptyO, ⟨[], []⟩, validM b o.g o.r⟩ := by unfold thrR; rw [if_neg (by simp [g1]), if_pos g2]
                  rw [this]; exact ⟨fe, fm⟩
              · have : thrR a b o.g o.l o.r = ⟨emptyO, ⟨[], []⟩, validM a o.g o.l⟩ := by unfold thrR; rw [if_pos g1]
                rw [this]; exact ⟨fe, fm⟩
            have hgood : (thrR a b o.g o.l o.r).e = 0 → compM a (thrR a b o.g o.l o.r).o.g o.g (thrR a b o.g o.l o.r).o.l (thrR a b o.g o.l o.r).m = (o.l, 0) ∧ compM b (thrR a b o.g o.l o.r).o.g o.g (thrR a b o.g o.l o.r).o.r (thrR a b o.g o.l o.r).m = (o.r, 0) ∧ injM (thrR a b o.g o.l o.r).o.g o.g (thrR a b o.g o.l o.r).m = true := by
              intro he
              by_cases g1 : validM a o.g o.l = 0
              · by_cases g2 : validM b o.g o.r = 0
                · by_cases g3 : injM a o.g o.l = true ∧ injM b o.g o.r = true
                  · obtain ⟨_, q1, q2, q3, _⟩ := thr_law g1 g2 g3.1 g3.2
                    exact ⟨q1, q2, q3⟩
                  · have : thrR a b o.g o.l o.r = ⟨emptyO, ⟨[], []⟩, 1⟩ := by unfold thrR; rw [if_neg (by simp [g1]), if_neg (by simp [g2]), if_neg g3]
                    rw [this] at he; cases he
                · have : thrR a b o.g o.l o.r = ⟨emptyO, ⟨[], []⟩, validM b o.g o.r⟩ := by unfold thrR; rw [if_neg (by simp [g1]), if_pos g2]
                  rw [this] at he; exact absurd he g2
              · have : thrR a b o.g o.l o.r = ⟨emptyO, ⟨[], []⟩, validM a o.g o.l⟩ := by unfold thrR; rw [if_pos g1]
                rw [this] at he; exact absurd he g1
            generalize thrR a b o.g o.l o.r = T at *
            obtain ⟨fo, fm⟩ := hfit
            repeat (first | refine AL.seq ?_ | refine AL.block ?_ | refine AL.skip ?_ | refine AL.blk ?_)
            refine AL.region follows_Try (Nat.le_refl _) (by kernel_rfl) ?_
            simp
            refine Stop.of_d (sameOverlap_c T.o T.o fo _ _) ?_
            simp
            refine Stop.of_d (same06_c T.m T.m fm _ _) ?_
            simp
            by_cases he : T.e = 0
            · obtain ⟨q1, q2, q3⟩ := hgood he
              have hb : (T.e != 0) = false := by simp [he]
              simp only [hb]
              repeat (first | refine AL.seq ?_ | refine AL.block ?_ | refine AL.skip ?_ | refine AL.blk ?_)
              refine AL.cond ?_
              simp
              have d1 := fun tok nt => compose31_c a T.o.g o.g T.o.l T.m fa fo.g fg fo.l tok nt
              have d2 := fun tok nt => compose31_c b T.o.g o.g T.o.r T.m fb fo.g fg fo.r tok nt
              have d3 := fun tok nt => injective26_c T.o.g o.g T.m fo.g fg fm tok nt
              rw [q1] at d1
              rw [q2] at d2
              rw [q3] at d3
              repeat (first | refine AL.seq ?_ | refine AL.block ?_ | refine AL.skip ?_ | refine AL.blk ?_)
              refine AL.region follows_Try (Nat.le_refl _) (by kernel_rfl) ?_
              simp
              refine Stop.of_d (d1 _ _) ?_
              simp
              repeat (first | refine AL.seq ?_ | refine AL.block ?_ | refine AL.skip ?_ | refine AL.blk ?_)
              refine AL.region follows_Try (Nat.le_refl _) (by kernel_rfl) ?_
              simp
              refine Stop.of_d (d2 _ _) ?_
              simp
              repeat (first | refine AL.seq ?_ | refine AL.block ?_ | refine AL.skip ?_ | refine AL.blk ?_)
              refine AL.region follows_Try (Nat.le_refl _) (by kernel_rfl) ?_
              simp
              refine Stop.of_d (same06_c o.l o.l fl _ _) ?_
              simp
              refine Stop.of_d (same06_c o.r o.r fr _ _) ?_
              simp
              refine Stop.of_d (d3 _ _) ?_
              simp
              repeat (first | refine AL.seq ?_ | refine AL.block ?_ | refine AL.skip ?_ | refine AL.blk ?_)
              refine AL.ret ?_
              try simp only [AU]
              refine ⟨by simp, Fin.data (by simp [resAs, resA]; rfl) hbox rfl htok htk.old htk.le ?_⟩
              simp [packA, ]
            · have hb : (T.e != 0) = true := by simp [he]
              simp only [hb]
              repeat (first | refine AL.seq ?_ | refine AL.block ?_ | refine AL.skip ?_ | refine AL.blk ?_)
              refine AL.cond ?_
              simp
              repeat (first | refine AL.seq ?_ | refine AL.block ?_ | refine AL.skip ?_ | refine AL.blk ?_)
              refine AL.region follows_Try (Nat.le_refl _) (by kernel_rfl) ?_
              simp
              refine Stop.of_d (sameOverlap_c T.o T.o fo _ _) ?_
              simp
              refine Stop.of_d (same06_c T.m T.m fm _ _) ?_
              simp
              repeat (first | refine AL.seq ?_ | refine AL.block ?_ | refine AL.skip ?_ | refine AL.blk ?_)
              refine AL.ret ?_
              try simp only [AU]
              refine ⟨by simp, Fin.data (by simp [resAs, resA]; rfl) hbox rfl htok htk.old htk.le ?_⟩
              simp [packA, ]
          · simp [h5]
            repeat (first | refine AL.seq ?_ | refine AL.block ?_ | refine AL.skip ?_ | refine AL.blk ?_)
            refine AL.cond ?_
            simp
            repeat (first | refine AL.seq ?_ | refine AL.block ?_ | refine AL.skip ?_ | refine AL.blk ?_)
            refine AL.region follows_Try (Nat.le_refl _) (by kernel_rfl) ?_
            simp
            refine Stop.of_d (awake_c _ _) ?_
            simp
            repeat (first | refine AL.seq ?_ | refine AL.block ?_ | refine AL.skip ?_ | refine AL.blk ?_)
            refine AL.ret ?_
            try simp only [AU]
            refine ⟨by simp, Fin.data (by simp [resAs, resA]; rfl) hbox rfl htok (fun _ h => h) (Nat.le_refl _) ?_⟩
            simp [packA]
        · simp [h4]
          repeat (first | refine AL.seq ?_ | refine AL.block ?_ | refine AL.skip ?_ | refine AL.blk ?_)
          refine AL.cond ?_
          simp
          repeat (first | refine AL.seq ?_ | refine AL.block ?_ | refine AL.skip ?_ | refine AL.blk ?_)
          refine AL.region follows_Try (Nat.le_refl _) (by kernel_rfl) ?_
          simp
          refine Stop.of_d (awake_c _ _) ?_
          simp
          repeat (first | refine AL.seq ?_ | refine AL.block ?_ | refine AL.skip ?_ | refine AL.blk ?_)
          refine AL.ret ?_
          try simp only [AU]
          refine ⟨by simp, Fin.data (by simp [resAs, resA]; rfl) hbox rfl htok (fun _ h => h) (Nat.le_refl _) ?_⟩
          simp [packA]
      · simp [h3]
        repeat (first | refine AL.seq ?_ | refine AL.block ?_ | refine AL.skip ?_ | refine AL.blk ?_)
        refine AL.cond ?_
        simp
        repeat (first | refine AL.seq ?_ | refine AL.block ?_ | refine AL.skip ?_ | refine AL.blk ?_)
        refine AL.region follows_Try (Nat.le_refl _) (by kernel_rfl) ?_
        simp
        refine Stop.of_d (awake_c _ _) ?_
        simp
        repeat (first | refine AL.seq ?_ | refine AL.block ?_ | refine AL.skip ?_ | refine AL.blk ?_)
        refine AL.ret ?_
        try simp only [AU]
        refine ⟨by simp, Fin.data (by simp [resAs, resA]; rfl) hbox rfl htok (fun _ h => h) (Nat.le_refl _) ?_⟩
        simp [packA]
    · simp [h2]
      repeat (first | refine AL.seq ?_ | refine AL.block ?_ | refine AL.skip ?_ | refine AL.blk ?_)
      refine AL.cond ?_
      simp
      repeat (first | refine AL.seq ?_ | refine AL.block ?_ | refine AL.skip ?_ | refine AL.blk ?_)
      refine AL.region follows_Try (Nat.le_refl _) (by kernel_rfl) ?_
      simp
      refine Stop.of_d (awake_c _ _) ?_
      simp
      repeat (first | refine AL.seq ?_ | refine AL.block ?_ | refine AL.skip ?_ | refine AL.blk ?_)
      refine AL.ret ?_
      try simp only [AU]
      refine ⟨by simp, Fin.data (by simp [resAs, resA]; rfl) hbox rfl htok (fun _ h => h) (Nat.le_refl _) ?_⟩
      simp [packA]
  · simp [h1]
    repeat (first | refine AL.seq ?_ | refine AL.block ?_ | refine AL.skip ?_ | refine AL.blk ?_)
    refine AL.cond ?_
    simp
    repeat (first | refine AL.seq ?_ | refine AL.block ?_ | refine AL.skip ?_ | refine AL.blk ?_)
    refine AL.region follows_Try (Nat.le_refl _) (by kernel_rfl) ?_
    simp
    refine Stop.of_d (awake_c _ _) ?_
    simp
    repeat (first | refine AL.seq ?_ | refine AL.block ?_ | refine AL.skip ?_ | refine AL.blk ?_)
    refine AL.ret ?_
    try simp only [AU]
    refine ⟨by simp, Fin.data (by simp [resAs, resA]; rfl) hbox rfl htok (fun _ h => h) (Nat.le_refl _) ?_⟩
    simp [packA]
end Go.AM
namespace Go.AM
open Go Go.Proofs
set_option linter.unusedSimpArgs false
set_option linter.unusedVariables false

/-! ### chosen -/
def bitB (bits : Int) (i : Nat) : Bool := IntKind.u16.wrap ↑((bits.fdiv (2 ^ min i IntKind.u16.bits) % 2 ^ IntKind.u16.bits).toNat &&& 1 % 2 ^ IntKind.u16.bits) == 1
/-- The nodes chosen of the first i, and where they stand. -/
def chN (ns : List Int) (bit : Nat → Bool) : Nat → List Int × List Int
  | 0 => ([], [])
  | i + 1 => if bit i = true then ((chN ns bit i).1 ++ [ns.getD i 0], (chN ns bit i).2 ++ [(i : Int)]) else chN ns bit i
def atK (ns : List Int) (bit : Nat → Bool) : Nat → List Int
  | 0 => []
  | i + 1 => if bit i = true then atK ns bit i ++ [((chN ns bit i).1.length : Int)] else atK ns bit i ++ [-1]
def atR (ns : List Int) (bit : Nat → Bool) (i : Nat) : List Int := atK ns bit i ++ List.replicate (ns.length - i) 0
theorem atK_len (ns : List Int) (bit : Nat → Bool) : ∀ i, (atK ns bit i).length = i
  | 0 => rfl
  | i + 1 => by
    simp only [atK]
    split <;> simp [atK_len ns bit i]
theorem chN_len (ns : List Int) (bit : Nat → Bool) : ∀ i, (chN ns bit i).1.length ≤ i ∧ (chN ns bit i).2.length = (chN ns bit i).1.length
  | 0 => by simp [chN]
  | i + 1 => by
    have := chN_len ns bit i
    simp only [chN]
    split
    · simp; omega
    · omega
@[simp] theorem atR_len (ns : List Int) (bit : Nat → Bool) {i : Nat} (h : i ≤ ns.length) : (atR ns bit i).length = ns.length := by simp [atR, atK_len]; omega
theorem atR_zero (ns : List Int) (bit : Nat → Bool) : atR ns bit 0 = List.replicate ns.length 0 := by simp [atR, atK]
theorem atR_set (ns : List Int) (bit : Nat → Bool) {i : Nat} (h : i < ns.length) (v w : Int) : ((atR ns bit i).set i v).set i w = atK ns bit i ++ [w] ++ List.replicate (ns.length - (i + 1)) 0 := by
  have hl := atK_len ns bit i
  have e : ns.length - i = (ns.length - (i + 1)) + 1 := by omega
  rw [List.set_set, atR, List.set_append, if_neg (by omega), hl, Nat.sub_self, e, List.replicate_succ]
  simp
theorem atR_set1 (ns : List Int) (bit : Nat → Bool) {i : Nat} (h : i < ns.length) (v : Int) : (atR ns bit i).set i v = atK ns bit i ++ [v] ++ List.replicate (ns.length - (i + 1)) 0 := by
  rw [← atR_set ns bit h v v, List.set_set]

structure Acc3 where
  i : Nat
  o1 : Own
  o2 : Own
  o3 : Own
  tok : Nat → Bool
  nt : Nat

def st32a (g : Gr) (bits : Int) (nb : Nat) (box : Nat → Option (List (List AV))) (y : Acc2) : AState :=
  ⟨tl [(1, .d (.raw (.int .u16 bits))), (2, .ptr (nb + 2) 0 0), (4, .ptr (nb + 4) 0 0), (5, .ptr (nb + 5) 0 0), (6, .msl (nb + 16) 0 g.nodes.length 1), (7, .ptr (nb + 7) 0 0), (8, .ptr (nb + 8) 0 0), (18, .d (ints g.nodes)), (19, I g.nodes.length), (20, I y.i)],
    lb nb box [(2, [[.d (ints g.nodes), .d (AM.edges g.edges)]]), (4, [[.bot, .bot]]), (5, [[.bot, .bot]]), (7, [[.osl 1 (rI (chN g.nodes (bitB bits) y.i).1) y.o1, .osl 0 [] .full]]), (8, [[.osl 1 (rI (chN g.nodes (bitB bits) y.i).2) y.o2, .osl 0 [] .full]]), (16, rowsI (atR g.nodes (bitB bits) y.i))], y.tok, y.nt⟩

/-- The edges chosen of the first i. -/
def chE (es : List E) (bit : Nat → Bool) (A : List Int) : Nat → List E × List Int
  | 0 => ([], [])
  | i + 1 => if bit i = true ∧ 0 ≤ A.getD (es.getD i default).fr.toNat 0 ∧ 0 ≤ A.getD (es.getD i default).to.toNat 0 then
      ((chE es bit A i).1 ++ [⟨(es.getD i default).ty, A.getD (es.getD i default).fr.toNat 0, A.getD (es.getD i default).to.toNat 0⟩], (chE es bit A i).2 ++ [(i : Int)]) else chE es bit A i
theorem chE_len (es : List E) (bit : Nat → Bool) (A : List Int) : ∀ i, (chE es bit A i).1.length ≤ i ∧ (chE es bit A i).2.length = (chE es bit A i).1.length
  | 0 => by simp [chE]
  | i + 1 => by
    have := chE_len es bit A i
    simp only [chE]
    split
    · simp; omega
    · omega

def st32b (g : Gr) (bits : Int) (A : List Int) (C : List Int × List Int) (nb : Nat) (box : Nat → Option (List (List AV))) (y : Acc2) : AState :=
  ⟨tl [(1, .d (.raw (.int .u16 bits))), (2, .ptr (nb + 2) 0 0), (4, .ptr (nb + 4) 0 0), (5, .ptr (nb + 5) 0 0), (6, .msl (nb + 16) 0 A.length 1), (7, .ptr (nb + 7) 0 0), (8, .ptr (nb + 8) 0 0), (53, .d (AM.edges g.edges)), (54, I g.edges.length), (55, I y.i)],
    lb nb box [(2, [[.d (ints g.nodes), .d (AM.edges g.edges)]]), (4, [[.bot, .bot]]), (5, [[.bot, .bot]]), (7, [[.d (ints C.1), .osl 3 (rE (chE g.edges (fun i => bitB bits (8 + i)) A y.i).1) y.o1]]), (8, [[.d (ints C.2), .osl 1 (rI (chE g.edges (fun i => bitB bits (8 + i)) A y.i).2) y.o2]]), (16, rowsI A)], y.tok, y.nt⟩

/-- The part of a graph that bits describe, with its inclusion. -/
def chosenR (g : Gr) (bits : Int) : Gr × Mo :=
  (⟨(chN g.nodes (bitB bits) g.nodes.length).1, (chE g.edges (fun i => bitB bits (8 + i)) (atK g.nodes (bitB bits) g.nodes.length) g.edges.length).1⟩,
    ⟨(chN g.nodes (bitB bits) g.nodes.length).2, (chE g.edges (fun i => bitB bits (8 + i)) (atK g.nodes (bitB bits) g.nodes.length) g.edges.length).2⟩)

theorem chosen32_c (g : Gr) (bits : Int) (hg : g.Fit) (hv : validG g = 0) (tok : Nat → Bool) (nt : Nat) : DCall Try.prog 32 [g.av, .d (.raw (.int .u16 bits))] tok nt (.tup [(chosenR g bits).1.av, (chosenR g bits).2.av]) tok nt := by
  intro box nb
  have hgn := hg.n
  have hge := hg.e
  refine ACalls.of_body Try.func32 rfl (by kernel_rfl) follows_Try (by kernel_rfl) (by simp [Try.ntmps32]) ?_
  intro hbox htok
  simp only at hbox htok
  apply AL.start
  repeat (first | refine AL.seq ?_ | refine AL.block ?_ | refine AL.skip ?_ | refine AL.blk ?_)
  refine AL.region follows_Try (Nat.le_refl _) (by kernel_rfl) ?_
  simp
  repeat (first | refine AL.seq ?_ | refine AL.block ?_ | refine AL.skip ?_ | refine AL.blk ?_)
  refine AL.region follows_Try (Nat.le_refl _) (by kernel_rfl) ?_
  simp
  refine ⟨by omega, ?_⟩
  repeat (first | refine AL.seq ?_ | refine AL.block ?_ | refine AL.skip ?_ | refine AL.blk ?_)
  refine AL.region follows_Try (Nat.le_refl _) (by kernel_rfl) ?_
  simp
  repeat (first | refine AL.seq ?_ | refine AL.block ?_ | refine AL.skip ?_ | refine AL.blk ?_)
  refine AL.region follows_Try (Nat.le_refl _) (by kernel_rfl) ?_
  simp
  repeat (first | refine AL.seq ?_ | refine AL.block ?_ | refine AL.skip ?_ | refine AL.blk ?_)
  refine AL.region follows_Try (Nat.le_refl _) (by kernel_rfl) ?_
  simp
  repeat (first | refine AL.seq ?_ | refine AL.block ?_ | refine AL.skip ?_ | refine AL.blk ?_)
  have htk0 := (TK.start htok).full.full
  refine AL.loopT (st32a g bits nb box) (fun y => y.i ≤ g.nodes.length ∧ TK tok nt y.tok y.nt [y.o1, y.o2]) (fun y => g.nodes.length - y.i) ⟨0, .full, .full, _, _⟩ ⟨Nat.zero_le _, htk0⟩ (Weaks.mk htk0.le rfl (by simp [ToL, lk]) (by simp [BoxL, lk, chN, atR_zero])) ?_
  rintro ⟨i, o1, o2, tok', nt'⟩ S ⟨hi, htk⟩ hS
  simp only [st32a] at hS hi htk
  subst hS
  have hw : IntKind.i64.wrap (↑i + 1) = ((i + 1 : Nat) : Int) := by rw [wrap_in (by omega) (by omega)]; rfl
  repeat (first | refine AL.seq ?_ | refine AL.block ?_ | refine AL.skip ?_ | refine AL.blk ?_)
  refine AL.region follows_Try (Nat.le_refl _) (by kernel_rfl) ?_
  simp
  repeat (first | refine AL.seq ?_ | refine AL.block ?_ | refine AL.skip ?_ | refine AL.blk ?_)
  refine AL.cond ?_
  simp
  refine ⟨fun hlt => ?_, fun hge => ?_⟩
  · repeat (first | refine AL.seq ?_ | refine AL.block ?_ | refine AL.skip ?_ | refine AL.blk ?_)
    refine AL.region follows_Try (Nat.le_refl _) (by kernel_rfl) ?_
    simp [hlt]
    repeat (first | refine AL.seq ?_ | refine AL.block ?_ | refine AL.skip ?_ | refine AL.blk ?_)
    refine AL.region follows_Try (Nat.le_refl _) (by kernel_rfl) ?_
    simp [hlt, hi]
    repeat (first | refine AL.seq ?_ | refine AL.block ?_ | refine AL.skip ?_ | refine AL.blk ?_)
    refine AL.region follows_Try (Nat.le_refl _) (by kernel_rfl) ?_
    simp
    by_cases hbit : bitB bits i = true
    · have hb1 : (IntKind.u16.wrap ↑((bits.fdiv (2 ^ min i IntKind.u16.bits) % 2 ^ IntKind.u16.bits).toNat &&& 1 % 2 ^ IntKind.u16.bits) == 1) = true := hbit
      simp only [hb1]
      repeat (first | refine AL.seq ?_ | refine AL.block ?_ | refine AL.skip ?_ | refine AL.blk ?_)
      refine AL.cond ?_
      simp
      repeat (first | refine AL.seq ?_ | refine AL.block ?_ | refine AL.skip ?_ | refine AL.blk ?_)
      refine AL.region follows_Try (Nat.le_refl _) (by kernel_rfl) ?_
      simp [hlt, hi]
      repeat (first | refine AL.seq ?_ | refine AL.block ?_ | refine AL.skip ?_ | refine AL.blk ?_)
      refine AL.region follows_Try (Nat.le_refl _) (by kernel_rfl) ?_
      simp
      have hln := chN_len g.nodes (bitB bits) i
      refine ⟨⟨by omega, htk.live⟩, ⟨by omega, by simpa using htk.app.swap.live⟩, ?_⟩
      have htk2 := htk.app.swap.app.swap
      repeat (first | refine AL.seq ?_ | refine AL.block ?_ | refine AL.skip ?_ | refine AL.blk ?_)
      refine AL.region follows_Try (Nat.le_refl _) (by kernel_rfl) ?_
      simp [hw]
      repeat (first | refine AL.seq ?_ | refine AL.block ?_ | refine AL.skip ?_ | refine AL.blk ?_)
      refine AL.nil ?_
      have gi : g.nodes.getD i 0 = g.nodes[i] := by simp [hlt]
      have hC : chN g.nodes (bitB bits) (i + 1) = ((chN g.nodes (bitB bits) i).1 ++ [g.nodes[i]], (chN g.nodes (bitB bits) i).2 ++ [(i : Int)]) := by simp only [chN]; rw [if_pos hbit, gi]
      have hA : (atR g.nodes (bitB bits) i).set i ((chN g.nodes (bitB bits) i).1.length : Int) = atR g.nodes (bitB bits) (i + 1) := by rw [atR_set1 _ _ hlt]; simp only [atR, atK]; rw [if_pos hbit]
      exact ⟨⟨i + 1, _, _, _, _⟩, ⟨hlt, htk2⟩, by simp; omega, Weaks.mk htk2.le rfl (by simp [ToL, lk]) (by simp [BoxL, lk, hC, hA])⟩
    · have hb1 : (IntKind.u16.wrap ↑((bits.fdiv (2 ^ min i IntKind.u16.bits) % 2 ^ IntKind.u16.bits).toNat &&& 1 % 2 ^ IntKind.u16.bits) == 1) = false := Bool.eq_false_iff.2 hbit
      simp only [hb1]
      repeat (first | refine AL.seq ?_ | refine AL.block ?_ | refine AL.skip ?_ | refine AL.blk ?_)
      refine AL.cond ?_
      simp
      repeat (first | refine AL.seq ?_ | refine AL.block ?_ | refine AL.skip ?_ | refine AL.blk ?_)
      refine AL.region follows_Try (Nat.le_refl _) (by kernel_rfl) ?_
      simp [hw]
      repeat (first | refine AL.seq ?_ | refine AL.block ?_ | refine AL.skip ?_ | refine AL.blk ?_)
      refine AL.nil ?_
      have hC : chN g.nodes (bitB bits) (i + 1) = chN g.nodes (bitB bits) i := by simp only [chN]; rw [if_neg hbit]
      have hA : (atR g.nodes (bitB bits) i).set i (-1) = atR g.nodes (bitB bits) (i + 1) := by rw [atR_set1 _ _ hlt]; simp only [atR, atK]; rw [if_neg hbit]
      exact ⟨⟨i + 1, _, _, _, _⟩, ⟨hlt, htk⟩, by simp; omega, Weaks.mk htk.le rfl (by simp [ToL, lk]) (by simp [BoxL, lk, hC, hA])⟩
  · repeat (first | refine AL.seq ?_ | refine AL.block ?_ | refine AL.skip ?_ | refine AL.blk ?_)
    refine AL.exit ?_
    simp only [AU, ↓reduceIte]
    have : i = g.nodes.length := by omega
    subst this
    repeat (first | refine AL.seq ?_ | refine AL.block ?_ | refine AL.skip ?_ | refine AL.blk ?_)
    refine AL.region follows_Try (Nat.le_refl _) (by kernel_rfl) ?_
    simp
    repeat (first | refine AL.seq ?_ | refine AL.block ?_ | refine AL.skip ?_ | refine AL.blk ?_)
    have htk3 := htk.tail.tail.full.full
    have hAt : atR g.nodes (bitB bits) g.nodes.length = atK g.nodes (bitB bits) g.nodes.length := by simp [atR]
    have hAl := atK_len g.nodes (bitB bits) g.nodes.length
    simp only [hAt]
    generalize hA : atK g.nodes (bitB bits) g.nodes.length = A at *
    generalize hCd : chN g.nodes (bitB bits) g.nodes.length = C at *
    have hx := validG_edges hv
    refine AL.loopT (st32b g bits A C nb box) (fun y => y.i ≤ g.edges.length ∧ TK tok nt y.tok y.nt [y.o1, y.o2]) (fun y => g.edges.length - y.i) ⟨0, .full, .full, _, _⟩ ⟨Nat.zero_le _, htk3⟩ (Weaks.mk htk3.le rfl (by simp [ToL, lk, hAl]) (by simp [BoxL, lk, chE])) ?_
    rintro ⟨i, o1, o2, tok', nt'⟩ S ⟨hi, htk⟩ hS
    simp only [st32b] at hS hi htk
    subst hS
    have hw : IntKind.i64.wrap (↑i + 1) = ((i + 1 : Nat) : Int) := by rw [wrap_in (by omega) (by omega)]; rfl
    have hw8 : IntKind.i64.wrap (8 + ↑i) = ((8 + i : Nat) : Int) := by rw [wrap_in (by omega) (by omega)]; rfl
    have hln := chE_len g.edges (fun i => bitB bits (8 + i)) A i
    repeat (first | refine AL.seq ?_ | refine AL.block ?_ | refine AL.skip ?_ | refine AL.blk ?_)
    refine AL.region follows_Try (Nat.le_refl _) (by kernel_rfl) ?_
    simp
    repeat (first | refine AL.seq ?_ | refine AL.block ?_ | refine AL.skip ?_ | refine AL.blk ?_)
    refine AL.cond ?_
    simp
    refine ⟨fun hlt => ?_, fun hge => ?_⟩
    · obtain ⟨x1, x2, x3, x4⟩ := hx _ (List.getElem_mem hlt)
      have y1 : g.edges[i].fr.toNat < A.length := by omega
      have y2 : g.edges[i].to.toNat < A.length := by omega
      have ge : g.edges.getD i default = g.edges[i] := by simp [hlt]
      have hz8 : (0 : Int) ≤ 8 + ↑i := by omega
      have hn8 : (8 + (i : Int)).toNat = 8 + i := by omega
      repeat (first | refine AL.seq ?_ | refine AL.block ?_ | refine AL.skip ?_ | refine AL.blk ?_)
      refine AL.region follows_Try (Nat.le_refl _) (by kernel_rfl) ?_
      simp [hlt]
      repeat (first | refine AL.seq ?_ | refine AL.block ?_ | refine AL.skip ?_ | refine AL.blk ?_)
      refine AL.region follows_Try (Nat.le_refl _) (by kernel_rfl) ?_
      simp [hw8, hz8, hn8]
      by_cases hbit : bitB bits (8 + i) = true
      · have hb1 : (IntKind.u16.wrap ↑((bits.fdiv (2 ^ min (8 + i) IntKind.u16.bits) % 2 ^ IntKind.u16.bits).toNat &&& 1 % 2 ^ IntKind.u16.bits) == 1) = true := hbit
        simp only [hb1]
        have z1 : g.edges[i].fr < (A.length : Int) := by omega
        have z2 : g.edges[i].to < (A.length : Int) := by omega
        have gA1 : A.getD g.edges[i].fr.toNat 0 = A[g.edges[i].fr.toNat] := by simp [y1]
        have gA2 : A.getD g.edges[i].to.toNat 0 = A[g.edges[i].to.toNat] := by simp [y2]
        by_cases h0 : 0 ≤ A[g.edges[i].fr.toNat]
        · simp [x1, y1, z1, hw8, hz8, hn8, h0]
          by_cases h1 : 0 ≤ A[g.edges[i].to.toNat]
          · simp [x3, y2, z2, hw8, hz8, hn8, h1]
            repeat (first | refine AL.seq ?_ | refine AL.block ?_ | refine AL.skip ?_ | refine AL.blk ?_)
            refine AL.cond ?_
            simp
            repeat (first | refine AL.seq ?_ | refine AL.block ?_ | refine AL.skip ?_ | refine AL.blk ?_)
            refine AL.region follows_Try (Nat.le_refl _) (by kernel_rfl) ?_
            simp [x1, y1, z1, x3, y2, z2, hlt]
            refine ⟨⟨by omega, htk.live⟩, ⟨by omega, by simpa using htk.app.swap.live⟩, ?_⟩
            have htk2 := htk.app.swap.app.swap
            repeat (first | refine AL.seq ?_ | refine AL.block ?_ | refine AL.skip ?_ | refine AL.blk ?_)
            refine AL.region follows_Try (Nat.le_refl _) (by kernel_rfl) ?_
            simp [hw]
            repeat (first | refine AL.seq ?_ | refine AL.block ?_ | refine AL.skip ?_ | refine AL.blk ?_)
            refine AL.nil ?_
            have hC : chE g.edges (fun i => bitB bits (8 + i)) A (i + 1) = ((chE g.edges (fun i => bitB bits (8 + i)) A i).1 ++ [⟨g.edges[i].ty, A[g.edges[i].fr.toNat], A[g.edges[i].to.toNat]⟩], (chE g.edges (fun i => bitB bits (8 + i)) A i).2 ++ [(i : Int)]) := by simp only [chE, ge, gA1, gA2]; rw [if_pos ⟨hbit, h0, h1⟩]
            exact ⟨⟨i + 1, _, _, _, _⟩, ⟨hlt, htk2⟩, by simp; omega, Weaks.mk htk2.le rfl (by simp [ToL, lk]) (by simp [BoxL, lk, hC])⟩
          · simp [x3, y2, z2, hw8, hz8, hn8, h1]
            repeat (first | refine AL.seq ?_ | refine AL.block ?_ | refine AL.skip ?_ | refine AL.blk ?_)
            refine AL.cond ?_
            simp
            repeat (first | refine AL.seq ?_ | refine AL.block ?_ | refine AL.skip ?_ | refine AL.blk ?_)
            refine AL.region follows_Try (Nat.le_refl _) (by kernel_rfl) ?_
            simp [hw]
            repeat (first | refine AL.seq ?_ | refine AL.block ?_ | refine AL.skip ?_ | refine AL.blk ?_)
            refine AL.nil ?_
            have hC : chE g.edges (fun i => bitB bits (8 + i)) A (i + 1) = chE g.edges (fun i => bitB bits (8 + i)) A i := by simp only [chE, ge, gA1, gA2]; rw [if_neg fun h => h1 h.2.2]
            exact ⟨⟨i + 1, _, _, _, _⟩, ⟨hlt, htk⟩, by simp; omega, Weaks.mk htk.le rfl (by simp [ToL, lk]) (by simp [BoxL, lk, hC])⟩
        · simp [x1, y1, z1, hw8, hz8, hn8, h0]
          repeat (first | refine AL.seq ?_ | refine AL.block ?_ | refine AL.skip ?_ | refine AL.blk ?_)
          refine AL.cond ?_
          simp
          repeat (first | refine AL.seq ?_ | refine AL.block ?_ | refine AL.skip ?_ | refine AL.blk ?_)
          refine AL.region follows_Try (Nat.le_refl _) (by kernel_rfl) ?_
          simp [hw]
          repeat (first | refine AL.seq ?_ | refine AL.block ?_ | refine AL.skip ?_ | refine AL.blk ?_)
          refine AL.nil ?_
          have hC : chE g.edges (fun i => bitB bits (8 + i)) A (i + 1) = chE g.edges (fun i => bitB bits (8 + i)) A i := by simp only [chE, ge, gA1, gA2]; rw [if_neg fun h => h0 h.2.1]
          exact ⟨⟨i + 1, _, _, _, _⟩, ⟨hlt, htk⟩, by simp; omega, Weaks.mk htk.le rfl (by simp [ToL, lk]) (by simp [BoxL, lk, hC])⟩
      · have hb1 : (IntKind.u16.wrap ↑((bits.fdiv (2 ^ min (8 + i) IntKind.u16.bits) % 2 ^ IntKind.u16.bits).toNat &&& 1 % 2 ^ IntKind.u16.bits) == 1) = false := Bool.eq_false_iff.2 hbit
        simp only [hb1]
        simp [hw8, hz8, hn8]
        repeat (first | refine AL.seq ?_ | refine AL.block ?_ | refine AL.skip ?_ | refine AL.blk ?_)
        refine AL.cond ?_
        simp
        repeat (first | refine AL.seq ?_ | refine AL.block ?_ | refine AL.skip ?_ | refine AL.blk ?_)
        refine AL.region follows_Try (Nat.le_refl _) (by kernel_rfl) ?_
        simp [hw]
        repeat (first | refine AL.seq ?_ | refine AL.block ?_ | refine AL.skip ?_ | refine AL.blk ?_)
        refine AL.nil ?_
        have hC : chE g.edges (fun i => bitB bits (8 + i)) A (i + 1) = chE g.edges (fun i => bitB bits (8 + i)) A i := by simp only [chE]; rw [if_neg fun h => hbit h.1]
        exact ⟨⟨i + 1, _, _, _, _⟩, ⟨hlt, htk⟩, by simp; omega, Weaks.mk htk.le rfl (by simp [ToL, lk]) (by simp [BoxL, lk, hC])⟩
    · repeat (first | refine AL.seq ?_ | refine AL.block ?_ | refine AL.skip ?_ | refine AL.blk ?_)
      refine AL.exit ?_
      simp only [AU, ↓reduceIte]
      have : i = g.edges.length := by omega
      subst this
      repeat (first | refine AL.seq ?_ | refine AL.block ?_ | refine AL.skip ?_ | refine AL.blk ?_)
      refine AL.region2 follows_Try (Nat.le_refl _) (by kernel_rfl) (Side.of (by simp)) ?_
      simp
      repeat (first | refine AL.seq ?_ | refine AL.block ?_ | refine AL.skip ?_ | refine AL.blk ?_)
      refine AL.ret ?_
      try simp only [AU]
      refine ⟨by simp, Fin.data (by simp [resAs, resA]; rfl) hbox rfl htok htk.old htk.le ?_⟩
      simp [packA, chosenR, hCd, hA]
end Go.AM
/-
  The plain law of the parts of a graph that bits describe: valid graphs, with injective inclusions; and the gluing along shared places is among the standard overlaps. No program in sight.
-/
namespace Go.AM
open Go
set_option linter.unusedSimpArgs false
set_option linter.unusedVariables false

structure CN (ns : List Int) (i : Nat) (c : List Int × List Int) (A : List Int) : Prop where
  len : c.2.length = c.1.length
  lt : ∀ j, j < c.1.length → 0 ≤ c.2.getD j 0 ∧ c.2.getD j 0 < i
  val : ∀ j, j < c.1.length → ns.getD (c.2.getD j 0).toNat 0 = c.1.getD j 0
  dist : ∀ j k, j < k → k < c.1.length → c.2.getD j 0 ≠ c.2.getD k 0
  mem : ∀ n ∈ c.1, n ∈ ns
  spot : ∀ q, q < i → A.getD q 0 < 0 ∨ (0 ≤ A.getD q 0 ∧ A.getD q 0 < c.1.length ∧ c.2.getD (A.getD q 0).toNat 0 = q)

theorem chN_cn (ns : List Int) (bit : Nat → Bool) : ∀ i, i ≤ ns.length → CN ns i (chN ns bit i) (atK ns bit i)
  | 0, _ => ⟨rfl, fun j hj => absurd hj (Nat.not_lt_zero _), fun j hj => absurd hj (Nat.not_lt_zero _), fun j k _ hj => absurd hj (Nat.not_lt_zero _), fun n hn => by simp [chN] at hn, fun q hq => absurd hq (Nat.not_lt_zero _)⟩
  | i + 1, hi => by
    have ih := chN_cn ns bit i (by omega)
    have hal := atK_len ns bit i
    simp only [chN, atK]
    generalize chN ns bit i = c at ih ⊢
    generalize atK ns bit i = A at ih hal ⊢
    obtain ⟨c1, c2⟩ := c
    have hl : c2.length = c1.length := ih.len
    have oldA : ∀ (v : Int) q, q < i → (A ++ [v]).getD q 0 = A.getD q 0 := fun v q hq => getD_lt (by omega)
    have newA : ∀ v : Int, (A ++ [v]).getD i 0 = v := fun v => by rw [← hal]; exact getD_at
    by_cases hb : bit i = true
    · rw [if_pos hb, if_pos hb]
      have old : ∀ j, j < c1.length → (c2 ++ [(i : Int)]).getD j 0 = c2.getD j 0 := fun j hj => getD_lt (by omega)
      have new : (c2 ++ [(i : Int)]).getD c1.length 0 = i := by rw [← hl]; exact getD_at
      refine ⟨by simp [hl], fun j hj => ?_, fun j hj => ?_, fun j k hjk hk => ?_, fun n hn => ?_, fun q hq => ?_⟩
      · simp only [List.length_append, List.length_cons, List.length_nil] at hj ⊢
        by_cases e : j = c1.length
        · subst e; rw [new]; omega
        · rw [old j (by omega)]; have := ih.lt j (by simp only; omega); simp only at this; omega
      · simp only [List.length_append, List.length_cons, List.length_nil] at hj
        simp only
        by_cases e : j = c1.length
        · subst e; rw [new, Int.toNat_natCast, getD_at]
        · rw [old j (by omega), getD_lt (by omega)]; exact ih.val j (by simp only; omega)
      · simp only [List.length_append, List.length_cons, List.length_nil] at hk
        simp only
        by_cases e : k = c1.length
        · subst e; rw [new, old j hjk]; have := ih.lt j hjk; simp only at this; omega
        · rw [old j (by omega), old k (by omega)]; exact ih.dist j k hjk (by simp only; omega)
      · rcases List.mem_append.1 hn with hn | hn
        · exact ih.mem n hn
        · rw [List.mem_singleton] at hn; subst hn; exact getD_mem (by omega)
      · simp only [List.length_append, List.length_cons, List.length_nil]
        by_cases e : q = i
        · subst e; rw [newA]; exact .inr ⟨by omega, by omega, by rw [Int.toNat_natCast]; exact new⟩
        · rw [oldA _ q (by omega)]
          rcases ih.spot q (by omega) with h | ⟨h1, h2, h3⟩
          · exact .inl h
          · simp only at h2 h3
            exact .inr ⟨h1, by omega, by rw [old _ (by omega)]; exact h3⟩
    · rw [if_neg hb, if_neg hb]
      refine ⟨hl, fun j hj => ?_, ih.val, ih.dist, ih.mem, fun q hq => ?_⟩
      · have := ih.lt j hj; omega
      · by_cases e : q = i
        · subst e; rw [newA]; exact .inl (by decide)
        · rw [oldA _ q (by omega)]; exact ih.spot q (by omega)

structure CE (es : List E) (A C : List Int) (m : Nat) (i : Nat) (c : List E × List Int) : Prop where
  len : c.2.length = c.1.length
  lt : ∀ j, j < c.1.length → 0 ≤ c.2.getD j 0 ∧ c.2.getD j 0 < i
  val : ∀ j, j < c.1.length → es.getD (c.2.getD j 0).toNat default = ⟨(c.1.getD j default).ty, C.getD (c.1.getD j default).fr.toNat 0, C.getD (c.1.getD j default).to.toNat 0⟩
  dist : ∀ j k, j < k → k < c.1.length → c.2.getD j 0 ≠ c.2.getD k 0
  mem : ∀ e ∈ c.1, (∃ y ∈ es, e.ty = y.ty) ∧ (0 ≤ e.fr ∧ e.fr < m) ∧ (0 ≤ e.to ∧ e.to < m)

theorem chE_ce {es : List E} {A C : List Int} {m n : Nat} (hx : ∀ e ∈ es, 0 ≤ e.fr ∧ e.fr < n ∧ 0 ≤ e.to ∧ e.to < n) (hA : ∀ q : Nat, q < n → A.getD q 0 < 0 ∨ (0 ≤ A.getD q 0 ∧ A.getD q 0 < m ∧ C.getD (A.getD q 0).toNat 0 = q)) (bit : Nat → Bool) :
    ∀ i, i ≤ es.length → CE es A C m i (chE es bit A i)
  | 0, _ => ⟨rfl, fun j hj => absurd hj (Nat.not_lt_zero _), fun j hj => absurd hj (Nat.not_lt_zero _), fun j k _ hj => absurd hj (Nat.not_lt_zero _), fun n hn => by simp [chE] at hn⟩
  | i + 1, hi => by
    have ih := chE_ce hx hA bit i (by omega)
    simp only [chE]
    generalize chE es bit A i = c at ih ⊢
    obtain ⟨c1, c2⟩ := c
    have hl : c2.length = c1.length := ih.len
    have hmem : es.getD i default ∈ es := getD_mem (by omega)
    obtain ⟨x1, x2, x3, x4⟩ := hx _ hmem
    generalize hy : es.getD i default = y at *
    by_cases hb : bit i = true ∧ 0 ≤ A.getD y.fr.toNat 0 ∧ 0 ≤ A.getD y.to.toNat 0
    · rw [if_pos hb]
      obtain ⟨_, b1, b2⟩ := hb
      have p1 : 0 ≤ A.getD y.fr.toNat 0 ∧ A.getD y.fr.toNat 0 < m ∧ C.getD (A.getD y.fr.toNat 0).toNat 0 = y.fr.toNat := by
        rcases hA y.fr.toNat (by omega) with h | h
        · omega
        · exact h
      have p2 : 0 ≤ A.getD y.to.toNat 0 ∧ A.getD y.to.toNat 0 < m ∧ C.getD (A.getD y.to.toNat 0).toNat 0 = y.to.toNat := by
        rcases hA y.to.toNat (by omega) with h | h
        · omega
        · exact h
      have old : ∀ j, j < c1.length → (c2 ++ [(i : Int)]).getD j 0 = c2.getD j 0 := fun j hj => getD_lt (by omega)
      have new : (c2 ++ [(i : Int)]).getD c1.length 0 = i := by rw [← hl]; exact getD_at
      refine ⟨by simp [hl], fun j hj => ?_, fun j hj => ?_, fun j k hjk hk => ?_, fun e he => ?_⟩
      · simp only [List.length_append, List.length_cons, List.length_nil] at hj ⊢
        by_cases e : j = c1.length
        · subst e; rw [new]; omega
        · rw [old j (by omega)]; have := ih.lt j (by simp only; omega); simp only at this; omega
      · simp only [List.length_append, List.length_cons, List.length_nil] at hj
        simp only
        by_cases e : j = c1.length
        · subst e
          rw [new, Int.toNat_natCast, getD_at, hy]
          simp only
          rw [p1.2.2, p2.2.2, Int.toNat_of_nonneg x1, Int.toNat_of_nonneg x3]
        · rw [old j (by omega), getD_lt (by omega)]; exact ih.val j (by simp only; omega)
      · simp only [List.length_append, List.length_cons, List.length_nil] at hk
        simp only
        by_cases e : k = c1.length
        · subst e; rw [new, old j hjk]; have := ih.lt j hjk; simp only at this; omega
        · rw [old j (by omega), old k (by omega)]; exact ih.dist j k hjk (by simp only; omega)
      · rcases List.mem_append.1 he with he | he
        · exact ih.mem e he
        · rw [List.mem_singleton] at he
          subst he
          exact ⟨⟨y, hmem, rfl⟩, ⟨p1.1, p1.2.1⟩, ⟨p2.1, p2.2.1⟩⟩
    · rw [if_neg hb]
      exact ⟨hl, fun j hj => by have := ih.lt j hj; omega, ih.val, ih.dist, ih.mem⟩

theorem chosen_law {g : Gr} (bits : Int) (hv : validG g = 0) : validM (chosenR g bits).1 g (chosenR g bits).2 = 0 ∧ injM (chosenR g bits).1 g (chosenR g bits).2 = true ∧ (chosenR g bits).1.nodes.length ≤ g.nodes.length ∧ (chosenR g bits).1.edges.length ≤ g.edges.length := by
  obtain ⟨tl, tn, te⟩ := validG_types hv
  have hx := validG_edges hv
  have cn := chN_cn g.nodes (bitB bits) g.nodes.length (Nat.le_refl _)
  have ce := chE_ce hx cn.spot (fun i => bitB bits (8 + i)) g.edges.length (Nat.le_refl _)
  have l1 := (chN_len g.nodes (bitB bits) g.nodes.length).1
  have l2 := (chE_len g.edges (fun i => bitB bits (8 + i)) (atK g.nodes (bitB bits) g.nodes.length) g.edges.length).1
  have eR : chosenR g bits = (⟨(chN g.nodes (bitB bits) g.nodes.length).1, (chE g.edges (fun i => bitB bits (8 + i)) (atK g.nodes (bitB bits) g.nodes.length) g.edges.length).1⟩,
    ⟨(chN g.nodes (bitB bits) g.nodes.length).2, (chE g.edges (fun i => bitB bits (8 + i)) (atK g.nodes (bitB bits) g.nodes.length) g.edges.length).2⟩) := rfl
  rw [eR]
  generalize chN g.nodes (bitB bits) g.nodes.length = c at *
  generalize chE g.edges (fun i => bitB bits (8 + i)) (atK g.nodes (bitB bits) g.nodes.length) g.edges.length = d at *
  clear eR
  simp only
  have va : validG ⟨c.1, d.1⟩ = 0 := validG_of (by simp only; omega) (fun n hn => tn n (cn.mem n hn)) fun e he => by
    obtain ⟨⟨y, hy, e1⟩, e2, e3⟩ := ce.mem e he
    rw [fitsB_iff]
    refine ⟨?_, e2, e3⟩
    rw [e1]
    exact ((fitsB_iff _ _).1 (te y hy)).1
  have nd : ∀ {l : List Int}, (∀ j k, j < k → k < l.length → l.getD j 0 ≠ l.getD k 0) → l.Nodup := fun {l} h => (distK_nodup l).1 (distK_of h)
  have hvm : validM ⟨c.1, d.1⟩ g ⟨c.2, d.2⟩ = 0 := validM_of ⟨va, hv, cn.len, ce.len, fun x hx => by
      obtain ⟨j, hj, rfl⟩ := mem_getD hx
      exact cn.lt j (by rw [← cn.len]; exact hj), fun x hx => by
      obtain ⟨j, hj, rfl⟩ := mem_getD hx
      exact ce.lt j (by rw [← ce.len]; exact hj), cn.val, ce.val⟩
  exact ⟨hvm, (injM_iff _ _ _).2 ⟨hvm, nd fun j k h1 h2 => cn.dist j k h1 (by rw [← cn.len]; exact h2), nd fun j k h1 h2 => ce.dist j k h1 (by rw [← ce.len]; exact h2)⟩, l1, l2⟩
end Go.AM
/-
  The gluing along shared places is among the standard overlaps.
-/
namespace Go.AM
open Go
set_option linter.unusedSimpArgs false
set_option linter.unusedVariables false

theorem thr_list {a b x : Gr} {h k : Mo} (h3 : injM a x h = true) (h4 : injM b x k = true) : (thrR a b x h k).e = 0 ∧ (thrR a b x h k).o ∈ listO a b := by
  obtain ⟨h1, hn1, he1⟩ := (injM_iff a x h).1 h3
  obtain ⟨h2, hn2, he2⟩ := (injM_iff b x k).1 h4
  have v1 := validM_VM h1
  have v2 := validM_VM h2
  have eT : thrR a b x h k = ⟨glue a b (placesK k.nodes h.nodes k.nodes.length) (placesK k.edges h.edges k.edges.length), ⟨restK h.nodes k.nodes (placesK k.nodes h.nodes k.nodes.length) k.nodes.length, restK h.edges k.edges (placesK k.edges h.edges k.edges.length) k.edges.length⟩, 0⟩ := by
    simp [thrR, h1, h2, h3, h4]
  rw [eT]
  have ea := validG_edges v1.va
  have eb := validG_edges v2.va
  -- the places are matchings
  have okn : ∀ i j, i < b.nodes.length → j < a.nodes.length → okN a b i j = true → a.nodes.getD j default = b.nodes.getD i default := fun i j _ _ hok => by
    unfold okN at hok
    rw [decide_eq_true_eq] at hok
    exact hok
  have pN : isM (okN a b) a.nodes.length b.nodes.length (placesK k.nodes h.nodes k.nodes.length) := places_isM hn2 _ v1.ln v2.ln fun i j hi hj e => by
    unfold okN
    rw [decide_eq_true_eq, ← v1.nt j hj, ← v2.nt i hi, e]
  have pE : isM (okE a b (placesK k.nodes h.nodes k.nodes.length)) a.edges.length b.edges.length (placesK k.edges h.edges k.edges.length) := places_isM he2 _ v1.le v2.le fun i j hi hj e => by
    unfold okE
    rw [decide_eq_true_eq]
    have t1 := v1.et j hj
    have t2 := v2.et i hi
    rw [e, t2] at t1
    obtain ⟨a1, a2, a3, a4⟩ := ea _ (getD_mem (d := default) hj)
    obtain ⟨b1, b2, b3, b4⟩ := eb _ (getD_mem (d := default) hi)
    have ln1 := v1.ln
    have ln2 := v2.ln
    rw [placesK_getD (by omega), placesK_getD (by omega)]
    generalize a.edges.getD j default = y at *
    generalize b.edges.getD i default = z at *
    have u1 : z.ty = y.ty := (E.mk.inj t1).1
    have u2 : k.nodes.getD z.fr.toNat 0 = h.nodes.getD y.fr.toNat 0 := (E.mk.inj t1).2.1
    have u3 : k.nodes.getD z.to.toNat 0 = h.nodes.getD y.to.toNat 0 := (E.mk.inj t1).2.2
    rw [u2, u3, indexI_at hn1 (by omega), indexI_at hn1 (by omega), u1, Int.toNat_of_nonneg a1, Int.toNat_of_nonneg a3]
  have pair : isPair a b (placesK k.nodes h.nodes k.nodes.length, placesK k.edges h.edges k.edges.length) := ⟨pN, pE⟩
  exact ⟨rfl, List.mem_map.2 ⟨_, (pairsM_mem a b _).2 pair, rfl⟩⟩

end Go.AM
namespace Go.AM
open Go Go.Proofs
set_option linter.unusedSimpArgs false
set_option linter.unusedVariables false

/-! ### slices.ContainsFunc over overlaps -/
def st64 (xs : List Ov) (f : FuncId) (caps : List AV) (nb : Nat) (box : Nat → Option (List (List AV))) (tok : Nat → Bool) (nt : Nat) (i : Nat) : AState := ⟨tl [(0, .d (ovs xs)), (1, .fn (.func f) caps), (7, I xs.length), (8, I i)], lb nb box [], tok, nt⟩

theorem indexFuncO_c (xs : List Ov) (f : FuncId) (caps : List AV) (p : Ov → Bool) (hx : xs.length ≤ 1000000) (box : Nat → Option (List (List AV))) (nb : Nat) (tok : Nat → Bool) (nt : Nat) (hc : ∀ c ∈ caps, OkIn (fun k => box k ≠ none) (fun _ => True) c)
    (hf : ∀ x ∈ xs, ∀ box' nb', Ext box box' → ACalls Try.prog f (x.av :: caps) ⟨box', nb', tok, nt⟩ fun v m => v = B (p x) ∧ m = ⟨box', nb', tok, nt⟩) :
    ACalls Try.prog 64 [.d (ovs xs), .fn (.func f) caps] ⟨box, nb, tok, nt⟩ fun v m => v = I (findI p xs) ∧ m = ⟨box, nb, tok, nt⟩ := by
  refine ACalls.of_body Try.func64 rfl (by kernel_rfl) follows_Try (by kernel_rfl) (by simp [Try.ntmps64]) ?_
  intro hbox htok
  simp only at hbox htok
  apply AL.start
  repeat (first | refine AL.seq ?_ | refine AL.block ?_ | refine AL.skip ?_ | refine AL.blk ?_)
  refine AL.region follows_Try (Nat.le_refl _) (by kernel_rfl) ?_
  simp
  repeat (first | refine AL.seq ?_ | refine AL.block ?_ | refine AL.skip ?_ | refine AL.blk ?_)
  refine AL.region follows_Try (Nat.le_refl _) (by kernel_rfl) ?_
  simp
  repeat (first | refine AL.seq ?_ | refine AL.block ?_ | refine AL.skip ?_ | refine AL.blk ?_)
  refine AL.loopT (st64 xs f caps nb box tok nt) (fun i => i ≤ xs.length ∧ ∀ x ∈ xs.take i, p x = false) (fun i => xs.length - i) 0 ⟨Nat.zero_le _, by simp⟩ (Weaks.mk (Nat.le_refl _) rfl (by simp [ToL]; exact .same (okFn hc hbox [] (by simp) rfl _)) trivial) ?_
  rintro i S ⟨hi, htk⟩ hS
  simp only [st64] at hS
  subst hS
  have hw : IntKind.i64.wrap (↑i + 1) = ((i + 1 : Nat) : Int) := by rw [wrap_in (by omega) (by omega)]; rfl
  repeat (first | refine AL.seq ?_ | refine AL.block ?_ | refine AL.skip ?_ | refine AL.blk ?_)
  refine AL.region follows_Try (Nat.le_refl _) (by kernel_rfl) ?_
  simp
  repeat (first | refine AL.seq ?_ | refine AL.block ?_ | refine AL.skip ?_ | refine AL.blk ?_)
  refine AL.cond ?_
  simp
  refine ⟨fun hlt => ?_, fun hge => ?_⟩
  · repeat (first | refine AL.seq ?_ | refine AL.block ?_ | refine AL.skip ?_ | refine AL.blk ?_)
    refine AL.region follows_Try (Nat.le_refl _) (by kernel_rfl) ?_
    simp
    repeat (first | refine AL.seq ?_ | refine AL.block ?_ | refine AL.skip ?_ | refine AL.blk ?_)
    refine AL.region follows_Try (Nat.le_refl _) (by kernel_rfl) ?_
    simp [hlt]
    refine Stop.of_b (hf xs[i] (List.getElem_mem _) _ _ ((Ext.refl box).lb hbox [])) ?_
    simp
    repeat (first | refine AL.seq ?_ | refine AL.block ?_ | refine AL.skip ?_ | refine AL.blk ?_)
    refine AL.cond ?_
    simp
    refine ⟨fun he => ?_, fun hne => ?_⟩
    · repeat (first | refine AL.seq ?_ | refine AL.block ?_ | refine AL.skip ?_ | refine AL.blk ?_)
      refine AL.region follows_Try (Nat.le_refl _) (by kernel_rfl) ?_
      simp
      obtain ⟨h1, h2⟩ := any_take hlt htk he
      repeat (first | refine AL.seq ?_ | refine AL.block ?_ | refine AL.skip ?_ | refine AL.blk ?_)
      refine AL.ret ?_
      try simp only [AU]
      refine ⟨by simp, Fin.data (by simp [resAs, resA]; rfl) hbox rfl htok (fun _ h => h) (Nat.le_refl _) ?_⟩
      simp [packA, findI, h1, h2]
    · repeat (first | refine AL.seq ?_ | refine AL.block ?_ | refine AL.skip ?_ | refine AL.blk ?_)
      refine AL.region follows_Try (Nat.le_refl _) (by kernel_rfl) ?_
      simp [hw]
      repeat (first | refine AL.seq ?_ | refine AL.block ?_ | refine AL.skip ?_ | refine AL.blk ?_)
      refine AL.nil ?_
      refine ⟨i + 1, ⟨hlt, ?_⟩, by omega, Weaks.mk (Nat.le_refl _) rfl (by simp [ToL]; exact .same (okFn hc hbox [] (by simp) rfl _)) trivial⟩
      rw [List.take_succ_eq_append_getElem hlt]
      intro x hx
      rcases List.mem_append.1 hx with hx | hx
      · exact htk x hx
      · simp at hx; rw [hx]; exact hne
  · repeat (first | refine AL.seq ?_ | refine AL.block ?_ | refine AL.skip ?_ | refine AL.blk ?_)
    refine AL.exit ?_
    simp only [AU, ↓reduceIte]
    repeat (first | refine AL.seq ?_ | refine AL.block ?_ | refine AL.skip ?_ | refine AL.blk ?_)
    refine AL.region follows_Try (Nat.le_refl _) (by kernel_rfl) ?_
    simp
    have hn : xs.any p = false := by
      rw [List.take_of_length_le hge] at htk
      simpa using htk
    repeat (first | refine AL.seq ?_ | refine AL.block ?_ | refine AL.skip ?_ | refine AL.blk ?_)
    refine AL.ret ?_
    try simp only [AU]
    refine ⟨by simp, Fin.data (by simp [resAs, resA]; rfl) hbox rfl htok (fun _ h => h) (Nat.le_refl _) ?_⟩
    simp [packA, findI, hn]

theorem containsFuncO_c (xs : List Ov) (f : FuncId) (caps : List AV) (p : Ov → Bool) (hx : xs.length ≤ 1000000) (box : Nat → Option (List (List AV))) (nb : Nat) (tok : Nat → Bool) (nt : Nat) (hc : ∀ c ∈ caps, OkIn (fun k => box k ≠ none) (fun _ => True) c)
    (hf : ∀ x ∈ xs, ∀ box' nb', Ext box box' → ACalls Try.prog f (x.av :: caps) ⟨box', nb', tok, nt⟩ fun v m => v = B (p x) ∧ m = ⟨box', nb', tok, nt⟩) :
    ACalls Try.prog 33 [.d (ovs xs), .fn (.func f) caps] ⟨box, nb, tok, nt⟩ fun v m => v = B (anyB p xs) ∧ m = ⟨box, nb, tok, nt⟩ := by
  refine ACalls.of_body Try.func33 rfl (by kernel_rfl) follows_Try (by kernel_rfl) (by simp [Try.ntmps33]) ?_
  intro hbox htok
  simp only at hbox htok
  apply AL.start
  repeat (first | refine AL.seq ?_ | refine AL.block ?_ | refine AL.skip ?_ | refine AL.blk ?_)
  refine AL.region follows_Try (Nat.le_refl _) (by kernel_rfl) ?_
  simp
  repeat (first | refine AL.seq ?_ | refine AL.block ?_ | refine AL.skip ?_ | refine AL.blk ?_)
  refine AL.region follows_Try (Nat.le_refl _) (by kernel_rfl) ?_
  simp
  refine Stop.of_b (indexFuncO_c xs f caps p hx (lb nb box []) _ _ _ (fun c h => (hc c h).mono (fun k hk => by rw [hbox]; exact hk) fun _ h => h) (fun x hx' box' nb' he => hf x hx' box' nb' (by rw [hbox] at he; exact he))) ?_
  simp
  have hany : decide (∃ x, x ∈ xs ∧ p x = true) = anyB p xs := by rw [Bool.eq_iff_iff]; simp [anyB]
  repeat (first | refine AL.seq ?_ | refine AL.block ?_ | refine AL.skip ?_ | refine AL.blk ?_)
  refine AL.ret ?_
  try simp only [AU]
  refine ⟨by simp, Fin.data (by simp [resAs, resA]; rfl) hbox rfl htok (fun _ h => h) (Nat.le_refl _) ?_⟩
  simp [packA, findI_nonneg, hany]

theorem same34_c (x o : Ov) (hx : x.Fit) (tok : Nat → Bool) (nt : Nat) (box : Nat → Option (List (List AV))) (nb k : Nat) (hk : box k = some [[.d (ints o.g.nodes), .d (AM.edges o.g.edges), .d (ints o.l.nodes), .d (ints o.l.edges), .d (ints o.r.nodes), .d (ints o.r.edges)]]) :
    ACalls Try.prog 34 [x.av, .ptr k 0 0] ⟨box, nb, tok, nt⟩ fun v m => v = B (decide (x = o)) ∧ m = ⟨box, nb, tok, nt⟩ := by
  refine ACalls.of_body Try.func34 rfl (by kernel_rfl) follows_Try (by kernel_rfl) (by simp [Try.ntmps34]) ?_
  intro hbox htok
  simp only at hbox htok
  apply AL.start
  have hkn := key_lt hbox hk
  repeat (first | refine AL.seq ?_ | refine AL.block ?_ | refine AL.skip ?_ | refine AL.blk ?_)
  refine AL.region follows_Try (Nat.le_refl _) (by kernel_rfl) ?_
  simp
  repeat (first | refine AL.seq ?_ | refine AL.block ?_ | refine AL.skip ?_ | refine AL.blk ?_)
  refine AL.region follows_Try (Nat.le_refl _) (by kernel_rfl) ?_
  simp [lb_out hkn, hk]
  refine Stop.of_d (sameOverlap_c x o hx _ _) ?_
  simp
  repeat (first | refine AL.seq ?_ | refine AL.block ?_ | refine AL.skip ?_ | refine AL.blk ?_)
  refine AL.ret ?_
  try simp only [AU]
  refine ⟨by simp, Fin.data (by simp [resAs, resA]; rfl) hbox rfl htok (fun _ h => h) (Nat.le_refl _) ?_⟩
  simp [packA]

theorem law8_c (x : Dr) (hx : x.U8) (left right : Int) (tok : Nat → Bool) (nt : Nat) : ∃ tok' nt', DCall Try.prog 8 [x.av, .d (.raw (.int .u16 left)), .d (.raw (.int .u16 right))] tok nt (B true) tok' nt' := by
  refine ⟨tok, nt, ?_⟩
  intro box nb
  refine ACalls.of_body Try.func8 rfl (by kernel_rfl) follows_Try (by kernel_rfl) (by simp [Try.ntmps8]) ?_
  intro hbox htok
  simp only at hbox htok
  apply AL.start
  repeat (first | refine AL.seq ?_ | refine AL.block ?_ | refine AL.skip ?_ | refine AL.blk ?_)
  refine AL.region follows_Try (Nat.le_refl _) (by kernel_rfl) ?_
  simp
  repeat (first | refine AL.seq ?_ | refine AL.block ?_ | refine AL.skip ?_ | refine AL.blk ?_)
  refine AL.region follows_Try (Nat.le_refl _) (by kernel_rfl) ?_
  simp
  refine Stop.of_d (awake_c _ _) ?_
  simp
  refine Stop.of_d (small24_c x 6 5 _ _) ?_
  simp
  by_cases h1 : smallD x 6 5 = true
  · simp [h1]
    have m1 := made25_c x hx tok nt
    have hvg := madeG_valid hx
    have fg := madeG_fit x
    have sg := madeG_len x
    generalize madeG x = g at *
    obtain ⟨hva, hia, sa1, sa2⟩ := chosen_law left hvg
    obtain ⟨hvb, hib, sb1, sb2⟩ := chosen_law right hvg
    have ca := chosen32_c g left fg hvg tok nt
    have cb := chosen32_c g right fg hvg tok nt
    generalize chosenR g left = A at *
    generalize chosenR g right = C at *
    repeat (first | refine AL.seq ?_ | refine AL.block ?_ | refine AL.skip ?_ | refine AL.blk ?_)
    refine AL.cond ?_
    simp
    repeat (first | refine AL.seq ?_ | refine AL.block ?_ | refine AL.skip ?_ | refine AL.blk ?_)
    refine AL.region follows_Try (Nat.le_refl _) (by kernel_rfl) ?_
    simp
    refine Stop.of_d (m1) ?_
    simp
    repeat (first | refine AL.seq ?_ | refine AL.block ?_ | refine AL.skip ?_ | refine AL.blk ?_)
    refine AL.region follows_Try (Nat.le_refl _) (by kernel_rfl) ?_
    simp
    refine Stop.of_d (ca) ?_
    simp
    repeat (first | refine AL.seq ?_ | refine AL.block ?_ | refine AL.skip ?_ | refine AL.blk ?_)
    refine AL.region follows_Try (Nat.le_refl _) (by kernel_rfl) ?_
    simp
    refine Stop.of_d (cb) ?_
    simp
    repeat (first | refine AL.seq ?_ | refine AL.block ?_ | refine AL.skip ?_ | refine AL.blk ?_)
    refine AL.region follows_Try (Nat.le_refl _) (by kernel_rfl) ?_
    simp
    have qa : (A.1.nodes.length : Int) ≤ 4 ∨ 4 < (A.1.nodes.length : Int) := by omega
    by_cases g1 : 4 < (A.1.nodes.length : Int)
    · simp [g1]
      repeat (first | refine AL.seq ?_ | refine AL.block ?_ | refine AL.skip ?_ | refine AL.blk ?_)
      refine AL.cond ?_
      simp
      repeat (first | refine AL.seq ?_ | refine AL.block ?_ | refine AL.skip ?_ | refine AL.blk ?_)
      refine AL.region follows_Try (Nat.le_refl _) (by kernel_rfl) ?_
      simp
      repeat (first | refine AL.seq ?_ | refine AL.block ?_ | refine AL.skip ?_ | refine AL.blk ?_)
      refine AL.ret ?_
      try simp only [AU]
      refine ⟨by simp, Fin.data (by simp [resAs, resA]; rfl) hbox rfl htok (fun _ h => h) (Nat.le_refl _) ?_⟩
      simp [packA]
    · simp [g1]
      by_cases g2 : 4 < (C.1.nodes.length : Int)
      · simp [g2]
        repeat (first | refine AL.seq ?_ | refine AL.block ?_ | refine AL.skip ?_ | refine AL.blk ?_)
        refine AL.cond ?_
        simp
        repeat (first | refine AL.seq ?_ | refine AL.block ?_ | refine AL.skip ?_ | refine AL.blk ?_)
        refine AL.region follows_Try (Nat.le_refl _) (by kernel_rfl) ?_
        simp
        repeat (first | refine AL.seq ?_ | refine AL.block ?_ | refine AL.skip ?_ | refine AL.blk ?_)
        refine AL.ret ?_
        try simp only [AU]
        refine ⟨by simp, Fin.data (by simp [resAs, resA]; rfl) hbox rfl htok (fun _ h => h) (Nat.le_refl _) ?_⟩
        simp [packA]
      · simp [g2]
        repeat (first | refine AL.seq ?_ | refine AL.block ?_ | refine AL.skip ?_ | refine AL.blk ?_)
        refine AL.cond ?_
        simp
        have fa : A.1.Fit := ⟨by omega, by omega⟩
        have fc : C.1.Fit := ⟨by omega, by omega⟩
        have va := validM_VM hva
        have vc := validM_VM hvb
        have fa2 : A.2.Fit := ⟨by rw [va.ln]; omega, by rw [va.le]; omega⟩
        have fc2 : C.2.Fit := ⟨by rw [vc.ln]; omega, by rw [vc.le]; omega⟩
        have th := through28_c A.1 C.1 g A.2 C.2 fa fc fg fa2 fc2 tok nt
        obtain ⟨te, tl⟩ := thr_list hia hib
        rw [te] at th
        generalize thrR A.1 C.1 g A.2 C.2 = T at *
        have ov := overlapsF_c A.1 C.1 fa fc tok nt
        have rl := overlapsR_list A.1 C.1 va.va vc.va (by omega)
        by_cases hbig : 2000 < (pairsM A.1 C.1).length
        · rw [if_pos hbig] at rl
          rw [rl] at ov
          repeat (first | refine AL.seq ?_ | refine AL.block ?_ | refine AL.skip ?_ | refine AL.blk ?_)
          refine AL.region follows_Try (Nat.le_refl _) (by kernel_rfl) ?_
          simp
          refine Stop.of_d (th) ?_
          simp
          repeat (first | refine AL.seq ?_ | refine AL.block ?_ | refine AL.skip ?_ | refine AL.blk ?_)
          refine AL.region follows_Try (Nat.le_refl _) (by kernel_rfl) ?_
          simp
          refine Stop.of_d (ov) ?_
          simp
          repeat (first | refine AL.seq ?_ | refine AL.block ?_ | refine AL.skip ?_ | refine AL.blk ?_)
          refine AL.region follows_Try (Nat.le_refl _) (by kernel_rfl) ?_
          simp
          repeat (first | refine AL.seq ?_ | refine AL.block ?_ | refine AL.skip ?_ | refine AL.blk ?_)
          refine AL.cond ?_
          simp
          repeat (first | refine AL.seq ?_ | refine AL.block ?_ | refine AL.skip ?_ | refine AL.blk ?_)
          refine AL.region follows_Try (Nat.le_refl _) (by kernel_rfl) ?_
          simp
          repeat (first | refine AL.seq ?_ | refine AL.block ?_ | refine AL.skip ?_ | refine AL.blk ?_)
          refine AL.ret ?_
          try simp only [AU]
          refine ⟨by simp, Fin.data (by simp [resAs, resA]; rfl) hbox rfl htok (fun _ h => h) (Nat.le_refl _) ?_⟩
          simp [packA]
        · rw [if_neg hbig] at rl
          rw [rl] at ov
          have hL : (listO A.1 C.1).length ≤ 2000 := by simp only [listO, List.length_map]; omega
          have hfit : ∀ o ∈ listO A.1 C.1, o.Fit := by
            intro o ho
            obtain ⟨p, hp, rfl⟩ := List.mem_map.1 ho
            have hp' := (pairsM_mem A.1 C.1 p).1 hp
            have q1 := hp'.1.1
            have q2 := hp'.2.1
            exact glue_fit A.1 C.1 p.1 p.2 (by omega) (by omega) (by omega)
          generalize listO A.1 C.1 = L at *
          repeat (first | refine AL.seq ?_ | refine AL.block ?_ | refine AL.skip ?_ | refine AL.blk ?_)
          refine AL.region follows_Try (Nat.le_refl _) (by kernel_rfl) ?_
          simp
          refine Stop.of_d (th) ?_
          simp
          repeat (first | refine AL.seq ?_ | refine AL.block ?_ | refine AL.skip ?_ | refine AL.blk ?_)
          refine AL.region follows_Try (Nat.le_refl _) (by kernel_rfl) ?_
          simp
          refine Stop.of_d (ov) ?_
          simp
          repeat (first | refine AL.seq ?_ | refine AL.block ?_ | refine AL.skip ?_ | refine AL.blk ?_)
          refine AL.region follows_Try (Nat.le_refl _) (by kernel_rfl) ?_
          simp
          repeat (first | refine AL.seq ?_ | refine AL.block ?_ | refine AL.skip ?_ | refine AL.blk ?_)
          refine AL.cond ?_
          simp
          repeat (first | refine AL.seq ?_ | refine AL.block ?_ | refine AL.skip ?_ | refine AL.blk ?_)
          refine AL.region follows_Try (Nat.le_refl _) (by kernel_rfl) ?_
          simp
          refine Stop.of_b (containsFuncO_c L 34 [.ptr (nb + 12) 0 0] (fun x => decide (x = T.o)) (by omega) _ _ _ _ (by simp [lb_at, lk]) (fun x hx box' nb' he => same34_c x T.o (hfit x hx) _ _ box' nb' (nb + 12) (he _ _ (by simp [lb_at, lk])))) ?_
          simp
          have hany : anyB (fun x => decide (x = T.o)) L = true := List.any_eq_true.2 ⟨_, tl, by simp⟩
          repeat (first | refine AL.seq ?_ | refine AL.block ?_ | refine AL.skip ?_ | refine AL.blk ?_)
          refine AL.ret ?_
          try simp only [AU]
          refine ⟨by simp, Fin.data (by simp [resAs, resA]; rfl) hbox rfl htok (fun _ h => h) (Nat.le_refl _) ?_⟩
          simp [packA, hany]
  · simp [h1]
    repeat (first | refine AL.seq ?_ | refine AL.block ?_ | refine AL.skip ?_ | refine AL.blk ?_)
    refine AL.cond ?_
    simp
    repeat (first | refine AL.seq ?_ | refine AL.block ?_ | refine AL.skip ?_ | refine AL.blk ?_)
    refine AL.region follows_Try (Nat.le_refl _) (by kernel_rfl) ?_
    simp
    refine Stop.of_d (awake_c _ _) ?_
    simp
    repeat (first | refine AL.seq ?_ | refine AL.block ?_ | refine AL.skip ?_ | refine AL.blk ?_)
    refine AL.ret ?_
    try simp only [AU]
    refine ⟨by simp, Fin.data (by simp [resAs, resA]; rfl) hbox rfl htok (fun _ h => h) (Nat.le_refl _) ?_⟩
    simp [packA]
end Go.AM
