import Derived.Test.YtgonmjghdkoekaaTm8
import Derived.WalkKit
import Derived.ProofKit
import Derived.OpenShut
import Derived.ChangeStays
import Derived.SizedLaws
namespace Go.AM
open Go Go.Proofs
set_option linter.unusedSimpArgs false
set_option linter.unusedVariables false

/-! ### What the library's Sort and Compact leave of a list -/
theorem upTo_facts (d : Array Int) (hs : ∀ i j, i ≤ j → j < d.size → d[i]! ≤ d[j]!) : ∀ m, m ≤ d.size → (Lib.compactUpTo d m).Pairwise (· < ·) ∧ ∀ x, x ∈ Lib.compactUpTo d m ↔ ∃ j, j < m ∧ d[j]! = x
  | 0, _ => ⟨List.Pairwise.nil, fun x => ⟨fun h => by simp [Lib.compactUpTo] at h, fun ⟨j, hj, _⟩ => absurd hj (Nat.not_lt_zero _)⟩⟩
  | m + 1, hm => by
    obtain ⟨h1, h2⟩ := upTo_facts d hs m (by omega)
    rw [Lib.compactUpTo_succ]
    by_cases hk : Lib.keeps d m = true
    · rw [if_pos hk]
      refine ⟨List.pairwise_append.2 ⟨h1, List.pairwise_singleton _ _, fun x hx y hy => ?_⟩, fun x => ?_⟩
      · rw [List.mem_singleton] at hy
        subst hy
        obtain ⟨j, hj, rfl⟩ := (h2 x).1 hx
        simp only [Lib.keeps, decide_eq_true_eq] at hk
        have a1 := hs j (m - 1) (by omega) (by omega)
        have a2 := hs (m - 1) m (by omega) (by omega)
        have a3 : d[m]! ≠ d[m - 1]! := by rcases hk with hk | hk; omega; exact hk
        omega
      · rw [List.mem_append, List.mem_singleton, h2]
        constructor
        · rintro (⟨j, hj, e⟩ | e)
          · exact ⟨j, by omega, e⟩
          · exact ⟨m, by omega, e.symm⟩
        · rintro ⟨j, hj, e⟩
          by_cases ej : j = m
          · subst ej; exact .inr e.symm
          · exact .inl ⟨j, by omega, e⟩
    · rw [if_neg hk, List.append_nil]
      refine ⟨h1, fun x => ?_⟩
      rw [h2]
      constructor
      · rintro ⟨j, hj, e⟩; exact ⟨j, by omega, e⟩
      · rintro ⟨j, hj, e⟩
        by_cases ej : j = m
        · subst ej
          simp only [Lib.keeps, decide_eq_true_eq, not_or, Decidable.not_not] at hk
          exact ⟨j - 1, by omega, by rw [← hk.2]; exact e⟩
        · exact ⟨j, by omega, e⟩

def sortI (l : List Int) : List Int := l.mergeSort fun x y => decide (x ≤ y)
theorem sortI_perm (l : List Int) : (sortI l).Perm l := List.mergeSort_perm l _
theorem sortI_sorted (l : List Int) : (sortI l).Pairwise (· ≤ ·) := by
  have := List.pairwise_mergeSort (le := fun x y : Int => decide (x ≤ y)) (fun a b c h1 h2 => by simp only [decide_eq_true_eq] at *; omega) (fun a b => by simp only [Bool.or_eq_true, decide_eq_true_eq]; omega) l
  exact this.imp fun h => by simpa using h
theorem sortI_arr (l : List Int) (i j : Nat) (hij : i ≤ j) (hj : j < (sortI l).toArray.size) : (sortI l).toArray[i]! ≤ (sortI l).toArray[j]! := by
  simp only [List.size_toArray] at hj
  rw [getElem!_pos _ i (by simp; omega), getElem!_pos _ j (by simpa using hj)]
  by_cases e : i = j
  · subst e; omega
  · exact List.pairwise_iff_getElem.1 (sortI_sorted l) i j (by omega) hj (by omega)

/-- The numbers of a list, in order, each once. -/
def imagesI (l : List Int) : List Int := Lib.compact (sortI l)
theorem imagesI_sorted (l : List Int) : (imagesI l).Pairwise (· < ·) := (upTo_facts (sortI l).toArray (sortI_arr l) (sortI l).length (by simp)).1
theorem imagesI_mem (l : List Int) (x : Int) : x ∈ imagesI l ↔ x ∈ l := by
  have := (upTo_facts (sortI l).toArray (sortI_arr l) (sortI l).length (by simp)).2 x
  rw [show imagesI l = Lib.compactUpTo (sortI l).toArray (sortI l).length from rfl, this, ← (sortI_perm l).mem_iff]
  constructor
  · rintro ⟨j, hj, e⟩
    rw [getElem!_pos _ j (by simpa using hj)] at e
    rw [← e]
    exact List.getElem_mem _
  · intro h
    obtain ⟨j, hj, e⟩ := List.getElem_of_mem h
    exact ⟨j, hj, by rw [getElem!_pos _ j (by simpa using hj)]; exact e⟩

theorem imagesN_len (l : List Int) : imagesN l = (imagesI l).length := rfl

theorem imagesN_iff (l : List Int) : imagesN l = l.length ↔ l.Nodup := by
  have hl : (sortI l).length = l.length := (sortI_perm l).length_eq
  rw [imagesN_len, ← (sortI_perm l).nodup_iff, ← hl]
  constructor
  · intro h
    have h2 : ∀ j, j < (sortI l).length → Lib.keeps (sortI l).toArray j = true := by
      unfold imagesI Lib.compact Lib.compactUpTo at h
      rw [List.length_map] at h
      have h3 : (List.range (sortI l).length).filter (Lib.keeps (sortI l).toArray) = List.range (sortI l).length := List.filter_sublist.eq_of_length (by rw [h, List.length_range])
      intro j hj
      exact (List.filter_eq_self.1 h3) j (List.mem_range.2 hj)
    have h4 : imagesI l = sortI l := Lib.compact_all _ h2
    have h5 := imagesI_sorted l
    rw [h4] at h5
    exact h5.imp fun h => by omega
  · intro h
    have h4 : imagesI l = sortI l := Lib.compact_all _ fun j hj => by
      by_cases e : j = 0
      · simp [Lib.keeps, e]
      · apply Lib.keeps_pos
        rw [getElem!_pos _ j (by simpa using hj), getElem!_pos _ (j - 1) (by simp; omega)]
        intro e2
        exact List.pairwise_iff_getElem.1 h (j - 1) j (by omega) hj (by omega) e2.symm
    rw [h4]

theorem distK_nodup (l : List Int) : distK l l.length = true ↔ l.Nodup := by
  simp only [distK, List.all_eq_true, List.mem_range, decide_eq_true_eq]
  rw [List.Nodup, List.pairwise_iff_getElem]
  constructor
  · intro h i j hi hj hij e
    apply h j hj i hij
    rw [List.getD_eq_getElem?_getD, List.getD_eq_getElem?_getD, List.getElem?_eq_getElem hj, List.getElem?_eq_getElem hi]
    exact e.symm
  · intro h j hj k hkj e
    rw [List.getD_eq_getElem?_getD, List.getD_eq_getElem?_getD, List.getElem?_eq_getElem hj, List.getElem?_eq_getElem (show k < l.length by omega)] at e
    exact h k j (by omega) hj hkj e.symm

theorem images_dist (l : List Int) : decide (imagesN l = l.length) = distK l l.length := by
  rw [Bool.eq_iff_iff, decide_eq_true_eq, imagesN_iff, distK_nodup]

theorem images_beq (l : List Int) : ((imagesN l : Int) == (l.length : Int)) = distK l l.length := by
  rw [← images_dist, beqD]
  simp
  omega

/-! ### morphism.Injective -/
theorem injective56_c (a b : Gr) (m : Mo) (ha : a.Fit) (hb : b.Fit) (hm : m.Fit) (tok : Nat → Bool) (nt : Nat) : DCall Try.prog 56 [a.av, b.av, m.av] tok nt (B (injM a b m)) tok nt := by
  intro box nb
  have i1 := images_beq m.nodes
  have i2 := images_beq m.edges
  refine ACalls.of_body Try.func56 rfl (by kernel_rfl) follows_Try (by kernel_rfl) (by simp [Try.ntmps56]) ?_
  intro hbox htok
  simp only at hbox htok
  apply AL.start
  repeat (first | refine AL.seq ?_ | refine AL.block ?_ | refine AL.skip ?_ | refine AL.blk ?_)
  refine AL.region follows_Try (Nat.le_refl _) (by kernel_rfl) ?_
  simp
  repeat (first | refine AL.seq ?_ | refine AL.block ?_ | refine AL.skip ?_ | refine AL.blk ?_)
  refine AL.region follows_Try (Nat.le_refl _) (by kernel_rfl) ?_
  simp
  refine Stop.of_d (valid51_c a b m ha hb _ _) ?_
  simp
  by_cases h1 : validM a b m = 0
  · simp [h1]
    refine Stop.of_d (images88_c m.nodes hm.n _ _) ?_
    simp [h1]
    simp only [i1]
    by_cases h2 : distK m.nodes m.nodes.length = true
    · simp [h2]
      refine Stop.of_d (images88_c m.edges hm.e _ _) ?_
      simp [h1, h2, i2]
      repeat (first | refine AL.seq ?_ | refine AL.block ?_ | refine AL.skip ?_ | refine AL.blk ?_)
      refine AL.ret ?_
      try simp only [AU]
      refine ⟨by simp, Fin.data (by simp [resAs, resA]; rfl) hbox rfl htok (fun _ h => h) (Nat.le_refl _) ?_⟩
      simp [packA, injM, h1, h2]
    · have h3 : distK m.nodes m.nodes.length = false := by simpa using h2
      simp only [h3]
      simp
      repeat (first | refine AL.seq ?_ | refine AL.block ?_ | refine AL.skip ?_ | refine AL.blk ?_)
      refine AL.ret ?_
      try simp only [AU]
      refine ⟨by simp, Fin.data (by simp [resAs, resA]; rfl) hbox rfl htok (fun _ h => h) (Nat.le_refl _) ?_⟩
      simp [packA, injM, h1, h3]
  · have hb1 : (validM a b m == 0) = false := by simp [h1]
    simp only [hb1]
    try simp
    repeat (first | refine AL.seq ?_ | refine AL.block ?_ | refine AL.skip ?_ | refine AL.blk ?_)
    refine AL.ret ?_
    try simp only [AU]
    refine ⟨by simp, Fin.data (by simp [resAs, resA]; rfl) hbox rfl htok (fun _ h => h) (Nat.le_refl _) ?_⟩
    simp [packA, injM, h1]
end Go.AM
namespace Go.AM
open Go Go.Proofs
set_option linter.unusedSimpArgs false
set_option linter.unusedVariables false

/-! ### places, index, Through, Then, Compose -/
def placesK (l h : List Int) (i : Nat) : List Int := (l.take i).map (indexI h)
theorem placesK_zero (l h : List Int) : placesK l h 0 = [] := by simp [placesK]
@[simp] theorem placesK_len (l h : List Int) (i : Nat) : (placesK l h i).length = min i l.length := by simp [placesK]
theorem placesK_succ (l h : List Int) {i : Nat} (hi : i < l.length) : placesK l h (i + 1) = placesK l h i ++ [indexI h l[i]] := by simp only [placesK, List.take_add_one, List.getElem?_eq_getElem hi, Option.toList, List.map_append, List.map_cons, List.map_nil]
def byK (l by' : List Int) (i : Nat) : List Int := (l.take i).map fun x => by'.getD x.toNat 0
theorem byK_zero (l h : List Int) : byK l h 0 = [] := by simp [byK]
@[simp] theorem byK_len (l h : List Int) (i : Nat) : (byK l h i).length = min i l.length := by simp [byK]
theorem byK_succ (l h : List Int) {i : Nat} (hi : i < l.length) : byK l h (i + 1) = byK l h i ++ [h.getD l[i].toNat 0] := by simp only [byK, List.take_add_one, List.getElem?_eq_getElem hi, Option.toList, List.map_append, List.map_cons, List.map_nil]

def st57 (l h : List Int) (nb : Nat) (box : Nat → Option (List (List AV))) (a : Acc) : AState := ⟨tl [(0, .d (ints l)), (1, .d (ints h)), (5, .osl 1 (rI (placesK l h a.i)) a.own), (8, .d (ints l)), (9, I l.length), (10, I a.i)], lb nb box [], a.tok, a.nt⟩

theorem places57_c (l h : List Int) (hl : l.length ≤ 1000000) (hh : h.length ≤ 1000000) (tok : Nat → Bool) (nt : Nat) : DCall Try.prog 57 [.d (ints l), .d (ints h)] tok nt (.d (ints (placesK l h l.length))) tok nt := by
  intro box nb
  refine ACalls.of_body Try.func57 rfl (by kernel_rfl) follows_Try (by kernel_rfl) (by simp [Try.ntmps57]) ?_
  intro hbox htok
  simp only at hbox htok
  apply AL.start
  repeat (first | refine AL.seq ?_ | refine AL.block ?_ | refine AL.skip ?_ | refine AL.blk ?_)
  refine AL.region follows_Try (Nat.le_refl _) (by kernel_rfl) ?_
  simp
  repeat (first | refine AL.seq ?_ | refine AL.block ?_ | refine AL.skip ?_ | refine AL.blk ?_)
  refine AL.region follows_Try (Nat.le_refl _) (by kernel_rfl) ?_
  simp
  repeat (first | refine AL.seq ?_ | refine AL.block ?_ | refine AL.skip ?_ | refine AL.blk ?_)
  refine AL.region follows_Try (Nat.le_refl _) (by kernel_rfl) ?_
  simp
  repeat (first | refine AL.seq ?_ | refine AL.block ?_ | refine AL.skip ?_ | refine AL.blk ?_)
  refine AL.loopT (st57 l h nb box) (fun a => a.i ≤ l.length ∧ TK tok nt a.tok a.nt [a.own]) (fun a => l.length - a.i) ⟨0, .full, tok, nt⟩ ⟨Nat.zero_le _, (TK.start htok).full⟩ (Weaks.mk (Nat.le_refl _) rfl (by simp [ToL, placesK_zero]) trivial) ?_
  rintro ⟨i, own, tok', nt'⟩ S ⟨hi, htk⟩ hS
  simp only [st57] at hS hi htk
  subst hS
  have hw : IntKind.i64.wrap (↑i + 1) = ((i + 1 : Nat) : Int) := by rw [wrap_in (by omega) (by omega)]; rfl
  repeat (first | refine AL.seq ?_ | refine AL.block ?_ | refine AL.skip ?_ | refine AL.blk ?_)
  refine AL.region follows_Try (Nat.le_refl _) (by kernel_rfl) ?_
  simp
  repeat (first | refine AL.seq ?_ | refine AL.block ?_ | refine AL.skip ?_ | refine AL.blk ?_)
  refine AL.cond ?_
  simp
  refine ⟨fun hlt => ?_, fun hge => ?_⟩
  · repeat (first | refine AL.seq ?_ | refine AL.block ?_ | refine AL.skip ?_ | refine AL.blk ?_)
    refine AL.region follows_Try (Nat.le_refl _) (by kernel_rfl) ?_
    simp [hlt]
    repeat (first | refine AL.seq ?_ | refine AL.block ?_ | refine AL.skip ?_ | refine AL.blk ?_)
    refine AL.region follows_Try (Nat.le_refl _) (by kernel_rfl) ?_
    simp
    refine Stop.of_d (index_c h l[i] hh _ _) ?_
    simp
    refine ⟨⟨by omega, htk.live⟩, ?_⟩
    repeat (first | refine AL.seq ?_ | refine AL.block ?_ | refine AL.skip ?_ | refine AL.blk ?_)
    refine AL.region follows_Try (Nat.le_refl _) (by kernel_rfl) ?_
    simp [hw]
    repeat (first | refine AL.seq ?_ | refine AL.block ?_ | refine AL.skip ?_ | refine AL.blk ?_)
    refine AL.nil ?_
    refine ⟨⟨i + 1, _, _, _⟩, ⟨hlt, htk.app⟩, by simp; omega, Weaks.mk htk.app.le rfl (by simp [ToL, placesK_succ l h hlt]) trivial⟩
  · repeat (first | refine AL.seq ?_ | refine AL.block ?_ | refine AL.skip ?_ | refine AL.blk ?_)
    refine AL.exit ?_
    simp only [AU, ↓reduceIte]
    repeat (first | refine AL.seq ?_ | refine AL.block ?_ | refine AL.skip ?_ | refine AL.blk ?_)
    refine AL.region follows_Try (Nat.le_refl _) (by kernel_rfl) ?_
    simp
    have : i = l.length := by omega
    subst this
    repeat (first | refine AL.seq ?_ | refine AL.block ?_ | refine AL.skip ?_ | refine AL.blk ?_)
    refine AL.ret ?_
    try simp only [AU]
    refine ⟨by simp, Fin.data (by simp [resAs, resA]; rfl) hbox rfl htok htk.old htk.le ?_⟩
    simp [packA, ]

def st60 (xs : List Int) (v : Int) (nb : Nat) (box : Nat → Option (List (List AV))) (tok : Nat → Bool) (nt : Nat) (i : Nat) : AState := ⟨tl [(0, .d (ints xs)), (1, I v), (5, I i)], lb nb box [], tok, nt⟩

theorem index60_c (xs : List Int) (v : Int) (hx : xs.length ≤ 1000000) (tok : Nat → Bool) (nt : Nat) : DCall Try.prog 60 [.d (ints xs), I v] tok nt (I (indexI xs v)) tok nt := by
  intro box nb
  refine ACalls.of_body Try.func60 rfl (by kernel_rfl) follows_Try (by kernel_rfl) (by simp [Try.ntmps60]) ?_
  intro hbox htok
  simp only at hbox htok
  apply AL.start
  repeat (first | refine AL.seq ?_ | refine AL.block ?_ | refine AL.skip ?_ | refine AL.blk ?_)
  refine AL.region follows_Try (Nat.le_refl _) (by kernel_rfl) ?_
  simp
  repeat (first | refine AL.seq ?_ | refine AL.block ?_ | refine AL.skip ?_ | refine AL.blk ?_)
  refine AL.region follows_Try (Nat.le_refl _) (by kernel_rfl) ?_
  simp
  repeat (first | refine AL.seq ?_ | refine AL.block ?_ | refine AL.skip ?_ | refine AL.blk ?_)
  refine AL.loopT (st60 xs v nb box tok nt) (fun i => i ≤ xs.length ∧ v ∉ xs.take i) (fun i => xs.length - i) 0 ⟨Nat.zero_le _, by simp⟩ (Weaks.mk (Nat.le_refl _) rfl (by simp [ToL]) trivial) ?_
  rintro i S ⟨hi, htk⟩ hS
  simp only [st60] at hS
  subst hS
  have hw : IntKind.i64.wrap (↑i + 1) = ((i + 1 : Nat) : Int) := by rw [wrap_in (by omega) (by omega)]; rfl
  repeat (first | refine AL.seq ?_ | refine AL.block ?_ | refine AL.skip ?_ | refine AL.blk ?_)
  refine AL.region follows_Try (Nat.le_refl _) (by kernel_rfl) ?_
  simp
  repeat (first | refine AL.seq ?_ | refine AL.block ?_ | refine AL.skip ?_ | refine AL.blk ?_)
  refine AL.cond ?_
  simp
  refine ⟨fun hlt => ?_, fun hge => ?_⟩
  · have hsp : xs = xs.take i ++ xs[i] :: xs.drop (i + 1) := by simp
    repeat (first | refine AL.seq ?_ | refine AL.block ?_ | refine AL.skip ?_ | refine AL.blk ?_)
    refine AL.region follows_Try (Nat.le_refl _) (by kernel_rfl) ?_
    simp [hlt]
    repeat (first | refine AL.seq ?_ | refine AL.block ?_ | refine AL.skip ?_ | refine AL.blk ?_)
    refine AL.cond ?_
    simp
    refine ⟨fun he => ?_, fun hne => ?_⟩
    · repeat (first | refine AL.seq ?_ | refine AL.block ?_ | refine AL.skip ?_ | refine AL.blk ?_)
      refine AL.region follows_Try (Nat.le_refl _) (by kernel_rfl) ?_
      simp
      have hmem : v ∈ xs := by rw [← he]; exact List.getElem_mem _
      have hid : xs.idxOf v = i := by
        unfold List.idxOf
        rw [List.findIdx_eq hlt]
        refine ⟨by simp [he], fun j hj => ?_⟩
        have : xs[j] ≠ v := fun e => htk (by rw [← e, List.mem_take_iff_getElem]; exact ⟨j, by omega, rfl⟩)
        simpa using this
      repeat (first | refine AL.seq ?_ | refine AL.block ?_ | refine AL.skip ?_ | refine AL.blk ?_)
      refine AL.ret ?_
      try simp only [AU]
      refine ⟨by simp, Fin.data (by simp [resAs, resA]; rfl) hbox rfl htok (fun _ h => h) (Nat.le_refl _) ?_⟩
      simp [packA, indexI, hmem, hid]
    · repeat (first | refine AL.seq ?_ | refine AL.block ?_ | refine AL.skip ?_ | refine AL.blk ?_)
      refine AL.region follows_Try (Nat.le_refl _) (by kernel_rfl) ?_
      simp [hw]
      repeat (first | refine AL.seq ?_ | refine AL.block ?_ | refine AL.skip ?_ | refine AL.blk ?_)
      refine AL.nil ?_
      refine ⟨i + 1, ⟨hlt, ?_⟩, by omega, Weaks.mk (Nat.le_refl _) rfl (by simp [ToL]) trivial⟩
      rw [List.take_succ_eq_append_getElem hlt]
      simp only [List.mem_append, List.mem_singleton, not_or]
      exact ⟨htk, fun e => hne e.symm⟩
  · repeat (first | refine AL.seq ?_ | refine AL.block ?_ | refine AL.skip ?_ | refine AL.blk ?_)
    refine AL.exit ?_
    simp only [AU, ↓reduceIte]
    repeat (first | refine AL.seq ?_ | refine AL.block ?_ | refine AL.skip ?_ | refine AL.blk ?_)
    refine AL.region follows_Try (Nat.le_refl _) (by kernel_rfl) ?_
    simp
    have hn : v ∉ xs := by rwa [List.take_of_length_le hge] at htk
    repeat (first | refine AL.seq ?_ | refine AL.block ?_ | refine AL.skip ?_ | refine AL.blk ?_)
    refine AL.ret ?_
    try simp only [AU]
    refine ⟨by simp, Fin.data (by simp [resAs, resA]; rfl) hbox rfl htok (fun _ h => h) (Nat.le_refl _) ?_⟩
    simp [packA, indexI, hn]

def st68 (l h : List Int) (nb : Nat) (box : Nat → Option (List (List AV))) (a : Acc) : AState := ⟨tl [(0, .d (ints l)), (1, .d (ints h)), (5, .osl 1 (rI (byK l h a.i)) a.own), (6, I a.i)], lb nb box [], a.tok, a.nt⟩

theorem through68_c (l h : List Int) (hl : l.length ≤ 1000000) (hr : ∀ x ∈ l, 0 ≤ x ∧ x < h.length) (tok : Nat → Bool) (nt : Nat) : DCall Try.prog 68 [.d (ints l), .d (ints h)] tok nt (.d (ints (byK l h l.length))) tok nt := by
  intro box nb
  refine ACalls.of_body Try.func68 rfl (by kernel_rfl) follows_Try (by kernel_rfl) (by simp [Try.ntmps68]) ?_
  intro hbox htok
  simp only at hbox htok
  apply AL.start
  repeat (first | refine AL.seq ?_ | refine AL.block ?_ | refine AL.skip ?_ | refine AL.blk ?_)
  refine AL.region follows_Try (Nat.le_refl _) (by kernel_rfl) ?_
  simp
  repeat (first | refine AL.seq ?_ | refine AL.block ?_ | refine AL.skip ?_ | refine AL.blk ?_)
  refine AL.region follows_Try (Nat.le_refl _) (by kernel_rfl) ?_
  simp
  repeat (first | refine AL.seq ?_ | refine AL.block ?_ | refine AL.skip ?_ | refine AL.blk ?_)
  refine AL.region follows_Try (Nat.le_refl _) (by kernel_rfl) ?_
  simp
  repeat (first | refine AL.seq ?_ | refine AL.block ?_ | refine AL.skip ?_ | refine AL.blk ?_)
  refine AL.loopT (st68 l h nb box) (fun a => a.i ≤ l.length ∧ TK tok nt a.tok a.nt [a.own]) (fun a => l.length - a.i) ⟨0, .full, tok, nt⟩ ⟨Nat.zero_le _, (TK.start htok).full⟩ (Weaks.mk (Nat.le_refl _) rfl (by simp [ToL, byK_zero]) trivial) ?_
  rintro ⟨i, own, tok', nt'⟩ S ⟨hi, htk⟩ hS
  simp only [st68] at hS hi htk
  subst hS
  have hw : IntKind.i64.wrap (↑i + 1) = ((i + 1 : Nat) : Int) := by rw [wrap_in (by omega) (by omega)]; rfl
  repeat (first | refine AL.seq ?_ | refine AL.block ?_ | refine AL.skip ?_ | refine AL.blk ?_)
  refine AL.region follows_Try (Nat.le_refl _) (by kernel_rfl) ?_
  simp
  repeat (first | refine AL.seq ?_ | refine AL.block ?_ | refine AL.skip ?_ | refine AL.blk ?_)
  refine AL.cond ?_
  simp
  refine ⟨fun hlt => ?_, fun hge => ?_⟩
  · obtain ⟨x0, x1⟩ := hr _ (List.getElem_mem hlt)
    have x2 : l[i].toNat < h.length := by omega
    repeat (first | refine AL.seq ?_ | refine AL.block ?_ | refine AL.skip ?_ | refine AL.blk ?_)
    refine AL.region follows_Try (Nat.le_refl _) (by kernel_rfl) ?_
    simp [hlt, x0, x1, x2]
    refine ⟨⟨by omega, htk.live⟩, ?_⟩
    repeat (first | refine AL.seq ?_ | refine AL.block ?_ | refine AL.skip ?_ | refine AL.blk ?_)
    refine AL.region follows_Try (Nat.le_refl _) (by kernel_rfl) ?_
    simp [hw]
    repeat (first | refine AL.seq ?_ | refine AL.block ?_ | refine AL.skip ?_ | refine AL.blk ?_)
    refine AL.nil ?_
    refine ⟨⟨i + 1, _, _, _⟩, ⟨hlt, htk.app⟩, by simp; omega, Weaks.mk htk.app.le rfl (by simp [ToL, byK_succ l h hlt, x2]) trivial⟩
  · repeat (first | refine AL.seq ?_ | refine AL.block ?_ | refine AL.skip ?_ | refine AL.blk ?_)
    refine AL.exit ?_
    simp only [AU, ↓reduceIte]
    repeat (first | refine AL.seq ?_ | refine AL.block ?_ | refine AL.skip ?_ | refine AL.blk ?_)
    refine AL.region follows_Try (Nat.le_refl _) (by kernel_rfl) ?_
    simp
    have : i = l.length := by omega
    subst this
    repeat (first | refine AL.seq ?_ | refine AL.block ?_ | refine AL.skip ?_ | refine AL.blk ?_)
    refine AL.ret ?_
    try simp only [AU]
    refine ⟨by simp, Fin.data (by simp [resAs, resA]; rfl) hbox rfl htok htk.old htk.le ?_⟩
    simp [packA, ]

def thenM (m n : Mo) : Mo := ⟨byK m.nodes n.nodes m.nodes.length, byK m.edges n.edges m.edges.length⟩
theorem then63_c (m n : Mo) (hm : m.Fit) (hn : ∀ x ∈ m.nodes, 0 ≤ x ∧ x < n.nodes.length) (he : ∀ x ∈ m.edges, 0 ≤ x ∧ x < n.edges.length) (tok : Nat → Bool) (nt : Nat) : DCall Try.prog 63 [m.av, n.av] tok nt (thenM m n).av tok nt := by
  intro box nb
  refine ACalls.of_body Try.func63 rfl (by kernel_rfl) follows_Try (by kernel_rfl) (by simp [Try.ntmps63]) ?_
  intro hbox htok
  simp only at hbox htok
  apply AL.start
  repeat (first | refine AL.seq ?_ | refine AL.block ?_ | refine AL.skip ?_ | refine AL.blk ?_)
  refine AL.region follows_Try (Nat.le_refl _) (by kernel_rfl) ?_
  simp
  repeat (first | refine AL.seq ?_ | refine AL.block ?_ | refine AL.skip ?_ | refine AL.blk ?_)
  refine AL.region follows_Try (Nat.le_refl _) (by kernel_rfl) ?_
  simp
  refine Stop.of_d (through68_c m.nodes n.nodes hm.n hn _ _) ?_
  simp
  refine Stop.of_d (through68_c m.edges n.edges hm.e he _ _) ?_
  simp
  repeat (first | refine AL.seq ?_ | refine AL.block ?_ | refine AL.skip ?_ | refine AL.blk ?_)
  refine AL.ret ?_
  try simp only [AU]
  refine ⟨by simp, Fin.data (by simp [resAs, resA]; rfl) hbox rfl htok (fun _ h => h) (Nat.le_refl _) ?_⟩
  simp [packA, thenM]

/-- What a valid morphism holds lies within. -/
theorem firstE_all {f : Nat → Int} : ∀ n, firstE f n = 0 → ∀ i, i < n → f i = 0
  | 0, _, i, hi => absurd hi (Nat.not_lt_zero _)
  | n + 1, h, i, hi => by
    simp only [firstE] at h
    split at h
    · rename_i h0
      by_cases e : i = n
      · subst e; exact h
      · exact firstE_all n h0 i (by omega)
    · contradiction

structure VM (a b : Gr) (m : Mo) : Prop where
  va : validG a = 0
  vb : validG b = 0
  ln : m.nodes.length = a.nodes.length
  le : m.edges.length = a.edges.length
  n : ∀ x ∈ m.nodes, 0 ≤ x ∧ x < b.nodes.length
  e : ∀ x ∈ m.edges, 0 ≤ x ∧ x < b.edges.length
  nt : ∀ i, i < a.nodes.length → b.nodes.getD (m.nodes.getD i 0).toNat 0 = a.nodes.getD i 0
  et : ∀ i, i < a.edges.length → b.edges.getD (m.edges.getD i 0).toNat default = ⟨(a.edges.getD i default).ty, m.nodes.getD (a.edges.getD i default).fr.toNat 0, m.nodes.getD (a.edges.getD i default).to.toNat 0⟩

theorem validM_VM {a b : Gr} {m : Mo} (h : validM a b m = 0) : VM a b m := by
  unfold validM at h
  split at h
  · omega
  · rename_i h1
    split at h
    · omega
    · rename_i h2
      split at h
      · cases h
      · rename_i h3
        have hl1 : m.nodes.length = a.nodes.length := by omega
        have hl2 : m.edges.length = a.edges.length := by omega
        split at h
        · contradiction
        · rename_i h4
          have h4' : firstE (nodeE a b m) a.nodes.length = 0 := Decidable.not_not.1 h4
          have n1 := firstE_all _ h4'
          have n2 := firstE_all _ h
          refine ⟨by omega, by omega, hl1, hl2, fun x hx => ?_, fun x hx => ?_, fun i hi => ?_, fun i hi => ?_⟩
          · obtain ⟨i, hi, rfl⟩ := List.getElem_of_mem hx
            have := n1 i (by omega)
            have e : m.nodes.getD i 0 = m.nodes[i] := by simp [hi]
            unfold nodeE at this
            rw [e] at this
            split at this
            · cases this
            · omega
          · obtain ⟨i, hi, rfl⟩ := List.getElem_of_mem hx
            have := n2 i (by omega)
            have e : m.edges.getD i 0 = m.edges[i] := by simp [hi]
            unfold edgeE at this
            rw [e] at this
            split at this
            · cases this
            · omega
          · have := n1 i hi
            unfold nodeE at this
            split at this
            · cases this
            · split at this
              · assumption
              · cases this
          · have := n2 i hi
            unfold edgeE at this
            split at this
            · cases this
            · simp only at this
              split at this
              · cases this
              · rename_i t1
                split at this
                · cases this
                · rename_i t2
                  have t1' := Decidable.not_not.1 t1
                  simp only [ne_eq, not_or, Decidable.not_not] at t2
                  rw [t1', t2.1, t2.2]

def compM (a b c : Gr) (m n : Mo) : Mo × Int := if validM a b m ≠ 0 then (⟨[], []⟩, validM a b m) else if validM b c n ≠ 0 then (⟨[], []⟩, validM b c n) else (thenM m n, 0)
theorem compose31_c (a b c : Gr) (m n : Mo) (ha : a.Fit) (hb : b.Fit) (hc : c.Fit) (hm : m.Fit) (tok : Nat → Bool) (nt : Nat) : DCall Try.prog 31 [a.av, b.av, c.av, m.av, n.av] tok nt (.tup [(compM a b c m n).1.av, I (compM a b c m n).2]) tok nt := by
  intro box nb
  refine ACalls.of_body Try.func31 rfl (by kernel_rfl) follows_Try (by kernel_rfl) (by simp [Try.ntmps31]) ?_
  intro hbox htok
  simp only at hbox htok
  apply AL.start
  repeat (first | refine AL.seq ?_ | refine AL.block ?_ | refine AL.skip ?_ | refine AL.blk ?_)
  refine AL.region follows_Try (Nat.le_refl _) (by kernel_rfl) ?_
  simp
  repeat (first | refine AL.seq ?_ | refine AL.block ?_ | refine AL.skip ?_ | refine AL.blk ?_)
  refine AL.region follows_Try (Nat.le_refl _) (by kernel_rfl) ?_
  simp
  refine Stop.of_d (valid53_c a b m ha hb _ _) ?_
  simp
  by_cases h1 : validM a b m = 0
  · repeat (first | refine AL.seq ?_ | refine AL.block ?_ | refine AL.skip ?_ | refine AL.blk ?_)
    refine AL.region follows_Try (Nat.le_refl _) (by kernel_rfl) ?_
    simp [h1]
    repeat (first | refine AL.seq ?_ | refine AL.block ?_ | refine AL.skip ?_ | refine AL.blk ?_)
    refine AL.cond ?_
    simp
    repeat (first | refine AL.seq ?_ | refine AL.block ?_ | refine AL.skip ?_ | refine AL.blk ?_)
    refine AL.region follows_Try (Nat.le_refl _) (by kernel_rfl) ?_
    simp
    refine Stop.of_d (valid53_c b c n hb hc _ _) ?_
    simp
    by_cases h2 : validM b c n = 0
    · repeat (first | refine AL.seq ?_ | refine AL.block ?_ | refine AL.skip ?_ | refine AL.blk ?_)
      refine AL.region follows_Try (Nat.le_refl _) (by kernel_rfl) ?_
      simp [h2]
      repeat (first | refine AL.seq ?_ | refine AL.block ?_ | refine AL.skip ?_ | refine AL.blk ?_)
      refine AL.cond ?_
      simp
      repeat (first | refine AL.seq ?_ | refine AL.block ?_ | refine AL.skip ?_ | refine AL.blk ?_)
      refine AL.region follows_Try (Nat.le_refl _) (by kernel_rfl) ?_
      simp
      have v1 := validM_VM h1
      have v2 := validM_VM h2
      refine Stop.of_d (then63_c m n hm (fun x hx => by have := v1.n x hx; rw [v2.ln]; exact this) (fun x hx => by have := v1.e x hx; rw [v2.le]; exact this) _ _) ?_
      simp
      repeat (first | refine AL.seq ?_ | refine AL.block ?_ | refine AL.skip ?_ | refine AL.blk ?_)
      refine AL.ret ?_
      try simp only [AU]
      refine ⟨by simp, Fin.data (by simp [resAs, resA]; rfl) hbox rfl htok (fun _ h => h) (Nat.le_refl _) ?_⟩
      simp [packA, compM, h1, h2]
    · have hb1 : (validM b c n != 0) = true := by simp [h2]
      repeat (first | refine AL.seq ?_ | refine AL.block ?_ | refine AL.skip ?_ | refine AL.blk ?_)
      refine AL.region follows_Try (Nat.le_refl _) (by kernel_rfl) ?_
      simp [hb1]
      repeat (first | refine AL.seq ?_ | refine AL.block ?_ | refine AL.skip ?_ | refine AL.blk ?_)
      refine AL.cond ?_
      simp
      repeat (first | refine AL.seq ?_ | refine AL.block ?_ | refine AL.skip ?_ | refine AL.blk ?_)
      refine AL.region follows_Try (Nat.le_refl _) (by kernel_rfl) ?_
      simp
      repeat (first | refine AL.seq ?_ | refine AL.block ?_ | refine AL.skip ?_ | refine AL.blk ?_)
      refine AL.ret ?_
      try simp only [AU]
      refine ⟨by simp, Fin.data (by simp [resAs, resA]; rfl) hbox rfl htok (fun _ h => h) (Nat.le_refl _) ?_⟩
      simp [packA, compM, h1, h2, ints]
  · have hb1 : (validM a b m != 0) = true := by simp [h1]
    repeat (first | refine AL.seq ?_ | refine AL.block ?_ | refine AL.skip ?_ | refine AL.blk ?_)
    refine AL.region follows_Try (Nat.le_refl _) (by kernel_rfl) ?_
    simp [hb1]
    repeat (first | refine AL.seq ?_ | refine AL.block ?_ | refine AL.skip ?_ | refine AL.blk ?_)
    refine AL.cond ?_
    simp
    repeat (first | refine AL.seq ?_ | refine AL.block ?_ | refine AL.skip ?_ | refine AL.blk ?_)
    refine AL.region follows_Try (Nat.le_refl _) (by kernel_rfl) ?_
    simp
    repeat (first | refine AL.seq ?_ | refine AL.block ?_ | refine AL.skip ?_ | refine AL.blk ?_)
    refine AL.ret ?_
    try simp only [AU]
    refine ⟨by simp, Fin.data (by simp [resAs, resA]; rfl) hbox rfl htok (fun _ h => h) (Nat.le_refl _) ?_⟩
    simp [packA, compM, h1, ints]
end Go.AM
namespace Go.AM
open Go Go.Proofs
set_option linter.unusedSimpArgs false
set_option linter.unusedVariables false

/-! ### Through -/
/-- What is left of the second morphism, behind the first. -/
def restK (h k nodes : List Int) : Nat → List Int
  | 0 => h
  | i + 1 => if nodes.getD i 0 < 0 then restK h k nodes i ++ [k.getD i 0] else restK h k nodes i
theorem restK_len (h k nodes : List Int) : ∀ i, (restK h k nodes i).length ≤ h.length + i
  | 0 => by simp [restK]
  | i + 1 => by
    have := restK_len h k nodes i
    simp only [restK]
    split <;> simp <;> omega

def emptyO : Ov := ⟨⟨[], []⟩, ⟨[], []⟩, ⟨[], []⟩⟩
structure Th where
  o : Ov
  m : Mo
  e : Int
def thrR (a b x : Gr) (h k : Mo) : Th :=
  if validM a x h ≠ 0 then ⟨emptyO, ⟨[], []⟩, validM a x h⟩ else if validM b x k ≠ 0 then ⟨emptyO, ⟨[], []⟩, validM b x k⟩
  else if injM a x h = true ∧ injM b x k = true then
    ⟨glue a b (placesK k.nodes h.nodes k.nodes.length) (placesK k.edges h.edges k.edges.length),
      ⟨restK h.nodes k.nodes (placesK k.nodes h.nodes k.nodes.length) k.nodes.length, restK h.edges k.edges (placesK k.edges h.edges k.edges.length) k.edges.length⟩, 0⟩
  else ⟨emptyO, ⟨[], []⟩, 1⟩

def st28a (h k : Mo) (o : Ov) (P Q : List Int) (nb : Nat) (box : Nat → Option (List (List AV))) (y : Acc2) : AState :=
  ⟨tl [(77, .d (ints P)), (78, I P.length), (79, I y.i), (9, .ptr (nb + 9) 0 0), (10, .ptr (nb + 10) 0 0), (11, .ptr (nb + 11) 0 0), (16, .d (ints Q)), (17, .ptr (nb + 17) 0 0), (18, .ptr (nb + 18) 0 0)],
    lb nb box [(9, [[.d (ints k.nodes), .d (ints k.edges)]]), (10, [[.bot, .bot, .bot, .bot, .bot, .bot]]), (11, [[.bot, .bot]]), (17, [[.d (ints o.g.nodes), .d (AM.edges o.g.edges), .d (ints o.l.nodes), .d (ints o.l.edges), .d (ints o.r.nodes), .d (ints o.r.edges)]]),
      (18, [[.osl 1 (rI (restK h.nodes k.nodes P y.i)) y.o1, .osl 1 (rI h.edges) y.o2]])], y.tok, y.nt⟩

def st28b (h k : Mo) (o : Ov) (P Q : List Int) (nb : Nat) (box : Nat → Option (List (List AV))) (y : Acc) : AState :=
  ⟨tl [(97, .d (ints Q)), (98, I Q.length), (99, I y.i), (9, .ptr (nb + 9) 0 0), (10, .ptr (nb + 10) 0 0), (11, .ptr (nb + 11) 0 0), (17, .ptr (nb + 17) 0 0), (18, .ptr (nb + 18) 0 0)],
    lb nb box [(9, [[.d (ints k.nodes), .d (ints k.edges)]]), (10, [[.bot, .bot, .bot, .bot, .bot, .bot]]), (11, [[.bot, .bot]]), (17, [[.d (ints o.g.nodes), .d (AM.edges o.g.edges), .d (ints o.l.nodes), .d (ints o.l.edges), .d (ints o.r.nodes), .d (ints o.r.edges)]]),
      (18, [[.d (ints (restK h.nodes k.nodes P P.length)), .osl 1 (rI (restK h.edges k.edges Q y.i)) y.own]])], y.tok, y.nt⟩

theorem through28_c (a b x : Gr) (h k : Mo) (ha : a.Fit) (hb : b.Fit) (hx : x.Fit) (hh : h.Fit) (hk : k.Fit) (tok : Nat → Bool) (nt : Nat) :
    DCall Try.prog 28 [a.av, b.av, x.av, h.av, k.av] tok nt (.tup [(thrR a b x h k).o.av, (thrR a b x h k).m.av, I (thrR a b x h k).e]) tok nt := by
  intro box nb
  refine ACalls.of_body Try.func28 rfl (by kernel_rfl) follows_Try (by kernel_rfl) (by simp [Try.ntmps28]) ?_
  intro hbox htok
  simp only at hbox htok
  apply AL.start
  repeat (first | refine AL.seq ?_ | refine AL.block ?_ | refine AL.skip ?_ | refine AL.blk ?_)
  refine AL.region follows_Try (Nat.le_refl _) (by kernel_rfl) ?_
  simp
  repeat (first | refine AL.seq ?_ | refine AL.block ?_ | refine AL.skip ?_ | refine AL.blk ?_)
  refine AL.region follows_Try (Nat.le_refl _) (by kernel_rfl) ?_
  simp
  refine Stop.of_d (valid51_c a x h ha hx _ _) ?_
  simp
  by_cases h1 : validM a x h = 0
  · repeat (first | refine AL.seq ?_ | refine AL.block ?_ | refine AL.skip ?_ | refine AL.blk ?_)
    refine AL.region follows_Try (Nat.le_refl _) (by kernel_rfl) ?_
    simp [h1]
    repeat (first | refine AL.seq ?_ | refine AL.block ?_ | refine AL.skip ?_ | refine AL.blk ?_)
    refine AL.cond ?_
    simp
    repeat (first | refine AL.seq ?_ | refine AL.block ?_ | refine AL.skip ?_ | refine AL.blk ?_)
    refine AL.region follows_Try (Nat.le_refl _) (by kernel_rfl) ?_
    simp
    refine Stop.of_d (valid51_c b x k hb hx _ _) ?_
    simp
    by_cases h2 : validM b x k = 0
    · repeat (first | refine AL.seq ?_ | refine AL.block ?_ | refine AL.skip ?_ | refine AL.blk ?_)
      refine AL.region follows_Try (Nat.le_refl _) (by kernel_rfl) ?_
      simp [h2]
      repeat (first | refine AL.seq ?_ | refine AL.block ?_ | refine AL.skip ?_ | refine AL.blk ?_)
      refine AL.cond ?_
      simp
      repeat (first | refine AL.seq ?_ | refine AL.block ?_ | refine AL.skip ?_ | refine AL.blk ?_)
      refine AL.region follows_Try (Nat.le_refl _) (by kernel_rfl) ?_
      simp
      refine Stop.of_d (injective56_c a x h ha hx hh _ _) ?_
      simp
      by_cases h3 : injM a x h = true
      · simp [h3]
        refine Stop.of_d (injective56_c b x k hb hx hk _ _) ?_
        simp [h3]
        by_cases h4 : injM b x k = true
        · simp [h4]
          repeat (first | refine AL.seq ?_ | refine AL.block ?_ | refine AL.skip ?_ | refine AL.blk ?_)
          refine AL.cond ?_
          simp
          repeat (first | refine AL.seq ?_ | refine AL.block ?_ | refine AL.skip ?_ | refine AL.blk ?_)
          refine AL.region follows_Try (Nat.le_refl _) (by kernel_rfl) ?_
          simp
          have v1 := validM_VM h1
          have v2 := validM_VM h2
          refine Stop.of_d (places57_c k.nodes h.nodes hk.n hh.n _ _) ?_
          simp
          refine Stop.of_d (places57_c k.edges h.edges hk.e hh.e _ _) ?_
          simp
          have hRes : thrR a b x h k = ⟨glue a b (placesK k.nodes h.nodes k.nodes.length) (placesK k.edges h.edges k.edges.length), ⟨restK h.nodes k.nodes (placesK k.nodes h.nodes k.nodes.length) k.nodes.length, restK h.edges k.edges (placesK k.edges h.edges k.edges.length) k.edges.length⟩, 0⟩ := by
            simp [thrR, h1, h2, h3, h4]
          simp only [hRes]
          have hbn := hb.n
          have hbe := hb.e
          have hhn := hh.n
          have hhe := hh.e
          have hkn := hk.n
          have hke := hk.e
          have hPl : (placesK k.nodes h.nodes k.nodes.length).length = k.nodes.length := by simp
          have hQl : (placesK k.edges h.edges k.edges.length).length = k.edges.length := by simp
          clear hRes
          generalize placesK k.nodes h.nodes k.nodes.length = P at *
          generalize placesK k.edges h.edges k.edges.length = Q at *
          have hxb := validG_edges v2.va
          have vln := v2.ln
          have vle := v2.le
          repeat (first | refine AL.seq ?_ | refine AL.block ?_ | refine AL.skip ?_ | refine AL.blk ?_)
          refine AL.region follows_Try (Nat.le_refl _) (by kernel_rfl) ?_
          simp
          refine Stop.of_d (glued_c a b P Q ha v1.va (by omega) (by omega) (by omega) (by omega) (fun i _ h2 _ => by obtain ⟨e1, e2, e3, e4⟩ := hxb _ (List.getElem_mem h2); omega) _ _) ?_
          simp
          generalize glue a b P Q = o at *
          repeat (first | refine AL.seq ?_ | refine AL.block ?_ | refine AL.skip ?_ | refine AL.blk ?_)
          refine AL.region follows_Try (Nat.le_refl _) (by kernel_rfl) ?_
          simp
          refine Stop.of_d (clone_c h.nodes hhn _ _) ?_
          simp
          refine Stop.of_d (clone_c h.edges hhe _ _) ?_
          simp
          repeat (first | refine AL.seq ?_ | refine AL.block ?_ | refine AL.skip ?_ | refine AL.blk ?_)
          refine AL.region follows_Try (Nat.le_refl _) (by kernel_rfl) ?_
          simp
          repeat (first | refine AL.seq ?_ | refine AL.block ?_ | refine AL.skip ?_ | refine AL.blk ?_)
          have htk0 := (TK.start htok).full.app.full.app.swap
          refine AL.loopT (st28a h k o P Q nb box) (fun y => y.i ≤ P.length ∧ TK tok nt y.tok y.nt [y.o1, y.o2]) (fun y => P.length - y.i) ⟨0, .tok nt, .tok (nt + 1), _, _⟩ ⟨Nat.zero_le _, htk0⟩ (Weaks.mk htk0.le rfl (by simp [ToL, lk]) (by simp [BoxL, lk, restK])) ?_
          rintro ⟨i, o1, o2, tok', nt'⟩ S ⟨hi, htk⟩ hS
          simp only [st28a] at hS hi htk
          subst hS
          have hw : IntKind.i64.wrap (↑i + 1) = ((i + 1 : Nat) : Int) := by rw [wrap_in (by omega) (by omega)]; rfl
          have hrl := restK_len h.nodes k.nodes P i
          repeat (first | refine AL.seq ?_ | refine AL.block ?_ | refine AL.skip ?_ | refine AL.blk ?_)
          refine AL.region follows_Try (Nat.le_refl _) (by kernel_rfl) ?_
          simp
          repeat (first | refine AL.seq ?_ | refine AL.block ?_ | refine AL.skip ?_ | refine AL.blk ?_)
          refine AL.cond ?_
          simp
          refine ⟨fun hlt => ?_, fun hge => ?_⟩
          · have hik : i < k.nodes.length := by omega
            have gP : P.getD i 0 = P[i] := by simp [hlt]
            have gk : k.nodes.getD i 0 = k.nodes[i] := by simp [hik]
            repeat (first | refine AL.seq ?_ | refine AL.block ?_ | refine AL.skip ?_ | refine AL.blk ?_)
            refine AL.region follows_Try (Nat.le_refl _) (by kernel_rfl) ?_
            simp [hlt]
            repeat (first | refine AL.seq ?_ | refine AL.block ?_ | refine AL.skip ?_ | refine AL.blk ?_)
            refine AL.region follows_Try (Nat.le_refl _) (by kernel_rfl) ?_
            simp
            repeat (first | refine AL.seq ?_ | refine AL.block ?_ | refine AL.skip ?_ | refine AL.blk ?_)
            refine AL.cond ?_
            simp
            refine ⟨fun hneg => ?_, fun hpos => ?_⟩
            · repeat (first | refine AL.seq ?_ | refine AL.block ?_ | refine AL.skip ?_ | refine AL.blk ?_)
              refine AL.region follows_Try (Nat.le_refl _) (by kernel_rfl) ?_
              simp [hik]
              refine ⟨⟨by omega, htk.live⟩, ?_⟩
              repeat (first | refine AL.seq ?_ | refine AL.block ?_ | refine AL.skip ?_ | refine AL.blk ?_)
              refine AL.region follows_Try (Nat.le_refl _) (by kernel_rfl) ?_
              simp [hw]
              repeat (first | refine AL.seq ?_ | refine AL.block ?_ | refine AL.skip ?_ | refine AL.blk ?_)
              refine AL.nil ?_
              have hK : restK h.nodes k.nodes P (i + 1) = restK h.nodes k.nodes P i ++ [k.nodes[i]] := by simp only [restK, gP, gk, hneg, ↓reduceIte]
              exact ⟨⟨i + 1, _, _, _, _⟩, ⟨hlt, htk.app⟩, by simp; omega, Weaks.mk htk.app.le rfl (by simp [ToL, lk]) (by simp [BoxL, lk, hK])⟩
            · repeat (first | refine AL.seq ?_ | refine AL.block ?_ | refine AL.skip ?_ | refine AL.blk ?_)
              refine AL.region follows_Try (Nat.le_refl _) (by kernel_rfl) ?_
              simp [hw]
              repeat (first | refine AL.seq ?_ | refine AL.block ?_ | refine AL.skip ?_ | refine AL.blk ?_)
              refine AL.nil ?_
              have hK : restK h.nodes k.nodes P (i + 1) = restK h.nodes k.nodes P i := by simp only [restK, gP]; rw [if_neg (by omega)]
              exact ⟨⟨i + 1, _, _, _, _⟩, ⟨hlt, htk⟩, by simp; omega, Weaks.mk htk.le rfl (by simp [ToL, lk]) (by simp [BoxL, lk, hK])⟩
          · repeat (first | refine AL.seq ?_ | refine AL.block ?_ | refine AL.skip ?_ | refine AL.blk ?_)
            refine AL.exit ?_
            simp only [AU, ↓reduceIte]
            have : i = P.length := by omega
            subst this
            repeat (first | refine AL.seq ?_ | refine AL.block ?_ | refine AL.skip ?_ | refine AL.blk ?_)
            refine AL.region follows_Try (Nat.le_refl _) (by kernel_rfl) ?_
            simp
            repeat (first | refine AL.seq ?_ | refine AL.block ?_ | refine AL.skip ?_ | refine AL.blk ?_)
            have htk2 := htk.tail
            refine AL.loopT (st28b h k o P Q nb box) (fun y => y.i ≤ Q.length ∧ TK tok nt y.tok y.nt [y.own]) (fun y => Q.length - y.i) ⟨0, o2, tok', nt'⟩ ⟨Nat.zero_le _, htk2⟩ (Weaks.mk htk2.le rfl (by simp [ToL, lk]) (by simp [BoxL, lk, restK])) ?_
            rintro ⟨i, o2, tok', nt'⟩ S ⟨hi, htk⟩ hS
            simp only [st28b] at hS hi htk
            subst hS
            have hw : IntKind.i64.wrap (↑i + 1) = ((i + 1 : Nat) : Int) := by rw [wrap_in (by omega) (by omega)]; rfl
            have hrl := restK_len h.edges k.edges Q i
            repeat (first | refine AL.seq ?_ | refine AL.block ?_ | refine AL.skip ?_ | refine AL.blk ?_)
            refine AL.region follows_Try (Nat.le_refl _) (by kernel_rfl) ?_
            simp
            repeat (first | refine AL.seq ?_ | refine AL.block ?_ | refine AL.skip ?_ | refine AL.blk ?_)
            refine AL.cond ?_
            simp
            refine ⟨fun hlt => ?_, fun hge => ?_⟩
            · have hik : i < k.edges.length := by omega
              have gP : Q.getD i 0 = Q[i] := by simp [hlt]
              have gk : k.edges.getD i 0 = k.edges[i] := by simp [hik]
              repeat (first | refine AL.seq ?_ | refine AL.block ?_ | refine AL.skip ?_ | refine AL.blk ?_)
              refine AL.region follows_Try (Nat.le_refl _) (by kernel_rfl) ?_
              simp [hlt]
              repeat (first | refine AL.seq ?_ | refine AL.block ?_ | refine AL.skip ?_ | refine AL.blk ?_)
              refine AL.region follows_Try (Nat.le_refl _) (by kernel_rfl) ?_
              simp
              repeat (first | refine AL.seq ?_ | refine AL.block ?_ | refine AL.skip ?_ | refine AL.blk ?_)
              refine AL.cond ?_
              simp
              refine ⟨fun hneg => ?_, fun hpos => ?_⟩
              · repeat (first | refine AL.seq ?_ | refine AL.block ?_ | refine AL.skip ?_ | refine AL.blk ?_)
                refine AL.region follows_Try (Nat.le_refl _) (by kernel_rfl) ?_
                simp [hik]
                refine ⟨⟨by omega, htk.live⟩, ?_⟩
                repeat (first | refine AL.seq ?_ | refine AL.block ?_ | refine AL.skip ?_ | refine AL.blk ?_)
                refine AL.region follows_Try (Nat.le_refl _) (by kernel_rfl) ?_
                simp [hw]
                repeat (first | refine AL.seq ?_ | refine AL.block ?_ | refine AL.skip ?_ | refine AL.blk ?_)
                refine AL.nil ?_
                have hK : restK h.edges k.edges Q (i + 1) = restK h.edges k.edges Q i ++ [k.edges[i]] := by simp only [restK, gP, gk, hneg, ↓reduceIte]
                exact ⟨⟨i + 1, _, _, _⟩, ⟨hlt, htk.app⟩, by simp; omega, Weaks.mk htk.app.le rfl (by simp [ToL, lk]) (by simp [BoxL, lk, hK])⟩
              · repeat (first | refine AL.seq ?_ | refine AL.block ?_ | refine AL.skip ?_ | refine AL.blk ?_)
                refine AL.region follows_Try (Nat.le_refl _) (by kernel_rfl) ?_
                simp [hw]
                repeat (first | refine AL.seq ?_ | refine AL.block ?_ | refine AL.skip ?_ | refine AL.blk ?_)
                refine AL.nil ?_
                have hK : restK h.edges k.edges Q (i + 1) = restK h.edges k.edges Q i := by simp only [restK, gP]; rw [if_neg (by omega)]
                exact ⟨⟨i + 1, _, _, _⟩, ⟨hlt, htk⟩, by simp; omega, Weaks.mk htk.le rfl (by simp [ToL, lk]) (by simp [BoxL, lk, hK])⟩
            · repeat (first | refine AL.seq ?_ | refine AL.block ?_ | refine AL.skip ?_ | refine AL.blk ?_)
              refine AL.exit ?_
              simp only [AU, ↓reduceIte]
              have : i = Q.length := by omega
              subst this
              repeat (first | refine AL.seq ?_ | refine AL.block ?_ | refine AL.skip ?_ | refine AL.blk ?_)
              refine AL.region2 follows_Try (Nat.le_refl _) (by kernel_rfl) (Side.of (by simp)) ?_
              simp
              repeat (first | refine AL.seq ?_ | refine AL.block ?_ | refine AL.skip ?_ | refine AL.blk ?_)
              refine AL.ret ?_
              try simp only [AU]
              refine ⟨by simp, Fin.data (by simp [resAs, resA]; rfl) hbox rfl htok htk.old htk.le ?_⟩
              simp [packA, hPl, hQl]
        · simp [h4]
          repeat (first | refine AL.seq ?_ | refine AL.block ?_ | refine AL.skip ?_ | refine AL.blk ?_)
          refine AL.cond ?_
          simp
          repeat (first | refine AL.seq ?_ | refine AL.block ?_ | refine AL.skip ?_ | refine AL.blk ?_)
          refine AL.region follows_Try (Nat.le_refl _) (by kernel_rfl) ?_
          simp
          repeat (first | refine AL.seq ?_ | refine AL.block ?_ | refine AL.skip ?_ | refine AL.blk ?_)
          refine AL.ret ?_
          try simp only [AU]
          refine ⟨by simp, Fin.data (by simp [resAs, resA]; rfl) hbox rfl htok (fun _ h => h) (Nat.le_refl _) ?_⟩
          simp [packA, thrR, h1, h2, h3, h4, emptyO, ints, AM.edges]
      · simp [h3]
        repeat (first | refine AL.seq ?_ | refine AL.block ?_ | refine AL.skip ?_ | refine AL.blk ?_)
        refine AL.cond ?_
        simp
        repeat (first | refine AL.seq ?_ | refine AL.block ?_ | refine AL.skip ?_ | refine AL.blk ?_)
        refine AL.region follows_Try (Nat.le_refl _) (by kernel_rfl) ?_
        simp
        repeat (first | refine AL.seq ?_ | refine AL.block ?_ | refine AL.skip ?_ | refine AL.blk ?_)
        refine AL.ret ?_
        try simp only [AU]
        refine ⟨by simp, Fin.data (by simp [resAs, resA]; rfl) hbox rfl htok (fun _ h => h) (Nat.le_refl _) ?_⟩
        simp [packA, thrR, h1, h2, h3, emptyO, ints, AM.edges]
    · have hb1 : (validM b x k != 0) = true := by simp [h2]
      repeat (first | refine AL.seq ?_ | refine AL.block ?_ | refine AL.skip ?_ | refine AL.blk ?_)
      refine AL.region follows_Try (Nat.le_refl _) (by kernel_rfl) ?_
      simp [hb1]
      repeat (first | refine AL.seq ?_ | refine AL.block ?_ | refine AL.skip ?_ | refine AL.blk ?_)
      refine AL.cond ?_
      simp
      repeat (first | refine AL.seq ?_ | refine AL.block ?_ | refine AL.skip ?_ | refine AL.blk ?_)
      refine AL.region follows_Try (Nat.le_refl _) (by kernel_rfl) ?_
      simp
      repeat (first | refine AL.seq ?_ | refine AL.block ?_ | refine AL.skip ?_ | refine AL.blk ?_)
      refine AL.ret ?_
      try simp only [AU]
      refine ⟨by simp, Fin.data (by simp [resAs, resA]; rfl) hbox rfl htok (fun _ h => h) (Nat.le_refl _) ?_⟩
      simp [packA, thrR, h1, h2, emptyO, ints, AM.edges]
  · have hb1 : (validM a x h != 0) = true := by simp [h1]
    repeat (first | refine AL.seq ?_ | refine AL.block ?_ | refine AL.skip ?_ | refine AL.blk ?_)
    refine AL.region follows_Try (Nat.le_refl _) (by kernel_rfl) ?_
    simp [hb1]
    repeat (first | refine AL.seq ?_ | refine AL.block ?_ | refine AL.skip ?_ | refine AL.blk ?_)
    refine AL.cond ?_
    simp
    repeat (first | refine AL.seq ?_ | refine AL.block ?_ | refine AL.skip ?_ | refine AL.blk ?_)
    refine AL.region follows_Try (Nat.le_refl _) (by kernel_rfl) ?_
    simp
    repeat (first | refine AL.seq ?_ | refine AL.block ?_ | refine AL.skip ?_ | refine AL.blk ?_)
    refine AL.ret ?_
    try simp only [AU]
    refine ⟨by simp, Fin.data (by simp [resAs, resA]; rfl) hbox rfl htok (fun _ h => h) (Nat.le_refl _) ?_⟩
    simp [packA, thrR, h1, emptyO, ints, AM.edges]
end Go.AM
namespace Go.AM
open Go Go.Proofs
set_option linter.unusedSimpArgs false
set_option linter.unusedVariables false

/-! ### ref13.Through -/
def st29a (a b : Gr) (h k : Mo) (nb : Nat) (box : Nat → Option (List (List AV))) (y : Acc4) : AState :=
  ⟨tl [(16, .osl 1 (rI (placesK k.nodes h.nodes y.i)) y.o3), (17, .osl 0 [] .full), (18, I y.i), (5, .ptr (nb + 5) 0 0), (6, .ptr (nb + 6) 0 0), (8, .ptr (nb + 8) 0 0), (9, .ptr (nb + 9) 0 0), (10, .ptr (nb + 10) 0 0), (11, .ptr (nb + 11) 0 0), (15, .ptr (nb + 15) 0 0)],
    lb nb box [(5, [[.d (ints a.nodes), .d (AM.edges a.edges)]]), (6, [[.d (ints b.nodes), .d (AM.edges b.edges)]]), (8, [[.d (ints h.nodes), .d (ints h.edges)]]), (9, [[.d (ints k.nodes), .d (ints k.edges)]]), (10, [[.bot, .bot, .bot, .bot, .bot, .bot]]), (11, [[.bot, .bot]]),
      (15, [[.osl 1 (rI (restK h.nodes k.nodes (placesK k.nodes h.nodes k.nodes.length) y.i)) y.o1, .osl 1 (rI h.edges) y.o2]])], y.tok, y.nt⟩

def st29b (a b : Gr) (h k : Mo) (P R : List Int) (nb : Nat) (box : Nat → Option (List (List AV))) (y : Acc2) : AState :=
  ⟨tl [(16, .d (ints P)), (17, .osl 1 (rI (placesK k.edges h.edges y.i)) y.o1), (19, I y.i), (5, .ptr (nb + 5) 0 0), (6, .ptr (nb + 6) 0 0), (8, .ptr (nb + 8) 0 0), (9, .ptr (nb + 9) 0 0), (10, .ptr (nb + 10) 0 0), (11, .ptr (nb + 11) 0 0), (15, .ptr (nb + 15) 0 0)],
    lb nb box [(5, [[.d (ints a.nodes), .d (AM.edges a.edges)]]), (6, [[.d (ints b.nodes), .d (AM.edges b.edges)]]), (8, [[.d (ints h.nodes), .d (ints h.edges)]]), (9, [[.d (ints k.nodes), .d (ints k.edges)]]), (10, [[.bot, .bot, .bot, .bot, .bot, .bot]]), (11, [[.bot, .bot]]),
      (15, [[.d (ints R), .osl 1 (rI (restK h.edges k.edges (placesK k.edges h.edges k.edges.length) y.i)) y.o2]])], y.tok, y.nt⟩

def st29c (a b : Gr) (P Q R T : List Int) (nb : Nat) (box : Nat → Option (List (List AV))) (tok : Nat → Bool) (nt : Nat) : AState :=
  ⟨tl [(16, .d (ints P)), (17, .d (ints Q)), (5, .ptr (nb + 5) 0 0), (6, .ptr (nb + 6) 0 0), (10, .ptr (nb + 10) 0 0), (11, .ptr (nb + 11) 0 0), (15, .ptr (nb + 15) 0 0)],
    lb nb box [(5, [[.d (ints a.nodes), .d (AM.edges a.edges)]]), (6, [[.d (ints b.nodes), .d (AM.edges b.edges)]]), (10, [[.bot, .bot, .bot, .bot, .bot, .bot]]), (11, [[.bot, .bot]]),
      (15, [[.d (ints R), .d (ints T)]])], tok, nt⟩

theorem through29_c (a b x : Gr) (h k : Mo) (ha : a.Fit) (hb : b.Fit) (hx : x.Fit) (hh : h.Fit) (hk : k.Fit) (tok : Nat → Bool) (nt : Nat) :
    DCall Try.prog 29 [a.av, b.av, x.av, h.av, k.av] tok nt (.tup [(thrR a b x h k).o.av, (thrR a b x h k).m.av, I (thrR a b x h k).e]) tok nt := by
  intro box nb
  refine ACalls.of_body Try.func29 rfl (by kernel_rfl) follows_Try (by kernel_rfl) (by simp [Try.ntmps29]) ?_
  intro hbox htok
  simp only at hbox htok
  apply AL.start
  repeat (first | refine AL.seq ?_ | refine AL.block ?_ | refine AL.skip ?_ | refine AL.blk ?_)
  refine AL.region follows_Try (Nat.le_refl _) (by kernel_rfl) ?_
  simp
  repeat (first | refine AL.seq ?_ | refine AL.block ?_ | refine AL.skip ?_ | refine AL.blk ?_)
  refine AL.region follows_Try (Nat.le_refl _) (by kernel_rfl) ?_
  simp
  refine Stop.of_d (valid53_c a x h ha hx _ _) ?_
  simp
  by_cases h1 : validM a x h = 0
  · repeat (first | refine AL.seq ?_ | refine AL.block ?_ | refine AL.skip ?_ | refine AL.blk ?_)
    refine AL.region follows_Try (Nat.le_refl _) (by kernel_rfl) ?_
    simp [h1]
    repeat (first | refine AL.seq ?_ | refine AL.block ?_ | refine AL.skip ?_ | refine AL.blk ?_)
    refine AL.cond ?_
    simp
    repeat (first | refine AL.seq ?_ | refine AL.block ?_ | refine AL.skip ?_ | refine AL.blk ?_)
    refine AL.region follows_Try (Nat.le_refl _) (by kernel_rfl) ?_
    simp
    refine Stop.of_d (valid53_c b x k hb hx _ _) ?_
    simp
    by_cases h2 : validM b x k = 0
    · repeat (first | refine AL.seq ?_ | refine AL.block ?_ | refine AL.skip ?_ | refine AL.blk ?_)
      refine AL.region follows_Try (Nat.le_refl _) (by kernel_rfl) ?_
      simp [h2]
      repeat (first | refine AL.seq ?_ | refine AL.block ?_ | refine AL.skip ?_ | refine AL.blk ?_)
      refine AL.cond ?_
      simp
      repeat (first | refine AL.seq ?_ | refine AL.block ?_ | refine AL.skip ?_ | refine AL.blk ?_)
      refine AL.region follows_Try (Nat.le_refl _) (by kernel_rfl) ?_
      simp
      refine Stop.of_d (injective26_c a x h ha hx hh _ _) ?_
      simp
      by_cases h3 : injM a x h = true
      · simp [h3]
        refine Stop.of_d (injective26_c b x k hb hx hk _ _) ?_
        simp [h3]
        by_cases h4 : injM b x k = true
        · simp [h4]
          repeat (first | refine AL.seq ?_ | refine AL.block ?_ | refine AL.skip ?_ | refine AL.blk ?_)
          refine AL.cond ?_
          simp
          have v1 := validM_VM h1
          have v2 := validM_VM h2
          have hRes : thrR a b x h k = ⟨glue a b (placesK k.nodes h.nodes k.nodes.length) (placesK k.edges h.edges k.edges.length), ⟨restK h.nodes k.nodes (placesK k.nodes h.nodes k.nodes.length) k.nodes.length, restK h.edges k.edges (placesK k.edges h.edges k.edges.length) k.edges.length⟩, 0⟩ := by
            simp [thrR, h1, h2, h3, h4]
          simp only [hRes]
          have hbn := hb.n
          have hbe := hb.e
          have hhn := hh.n
          have hhe := hh.e
          have hkn := hk.n
          have hke := hk.e
          clear hRes
          have hxb := validG_edges v2.va
          have vln := v2.ln
          have vle := v2.le
          repeat (first | refine AL.seq ?_ | refine AL.block ?_ | refine AL.skip ?_ | refine AL.blk ?_)
          refine AL.region follows_Try (Nat.le_refl _) (by kernel_rfl) ?_
          simp
          refine ⟨by omega, by omega, ?_⟩
          repeat (first | refine AL.seq ?_ | refine AL.block ?_ | refine AL.skip ?_ | refine AL.blk ?_)
          refine AL.region follows_Try (Nat.le_refl _) (by kernel_rfl) ?_
          simp
          repeat (first | refine AL.seq ?_ | refine AL.block ?_ | refine AL.skip ?_ | refine AL.blk ?_)
          refine AL.region follows_Try (Nat.le_refl _) (by kernel_rfl) ?_
          simp
          repeat (first | refine AL.seq ?_ | refine AL.block ?_ | refine AL.skip ?_ | refine AL.blk ?_)
          have htk0 := (TK.start htok).full.app.full.app.swap.full
          refine AL.loopT (st29a a b h k nb box) (fun y => y.i ≤ k.nodes.length ∧ TK tok nt y.tok y.nt [y.o3, y.o1, y.o2]) (fun y => k.nodes.length - y.i) ⟨0, .tok nt, .tok (nt + 1), .full, .full, _, _⟩ ⟨Nat.zero_le _, htk0⟩ (Weaks.mk htk0.le rfl (by simp [ToL, lk, placesK_zero]) (by simp [BoxL, lk, restK])) ?_
          rintro ⟨i, o1, o2, o3, o4, tok', nt'⟩ S ⟨hi, htk⟩ hS
          simp only [st29a] at hS hi htk
          subst hS
          have hw : IntKind.i64.wrap (↑i + 1) = ((i + 1 : Nat) : Int) := by rw [wrap_in (by omega) (by omega)]; rfl
          have hrl := restK_len h.nodes k.nodes (placesK k.nodes h.nodes k.nodes.length) i
          repeat (first | refine AL.seq ?_ | refine AL.block ?_ | refine AL.skip ?_ | refine AL.blk ?_)
          refine AL.region follows_Try (Nat.le_refl _) (by kernel_rfl) ?_
          simp
          repeat (first | refine AL.seq ?_ | refine AL.block ?_ | refine AL.skip ?_ | refine AL.blk ?_)
          refine AL.cond ?_
          simp
          refine ⟨fun hlt => ?_, fun hge => ?_⟩
          · have gP : (placesK k.nodes h.nodes k.nodes.length).getD i 0 = indexI h.nodes k.nodes[i] := by simp [placesK, hlt]
            have gk : k.nodes.getD i 0 = k.nodes[i] := by simp [hlt]
            have hmn : min i k.nodes.length = i := by omega
            repeat (first | refine AL.seq ?_ | refine AL.block ?_ | refine AL.skip ?_ | refine AL.blk ?_)
            refine AL.region follows_Try (Nat.le_refl _) (by kernel_rfl) ?_
            simp [hlt]
            refine Stop.of_d (index60_c h.nodes k.nodes[i] hhn _ _) ?_
            simp
            refine ⟨⟨by omega, htk.live⟩, ?_⟩
            have htk1 := htk.app
            repeat (first | refine AL.seq ?_ | refine AL.block ?_ | refine AL.skip ?_ | refine AL.blk ?_)
            refine AL.region follows_Try (Nat.le_refl _) (by kernel_rfl) ?_
            simp [hmn]
            refine ⟨by omega, ?_⟩
            repeat (first | refine AL.seq ?_ | refine AL.block ?_ | refine AL.skip ?_ | refine AL.blk ?_)
            refine AL.cond ?_
            simp
            refine ⟨fun hneg => ?_, fun hpos => ?_⟩
            · repeat (first | refine AL.seq ?_ | refine AL.block ?_ | refine AL.skip ?_ | refine AL.blk ?_)
              refine AL.region follows_Try (Nat.le_refl _) (by kernel_rfl) ?_
              simp [hlt]
              refine ⟨⟨by omega, by simpa using htk1.swap.live⟩, ?_⟩
              have htk2 := htk1.swap.app.swap
              repeat (first | refine AL.seq ?_ | refine AL.block ?_ | refine AL.skip ?_ | refine AL.blk ?_)
              refine AL.region follows_Try (Nat.le_refl _) (by kernel_rfl) ?_
              simp [hw]
              repeat (first | refine AL.seq ?_ | refine AL.block ?_ | refine AL.skip ?_ | refine AL.blk ?_)
              refine AL.nil ?_
              have hK : restK h.nodes k.nodes (placesK k.nodes h.nodes k.nodes.length) (i + 1) = restK h.nodes k.nodes (placesK k.nodes h.nodes k.nodes.length) i ++ [k.nodes[i]] := by simp only [restK, gP, gk, hneg, ↓reduceIte]
              exact ⟨⟨i + 1, _, _, _, .full, _, _⟩, ⟨hlt, htk2⟩, by simp; omega, Weaks.mk htk2.le rfl (by simp [ToL, lk, placesK_succ _ _ hlt]) (by simp [BoxL, lk, hK])⟩
            · repeat (first | refine AL.seq ?_ | refine AL.block ?_ | refine AL.skip ?_ | refine AL.blk ?_)
              refine AL.region follows_Try (Nat.le_refl _) (by kernel_rfl) ?_
              simp [hw]
              repeat (first | refine AL.seq ?_ | refine AL.block ?_ | refine AL.skip ?_ | refine AL.blk ?_)
              refine AL.nil ?_
              have hK : restK h.nodes k.nodes (placesK k.nodes h.nodes k.nodes.length) (i + 1) = restK h.nodes k.nodes (placesK k.nodes h.nodes k.nodes.length) i := by simp only [restK, gP]; rw [if_neg (by omega)]
              exact ⟨⟨i + 1, _, _, _, .full, _, _⟩, ⟨hlt, htk1⟩, by simp; omega, Weaks.mk htk1.le rfl (by simp [ToL, lk, placesK_succ _ _ hlt]) (by simp [BoxL, lk, hK])⟩
          · repeat (first | refine AL.seq ?_ | refine AL.block ?_ | refine AL.skip ?_ | refine AL.blk ?_)
            refine AL.exit ?_
            simp only [AU, ↓reduceIte]
            have : i = k.nodes.length := by omega
            subst this
            repeat (first | refine AL.seq ?_ | refine AL.block ?_ | refine AL.skip ?_ | refine AL.blk ?_)
            refine AL.region follows_Try (Nat.le_refl _) (by kernel_rfl) ?_
            simp
            repeat (first | refine AL.seq ?_ | refine AL.block ?_ | refine AL.skip ?_ | refine AL.blk ?_)
            have htk3 := htk.tail.tail.full
            have hPl : (placesK k.nodes h.nodes k.nodes.length).length = k.nodes.length := by simp
            have hQl : (placesK k.edges h.edges k.edges.length).length = k.edges.length := by simp
            clear htk hrl htk0
            generalize restK h.nodes k.nodes (placesK k.nodes h.nodes k.nodes.length) k.nodes.length = R at *
            generalize placesK k.nodes h.nodes k.nodes.length = P at *
            refine AL.loopT (st29b a b h k P R nb box) (fun y => y.i ≤ k.edges.length ∧ TK tok nt y.tok y.nt [y.o1, y.o2]) (fun y => k.edges.length - y.i) ⟨0, .full, o2, _, _⟩ ⟨Nat.zero_le _, htk3⟩ (Weaks.mk htk3.le rfl (by simp [ToL, lk, placesK_zero]) (by simp [BoxL, lk, restK])) ?_
            rintro ⟨i, o3, o2, tok', nt'⟩ S ⟨hi, htk⟩ hS
            simp only [st29b] at hS hi htk
            subst hS
            have hw : IntKind.i64.wrap (↑i + 1) = ((i + 1 : Nat) : Int) := by rw [wrap_in (by omega) (by omega)]; rfl
            have hrl := restK_len h.edges k.edges (placesK k.edges h.edges k.edges.length) i
            repeat (first | refine AL.seq ?_ | refine AL.block ?_ | refine AL.skip ?_ | refine AL.blk ?_)
            refine AL.region follows_Try (Nat.le_refl _) (by kernel_rfl) ?_
            simp
            repeat (first | refine AL.seq ?_ | refine AL.block ?_ | refine AL.skip ?_ | refine AL.blk ?_)
            refine AL.cond ?_
            simp
            refine ⟨fun hlt => ?_, fun hge => ?_⟩
            · have gP : (placesK k.edges h.edges k.edges.length).getD i 0 = indexI h.edges k.edges[i] := by simp [placesK, hlt]
              have gk : k.edges.getD i 0 = k.edges[i] := by simp [hlt]
              have hmn : min i k.edges.length = i := by omega
              repeat (first | refine AL.seq ?_ | refine AL.block ?_ | refine AL.skip ?_ | refine AL.blk ?_)
              refine AL.region follows_Try (Nat.le_refl _) (by kernel_rfl) ?_
              simp [hlt]
              refine Stop.of_d (index60_c h.edges k.edges[i] hhe _ _) ?_
              simp
              refine ⟨⟨by omega, htk.live⟩, ?_⟩
              have htk1 := htk.app
              repeat (first | refine AL.seq ?_ | refine AL.block ?_ | refine AL.skip ?_ | refine AL.blk ?_)
              refine AL.region follows_Try (Nat.le_refl _) (by kernel_rfl) ?_
              simp [hmn]
              refine ⟨by omega, ?_⟩
              repeat (first | refine AL.seq ?_ | refine AL.block ?_ | refine AL.skip ?_ | refine AL.blk ?_)
              refine AL.cond ?_
              simp
              refine ⟨fun hneg => ?_, fun hpos => ?_⟩
              · repeat (first | refine AL.seq ?_ | refine AL.block ?_ | refine AL.skip ?_ | refine AL.blk ?_)
                refine AL.region follows_Try (Nat.le_refl _) (by kernel_rfl) ?_
                simp [hlt]
                refine ⟨⟨by omega, by simpa using htk1.swap.live⟩, ?_⟩
                have htk2 := htk1.swap.app.swap
                repeat (first | refine AL.seq ?_ | refine AL.block ?_ | refine AL.skip ?_ | refine AL.blk ?_)
                refine AL.region follows_Try (Nat.le_refl _) (by kernel_rfl) ?_
                simp [hw]
                repeat (first | refine AL.seq ?_ | refine AL.block ?_ | refine AL.skip ?_ | refine AL.blk ?_)
                refine AL.nil ?_
                have hK : restK h.edges k.edges (placesK k.edges h.edges k.edges.length) (i + 1) = restK h.edges k.edges (placesK k.edges h.edges k.edges.length) i ++ [k.edges[i]] := by simp only [restK, gP, gk, hneg, ↓reduceIte]
                exact ⟨⟨i + 1, _, _, _, _⟩, ⟨hlt, htk2⟩, by simp; omega, Weaks.mk htk2.le rfl (by simp [ToL, lk, placesK_succ _ _ hlt]) (by simp [BoxL, lk, hK])⟩
              · repeat (first | refine AL.seq ?_ | refine AL.block ?_ | refine AL.skip ?_ | refine AL.blk ?_)
                refine AL.region follows_Try (Nat.le_refl _) (by kernel_rfl) ?_
                simp [hw]
                repeat (first | refine AL.seq ?_ | refine AL.block ?_ | refine AL.skip ?_ | refine AL.blk ?_)
                refine AL.nil ?_
                have hK : restK h.edges k.edges (placesK k.edges h.edges k.edges.length) (i + 1) = restK h.edges k.edges (placesK k.edges h.edges k.edges.length) i := by simp only [restK, gP]; rw [if_neg (by omega)]
                exact ⟨⟨i + 1, _, _, _, _⟩, ⟨hlt, htk1⟩, by simp; omega, Weaks.mk htk1.le rfl (by simp [ToL, lk, placesK_succ _ _ hlt]) (by simp [BoxL, lk, hK])⟩
            · repeat (first | refine AL.seq ?_ | refine AL.block ?_ | refine AL.skip ?_ | refine AL.blk ?_)
              refine AL.exit ?_
              simp only [AU, ↓reduceIte]
              have : i = k.edges.length := by omega
              subst this
              refine AL.weak (S' := st29c a b P (placesK k.edges h.edges k.edges.length) R (restK h.edges k.edges (placesK k.edges h.edges k.edges.length) k.edges.length) nb box tok' nt') (Weaks.mk htk.le rfl (by simp [ToL, lk]) (by simp [BoxL, lk])) ?_
              generalize placesK k.edges h.edges k.edges.length = Q at *
              simp only [st29c]
              repeat (first | refine AL.seq ?_ | refine AL.block ?_ | refine AL.skip ?_ | refine AL.blk ?_)
              refine AL.region2 follows_Try (Nat.le_refl _) (by kernel_rfl) (Side.of (by simp)) ?_
              simp
              refine Stop.of_d (overlap_c a b P Q ha (by omega) (by omega) (by omega) (by omega) (fun i _ h2 _ => by obtain ⟨e1, e2, e3, e4⟩ := hxb _ (List.getElem_mem h2); omega) _ _) ?_
              generalize glue a b P Q = o at *
              simp
              repeat (first | refine AL.seq ?_ | refine AL.block ?_ | refine AL.skip ?_ | refine AL.blk ?_)
              refine AL.ret ?_
              try simp only [AU]
              refine ⟨by simp, Fin.data (by simp [resAs, resA]; rfl) hbox rfl htok htk.old htk.le ?_⟩
              simp [packA, ]
        · simp [h4]
          repeat (first | refine AL.seq ?_ | refine AL.block ?_ | refine AL.skip ?_ | refine AL.blk ?_)
          refine AL.cond ?_
          simp
          repeat (first | refine AL.seq ?_ | refine AL.block ?_ | refine AL.skip ?_ | refine AL.blk ?_)
          refine AL.region follows_Try (Nat.le_refl _) (by kernel_rfl) ?_
          simp
          repeat (first | refine AL.seq ?_ | refine AL.block ?_ | refine AL.skip ?_ | refine AL.blk ?_)
          refine AL.ret ?_
          try simp only [AU]
          refine ⟨by simp, Fin.data (by simp [resAs, resA]; rfl) hbox rfl htok (fun _ h => h) (Nat.le_refl _) ?_⟩
          simp [packA, thrR, h1, h2, h3, h4, emptyO, ints, AM.edges]
      · simp [h3]
        repeat (first | refine AL.seq ?_ | refine AL.block ?_ | refine AL.skip ?_ | refine AL.blk ?_)
        refine AL.cond ?_
        simp
        repeat (first | refine AL.seq ?_ | refine AL.block ?_ | refine AL.skip ?_ | refine AL.blk ?_)
        refine AL.region follows_Try (Nat.le_refl _) (by kernel_rfl) ?_
        simp
        repeat (first | refine AL.seq ?_ | refine AL.block ?_ | refine AL.skip ?_ | refine AL.blk ?_)
        refine AL.ret ?_
        try simp only [AU]
        refine ⟨by simp, Fin.data (by simp [resAs, resA]; rfl) hbox rfl htok (fun _ h => h) (Nat.le_refl _) ?_⟩
        simp [packA, thrR, h1, h2, h3, emptyO, ints, AM.edges]
    · have hb1 : (validM b x k != 0) = true := by simp [h2]
      repeat (first | refine AL.seq ?_ | refine AL.block ?_ | refine AL.skip ?_ | refine AL.blk ?_)
      refine AL.region follows_Try (Nat.le_refl _) (by kernel_rfl) ?_
      simp [hb1]
      repeat (first | refine AL.seq ?_ | refine AL.block ?_ | refine AL.skip ?_ | refine AL.blk ?_)
      refine AL.cond ?_
      simp
      repeat (first | refine AL.seq ?_ | refine AL.block ?_ | refine AL.skip ?_ | refine AL.blk ?_)
      refine AL.region follows_Try (Nat.le_refl _) (by kernel_rfl) ?_
      simp
      repeat (first | refine AL.seq ?_ | refine AL.block ?_ | refine AL.skip ?_ | refine AL.blk ?_)
      refine AL.ret ?_
      try simp only [AU]
      refine ⟨by simp, Fin.data (by simp [resAs, resA]; rfl) hbox rfl htok (fun _ h => h) (Nat.le_refl _) ?_⟩
      simp [packA, thrR, h1, h2, emptyO, ints, AM.edges]
  · have hb1 : (validM a x h != 0) = true := by simp [h1]
    repeat (first | refine AL.seq ?_ | refine AL.block ?_ | refine AL.skip ?_ | refine AL.blk ?_)
    refine AL.region follows_Try (Nat.le_refl _) (by kernel_rfl) ?_
    simp [hb1]
    repeat (first | refine AL.seq ?_ | refine AL.block ?_ | refine AL.skip ?_ | refine AL.blk ?_)
    refine AL.cond ?_
    simp
    repeat (first | refine AL.seq ?_ | refine AL.block ?_ | refine AL.skip ?_ | refine AL.blk ?_)
    refine AL.region follows_Try (Nat.le_refl _) (by kernel_rfl) ?_
    simp
    repeat (first | refine AL.seq ?_ | refine AL.block ?_ | refine AL.skip ?_ | refine AL.blk ?_)
    refine AL.ret ?_
    try simp only [AU]
    refine ⟨by simp, Fin.data (by simp [resAs, resA]; rfl) hbox rfl htok (fun _ h => h) (Nat.le_refl _) ?_⟩
    simp [packA, thrR, h1, emptyO, ints, AM.edges]
end Go.AM
/-
  The plain law of Through: the two morphisms go through the gluing along the places that they share, and what is left is injective. No program in sight.
-/
namespace Go.AM
open Go
set_option linter.unusedSimpArgs false
set_option linter.unusedVariables false

theorem indexI_cases (h : List Int) (v : Int) : (v ∉ h ∧ indexI h v = -1) ∨ ∃ j : Nat, j < h.length ∧ indexI h v = j ∧ h.getD j 0 = v := by
  unfold indexI
  by_cases hv : v ∈ h
  · right
    rw [if_pos hv]
    have hj : h.idxOf v < h.length := List.idxOf_lt_length_iff.2 hv
    exact ⟨h.idxOf v, hj, rfl, by rw [List.getD_eq_getElem?_getD, List.getElem?_eq_getElem hj]; simp⟩
  · left
    rw [if_neg hv]
    exact ⟨hv, rfl⟩
theorem getD_inj {h : List Int} (hn : h.Nodup) {i j : Nat} (hi : i < h.length) (hj : j < h.length) (e : h.getD i 0 = h.getD j 0) : i = j := by
  rw [List.getD_eq_getElem?_getD, List.getD_eq_getElem?_getD, List.getElem?_eq_getElem hi, List.getElem?_eq_getElem hj] at e
  rcases Nat.lt_trichotomy i j with h1 | h1 | h1
  · exact absurd e (List.pairwise_iff_getElem.1 hn i j hi hj h1)
  · exact h1
  · exact absurd e.symm (List.pairwise_iff_getElem.1 hn j i hj hi h1)
theorem indexI_at {h : List Int} (hn : h.Nodup) {j : Nat} (hj : j < h.length) : indexI h (h.getD j 0) = j := by
  rcases indexI_cases h (h.getD j 0) with ⟨h1, _⟩ | ⟨q, q1, q2, q3⟩
  · exact absurd (getD_mem hj) h1
  · rw [q2, getD_inj hn q1 hj q3]
theorem placesK_getD {k h : List Int} {i : Nat} (hi : i < k.length) : (placesK k h k.length).getD i 0 = indexI h (k.getD i 0) := by
  simp [placesK, hi]

theorem places_isM {h k : List Int} (hk : k.Nodup) (ok : Nat → Nat → Bool) {na nb : Nat} (hl : h.length = na) (hb : k.length = nb) (hok : ∀ i j, i < nb → j < na → h.getD j 0 = k.getD i 0 → ok i j = true) : isM ok na nb (placesK k h k.length) := by
  refine ⟨by simp [hb], fun i hi => ?_⟩
  unfold okAt
  rw [placesK_getD (by omega)]
  rcases indexI_cases h (k.getD i 0) with ⟨_, h2⟩ | ⟨j, h1, h2, h3⟩
  · exact .inl h2
  · refine .inr ⟨j, h2, by omega, hok i j hi (by omega) h3, fun hm => ?_⟩
    rw [List.mem_take_iff_getElem] at hm
    obtain ⟨q, hq, e⟩ := hm
    have hqi : q < i := by omega
    have hql : q < k.length := by omega
    have e2 : (placesK k h k.length).getD q 0 = (j : Int) := by
      rw [List.getD_eq_getElem?_getD, List.getElem?_eq_getElem (by simp; omega)]
      exact e
    rw [placesK_getD hql] at e2
    rcases indexI_cases h (k.getD q 0) with ⟨_, f2⟩ | ⟨j', f1, f2, f3⟩
    · omega
    · have : j' = j := by omega
      subst this
      have := getD_inj hk hql (show i < k.length by omega) (by rw [← f3, h3])
      omega

structure RI (h k r : List Int) (i : Nat) (R : List Int) (gl : Nat) : Prop where
  len : R.length = gl
  pre : ∃ t, R = h ++ t
  val : ∀ j, j < i → R.getD (r.getD j 0).toNat 0 = k.getD j 0
  mem : ∀ y ∈ R, y ∈ h ∨ ∃ j, j < i ∧ y = k.getD j 0
  nodup : R.Nodup

theorem rest_ri {α : Type} [Inhabited α] {an bn : List α} {h k : List Int} (hl : h.length = an.length) (hb : k.length = bn.length) (hh : h.Nodup) (hk : k.Nodup) {ok : Nat → Nat → Bool} (hM : isM ok an.length bn.length (placesK k h k.length))
    (hok : ∀ i k, i < bn.length → k < an.length → ok i k = true → an.getD k default = bn.getD i default) :
    ∀ i, i ≤ bn.length → RI h k (glueG an bn (placesK k h k.length) i).2 i (restK h k (placesK k h k.length) i) (glueG an bn (placesK k h k.length) i).1.length
  | 0, _ => ⟨by simp [restK, glueG, hl], ⟨[], by simp [restK]⟩, fun j hj => absurd hj (Nat.not_lt_zero _), fun y hy => .inl hy, hh⟩
  | i + 1, hi => by
    have ih := rest_ri hl hb hh hk hM hok i (by omega)
    have g := glue_gi hM hok i (by omega)
    have hik : i < k.length := by omega
    simp only [restK, glueG, placesK_getD hik]
    generalize hrn : (glueG an bn (placesK k h k.length) i).1 = rn at ih g ⊢
    generalize hr : (glueG an bn (placesK k h k.length) i).2 = r at ih g ⊢
    generalize hR : restK h k (placesK k h k.length) i = R at ih ⊢
    obtain ⟨t, ht⟩ := ih.pre
    have hlen := g.len
    have hRl := ih.len
    rcases indexI_cases h (k.getD i 0) with ⟨hnot, h2⟩ | ⟨q, q1, q2, q3⟩
    · rw [if_pos (by omega), if_pos (by omega)]
      have old : ∀ j, j < i → (r ++ [(rn.length : Int)]).getD j 0 = r.getD j 0 := fun j hj => getD_lt (by omega)
      have new : (r ++ [(rn.length : Int)]).getD i 0 = rn.length := by rw [← hlen]; exact getD_at
      refine ⟨by simp [hRl], ⟨t ++ [k.getD i 0], by rw [ht, List.append_assoc]⟩, fun j hj => ?_, fun y hy => ?_, ?_⟩
      · by_cases e : j = i
        · subst e; rw [new, Int.toNat_natCast, ← hRl]; exact getD_at
        · have := g.rng j (by omega)
          rw [old j (by omega), getD_lt (by omega)]; exact ih.val j (by omega)
      · rcases List.mem_append.1 hy with hy | hy
        · rcases ih.mem y hy with m | ⟨j, hj, e⟩
          · exact .inl m
          · exact .inr ⟨j, by omega, e⟩
        · exact .inr ⟨i, by omega, by simpa using hy⟩
      · refine List.nodup_append.2 ⟨ih.nodup, by simp, fun y hy z hz e => ?_⟩
        rw [List.mem_singleton] at hz
        subst hz
        subst e
        rcases ih.mem _ hy with m | ⟨j, hj, e⟩
        · exact hnot m
        · have := getD_inj hk hik (show j < k.length by omega) e
          omega
    · rw [if_neg (by omega), if_neg (by omega)]
      have old : ∀ j, j < i → (r ++ [indexI h (k.getD i 0)]).getD j 0 = r.getD j 0 := fun j hj => getD_lt (by omega)
      have new : (r ++ [indexI h (k.getD i 0)]).getD i 0 = indexI h (k.getD i 0) := by
        have : (r ++ [indexI h (k.getD i 0)]).getD r.length 0 = indexI h (k.getD i 0) := getD_at
        rw [hlen] at this; exact this
      refine ⟨hRl, ⟨t, ht⟩, fun j hj => ?_, fun y hy => ?_, ih.nodup⟩
      · by_cases e : j = i
        · subst e; rw [new, q2, Int.toNat_natCast, ht, getD_pre q1]; exact q3
        · rw [old j (by omega)]; exact ih.val j (by omega)
      · rcases ih.mem y hy with m | ⟨j, hj, e⟩
        · exact .inl m
        · exact .inr ⟨j, by omega, e⟩

theorem nodup_bound {l : List Int} {n : Nat} (h : l.Nodup) (hr : ∀ x ∈ l, 0 ≤ x ∧ x < n) : l.length ≤ n := by
  have := nodup_le l (iota n) h fun x hx => by
    have := hr x hx
    simp only [iota, List.mem_map, List.mem_range]
    exact ⟨x.toNat, by omega, by omega⟩
  simpa using this

theorem injM_iff (a b : Gr) (m : Mo) : injM a b m = true ↔ validM a b m = 0 ∧ m.nodes.Nodup ∧ m.edges.Nodup := by
  simp only [injM, Bool.and_eq_true, decide_eq_true_eq, distK_nodup]

theorem validM_of {a b : Gr} {m : Mo} (h : VM a b m) : validM a b m = 0 := by
  have z1 : firstE (nodeE a b m) a.nodes.length = 0 := firstE_zero _ fun i hi => by
    have := h.n _ (getD_mem (d := 0) (show i < m.nodes.length by rw [h.ln]; exact hi))
    unfold nodeE
    rw [if_neg (by omega), if_pos (h.nt i hi)]
  have z2 : firstE (edgeE a b m) a.edges.length = 0 := firstE_zero _ fun i hi => by
    have := h.e _ (getD_mem (d := 0) (show i < m.edges.length by rw [h.le]; exact hi))
    unfold edgeE
    rw [if_neg (by omega)]
    simp only [h.et i hi, ne_eq, not_true_eq_false, or_self, ↓reduceIte]
  unfold validM
  rw [if_neg (by simp [h.va]), if_neg (by simp [h.vb]), if_neg (by have := h.ln; have := h.le; omega), if_neg (by simp [z1]), z2]

theorem byK_ext {l by' t : List Int} (hl : l.length = t.length) (h : ∀ i, i < l.length → by'.getD (l.getD i 0).toNat 0 = t.getD i 0) : byK l by' l.length = t := by
  apply List.ext_getElem
  · simp [hl]
  · intro i h1 h2
    have hi : i < l.length := by omega
    have := h i hi
    simp only [List.getD_eq_getElem?_getD, List.getElem?_eq_getElem hi, List.getElem?_eq_getElem h2, Option.getD_some] at this
    simp only [byK, List.take_length, List.getElem_map, List.getD_eq_getElem?_getD]
    exact this

theorem mem_getD {l : List Int} {v : Int} (h : v ∈ l) : ∃ j, j < l.length ∧ l.getD j 0 = v := by
  obtain ⟨j, hj, e⟩ := List.getElem_of_mem h
  exact ⟨j, hj, by rw [List.getD_eq_getElem?_getD, List.getElem?_eq_getElem hj]; exact e⟩

theorem thr_law {a b x : Gr} {h k : Mo} (h1 : validM a x h = 0) (h2 : validM b x k = 0) (h3 : injM a x h = true) (h4 : injM b x k = true) :
    (thrR a b x h k).e = 0 ∧ compM a (thrR a b x h k).o.g x (thrR a b x h k).o.l (thrR a b x h k).m = (h, 0) ∧ compM b (thrR a b x h k).o.g x (thrR a b x h k).o.r (thrR a b x h k).m = (k, 0) ∧
      injM (thrR a b x h k).o.g x (thrR a b x h k).m = true ∧ (thrR a b x h k).o.Fit ∧ (thrR a b x h k).m.Fit := by
  have v1 := validM_VM h1
  have v2 := validM_VM h2
  obtain ⟨_, hn1, he1⟩ := (injM_iff a x h).1 h3
  obtain ⟨_, hn2, he2⟩ := (injM_iff b x k).1 h4
  have eT : thrR a b x h k = ⟨glue a b (placesK k.nodes h.nodes k.nodes.length) (placesK k.edges h.edges k.edges.length), ⟨restK h.nodes k.nodes (placesK k.nodes h.nodes k.nodes.length) k.nodes.length, restK h.edges k.edges (placesK k.edges h.edges k.edges.length) k.edges.length⟩, 0⟩ := by
    simp [thrR, h1, h2, h3, h4]
  rw [eT]
  simp only
  have ea := validG_edges v1.va
  have eb := validG_edges v2.va
  -- the places are matchings
  have okn : ∀ i j, i < b.nodes.length → j < a.nodes.length → okN a b i j = true → a.nodes.getD j default = b.nodes.getD i default := fun i j _ _ hok => by
    unfold okN at hok
    rw [decide_eq_true_eq] at hok
    exact hok
  have pN : isM (okN a b) a.nodes.length b.nodes.length (placesK k.nodes h.nodes k.nodes.length) := places_isM hn2 _ v1.ln v2.ln fun i j hi hj e => by
    unfold okN
    rw [decide_eq_true_eq, ← v1.nt j hj, ← v2.nt i hi, e]
  have pE : isM (okE a b (placesK k.nodes h.nodes k.nodes.length)) a.edges.length b.edges.length (placesK k.edges h.edges k.edges.length) := places_isM he2 _ v1.le v2.le fun i j hi hj e => by
    unfold okE
    rw [decide_eq_true_eq]
    have t1 := v1.et j hj
    have t2 := v2.et i hi
    rw [e, t2] at t1
    obtain ⟨a1, a2, a3, a4⟩ := ea _ (getD_mem (d := default) hj)
    obtain ⟨b1, b2, b3, b4⟩ := eb _ (getD_mem (d := default) hi)
    have ln1 := v1.ln
    have ln2 := v2.ln
    rw [placesK_getD (by omega), placesK_getD (by omega)]
    generalize a.edges.getD j default = y at *
    generalize b.edges.getD i default = z at *
    have u1 : z.ty = y.ty := (E.mk.inj t1).1
    have u2 : k.nodes.getD z.fr.toNat 0 = h.nodes.getD y.fr.toNat 0 := (E.mk.inj t1).2.1
    have u3 : k.nodes.getD z.to.toNat 0 = h.nodes.getD y.to.toNat 0 := (E.mk.inj t1).2.2
    rw [u2, u3, indexI_at hn1 (by omega), indexI_at hn1 (by omega), u1, Int.toNat_of_nonneg a1, Int.toNat_of_nonneg a3]
  have pair : isPair a b (placesK k.nodes h.nodes k.nodes.length, placesK k.edges h.edges k.edges.length) := ⟨pN, pE⟩
  have gl := glued_of ea eb pair
  have gn := gl.n
  have ge := gl.e
  have hPl : (placesK k.nodes h.nodes k.nodes.length).length = b.nodes.length := pN.1
  have hQl : (placesK k.edges h.edges k.edges.length).length = b.edges.length := pE.1
  have rN : RI h.nodes k.nodes (glue a b (placesK k.nodes h.nodes k.nodes.length) (placesK k.edges h.edges k.edges.length)).r.nodes b.nodes.length (restK h.nodes k.nodes (placesK k.nodes h.nodes k.nodes.length) k.nodes.length) (glue a b (placesK k.nodes h.nodes k.nodes.length) (placesK k.edges h.edges k.edges.length)).g.nodes.length := by
    have := rest_ri (an := a.nodes) (bn := b.nodes) v1.ln v2.ln hn1 hn2 pN okn b.nodes.length (Nat.le_refl _)
    simp only [glue, glueN_G, hPl]
    rw [v2.ln] at this ⊢
    exact this
  have rE : RI h.edges k.edges (glue a b (placesK k.nodes h.nodes k.nodes.length) (placesK k.edges h.edges k.edges.length)).r.edges b.edges.length (restK h.edges k.edges (placesK k.edges h.edges k.edges.length) k.edges.length) (glue a b (placesK k.nodes h.nodes k.nodes.length) (placesK k.edges h.edges k.edges.length)).g.edges.length := by
    have lm : (b.edges.map (mapE (glue a b (placesK k.nodes h.nodes k.nodes.length) (placesK k.edges h.edges k.edges.length)).r.nodes)).length = b.edges.length := by simp
    have := rest_ri (an := a.edges) (bn := b.edges.map (mapE (glue a b (placesK k.nodes h.nodes k.nodes.length) (placesK k.edges h.edges k.edges.length)).r.nodes)) v1.le (by rw [lm]; exact v2.le) he1 he2 (ok := fun i j => decide (a.edges.getD j default = (b.edges.map (mapE (glue a b (placesK k.nodes h.nodes k.nodes.length) (placesK k.edges h.edges k.edges.length)).r.nodes)).getD i default)) (by
        rw [lm]
        refine places_isM he2 _ v1.le v2.le fun i j hi hj e => ?_
        rw [decide_eq_true_eq]
        have q := pE.2 i hi
        unfold okAt at q
        rw [placesK_getD (by have := v2.le; omega), ← e, indexI_at he1 (by have := v1.le; omega)] at q
        rcases q with q | ⟨j', q1, q2, q3, _⟩
        · omega
        · have : j' = j := by omega
          subst this
          unfold okE at q3
          rw [decide_eq_true_eq] at q3
          obtain ⟨b1, b2, b3, b4⟩ := eb _ (getD_mem (d := default) hi)
          obtain ⟨a1, a2, a3, a4⟩ := ea _ (getD_mem (d := default) hj)
          have g3 : (b.edges.map (mapE (glue a b (placesK k.nodes h.nodes k.nodes.length) (placesK k.edges h.edges k.edges.length)).r.nodes)).getD i default = mapE (glue a b (placesK k.nodes h.nodes k.nodes.length) (placesK k.edges h.edges k.edges.length)).r.nodes (b.edges.getD i default) := by simp [hi]
          rw [g3, q3]
          rw [q3] at a1 a3
          simp only at a1 a3
          unfold mapE
          rw [gn.pos _ (by omega) (by omega), gn.pos _ (by omega) (by omega)]) (fun i j _ _ hok => by simpa using hok) b.edges.length (by rw [lm]; exact Nat.le_refl _)
    have e1 : (glue a b (placesK k.nodes h.nodes k.nodes.length) (placesK k.edges h.edges k.edges.length)).g.edges = (glueG a.edges (b.edges.map (mapE (glue a b (placesK k.nodes h.nodes k.nodes.length) (placesK k.edges h.edges k.edges.length)).r.nodes)) (placesK k.edges h.edges k.edges.length) b.edges.length).1 := by
      rw [← glueE_G _ _ _ _ _ (Nat.le_refl _), ← hQl]; rfl
    have e2 : (glue a b (placesK k.nodes h.nodes k.nodes.length) (placesK k.edges h.edges k.edges.length)).r.edges = (glueG a.edges (b.edges.map (mapE (glue a b (placesK k.nodes h.nodes k.nodes.length) (placesK k.edges h.edges k.edges.length)).r.nodes)) (placesK k.edges h.edges k.edges.length) b.edges.length).2 := by
      rw [← glueE_G _ _ _ _ _ (Nat.le_refl _), ← hQl]; rfl
    rw [e1, e2]
    rw [v2.le] at this ⊢
    exact this
  have hol : (glue a b (placesK k.nodes h.nodes k.nodes.length) (placesK k.edges h.edges k.edges.length)).l = idM a := rfl
  have hlaw := glue_law0 v1.va v2.va pair
  rw [hol] at hlaw ⊢
  generalize restK h.nodes k.nodes (placesK k.nodes h.nodes k.nodes.length) k.nodes.length = R at *
  generalize restK h.edges k.edges (placesK k.edges h.edges k.edges.length) k.edges.length = T at *
  have hof : (glue a b (placesK k.nodes h.nodes k.nodes.length) (placesK k.edges h.edges k.edges.length)).l.Fit := by
    have t1 := (validG_types v1.va).1
    rw [hol]
    exact ⟨by simp [idM]; omega, by simp [idM]; omega⟩
  generalize glue a b (placesK k.nodes h.nodes k.nodes.length) (placesK k.edges h.edges k.edges.length) = o at *
  obtain ⟨tx, _, _⟩ := validG_types v1.vb
  obtain ⟨ta, _, _⟩ := validG_types v1.va
  obtain ⟨tb, _, _⟩ := validG_types v2.va
  have bN : ∀ y ∈ R, 0 ≤ y ∧ y < x.nodes.length := fun y hy => by
    rcases rN.mem y hy with m | ⟨j, hj, e⟩
    · exact v1.n y m
    · rw [e]; exact v2.n _ (getD_mem (by rw [v2.ln]; exact hj))
  have bE : ∀ y ∈ T, 0 ≤ y ∧ y < x.edges.length := fun y hy => by
    rcases rE.mem y hy with m | ⟨j, hj, e⟩
    · exact v1.e y m
    · rw [e]; exact v2.e _ (getD_mem (by rw [v2.le]; exact hj))
  have lN := nodup_bound rN.nodup bN
  have lE := nodup_bound rE.nodup bE
  have rlN := rN.len
  have rlE := rE.len
  obtain ⟨hv, w1, w2⟩ := hlaw (by omega)
  obtain ⟨tn, etn⟩ := rN.pre
  obtain ⟨te, ete⟩ := rE.pre
  obtain ⟨un, eun, _⟩ := gn.pre
  obtain ⟨ue, eue, _⟩ := ge.pre
  have hN : ∀ i, i < a.nodes.length → R.getD i 0 = h.nodes.getD i 0 := fun i hi => by rw [etn, getD_pre (by rw [v1.ln]; exact hi)]
  have hE : ∀ i, i < a.edges.length → T.getD i 0 = h.edges.getD i 0 := fun i hi => by rw [ete, getD_pre (by rw [v1.le]; exact hi)]
  have vm : VM o.g x ⟨R, T⟩ := by
    refine ⟨hv, v1.vb, rlN, rlE, bN, bE, fun i hi => ?_, fun i hi => ?_⟩
    · by_cases hia : i < a.nodes.length
      · rw [hN i hia, eun, getD_pre hia]; exact v1.nt i hia
      · obtain ⟨j, hj, ej⟩ := mem_getD (gn.cov i (by omega) hi)
        rw [gn.len] at hj
        have q1 := rN.val j hj
        have q2 := gn.val j hj
        rw [ej, Int.toNat_natCast] at q1 q2
        have q3 := v2.nt j hj
        simp only
        rw [q1, q3]
        exact q2.symm
    · by_cases hia : i < a.edges.length
      · obtain ⟨a1, a2, a3, a4⟩ := ea _ (getD_mem (d := default) hia)
        have q := v1.et i hia
        simp only
        rw [hE i hia, eue, getD_pre hia, q, hN _ (by omega), hN _ (by omega)]
      · obtain ⟨j, hj, ej⟩ := mem_getD (ge.cov i (by omega) hi)
        rw [ge.len] at hj
        have q1 := rE.val j hj
        have q2 := ge.val j hj
        rw [ej, Int.toNat_natCast] at q1 q2
        have q3 := v2.et j hj
        obtain ⟨b1, b2, b3, b4⟩ := eb _ (getD_mem (d := default) hj)
        have g3 : (b.edges.map (mapE o.r.nodes)).getD j default = mapE o.r.nodes (b.edges.getD j default) := by simp [hj]
        rw [g3] at q2
        have f1 := rN.val (b.edges.getD j default).fr.toNat (by omega)
        have f2 := rN.val (b.edges.getD j default).to.toNat (by omega)
        simp only
        rw [q1, q3, q2]
        simp only [mapE]
        rw [f1, f2]
  have hvm := validM_of vm
  refine ⟨trivial, ?_, ?_, (injM_iff _ _ _).2 ⟨hvm, rN.nodup, rE.nodup⟩, ⟨⟨by omega, by omega⟩, hof, ⟨by rw [gn.len]; omega, by rw [ge.len]; omega⟩⟩, ⟨by simp only; omega, by simp only; omega⟩⟩
  · have c1 : byK (iota a.nodes.length) R (iota a.nodes.length).length = h.nodes := byK_ext (by simp [v1.ln]) fun i hi => by
      simp only [iota_length] at hi
      rw [iota_getD hi, Int.toNat_natCast]; exact hN i hi
    have c2 : byK (iota a.edges.length) T (iota a.edges.length).length = h.edges := byK_ext (by simp [v1.le]) fun i hi => by
      simp only [iota_length] at hi
      rw [iota_getD hi, Int.toNat_natCast]; exact hE i hi
    unfold compM
    rw [if_neg (by simp [w1]), if_neg (by simp [hvm])]
    simp only [thenM, idM, c1, c2]
  · have c1 : byK o.r.nodes R o.r.nodes.length = k.nodes := byK_ext (by rw [gn.len, v2.ln]) fun i hi => rN.val i (by rw [← gn.len]; exact hi)
    have c2 : byK o.r.edges T o.r.edges.length = k.edges := byK_ext (by rw [ge.len, v2.le]) fun i hi => rE.val i (by rw [← ge.len]; exact hi)
    unfold compM
    rw [if_neg (by simp [w2]), if_neg (by simp [hvm])]
    simp only [thenM, c1, c2]
end Go.AM
namespace Go.AM
open Go Go.Proofs
set_option linter.unusedSimpArgs false
set_option linter.unusedVariables false

theorem law7_c (a b : Gr) (o : Ov) (hl : o.l.Big) (hr : o.r.Big) (tok : Nat → Bool) (nt : Nat) : ∃ tok' nt', DCall Try.prog 7 [a.av, b.av, o.av] tok nt (B true) tok' nt' := by
  refine ⟨tok, nt, ?_⟩
  intro box nb
  refine ACalls.of_body Try.func7 rfl (by kernel_rfl) follows_Try (by kernel_rfl) (by simp [Try.ntmps7]) ?_
  intro hbox htok
  simp only at hbox htok
  apply AL.start
  repeat (first | refine AL.seq ?_ | refine AL.block ?_ | refine AL.skip ?_ | refine AL.blk ?_)
  refine AL.region follows_Try (Nat.le_refl _) (by kernel_rfl) ?_
  simp
  repeat (first | refine AL.seq ?_ | refine AL.block ?_ | refine AL.skip ?_ | refine AL.blk ?_)
  refine AL.region follows_Try (Nat.le_refl _) (by kernel_rfl) ?_
  simp
  refine Stop.of_d (awake_c _ _) ?_
  simp
  refine Stop.of_d (few05_c a _ _) ?_
  simp
  by_cases h1 : fewG a = true
  · simp [h1]
    refine Stop.of_d (few05_c b _ _) ?_
    simp [h1]
    by_cases h2 : fewG b = true
    · simp [h2]
      refine Stop.of_d (few05_c o.g _ _) ?_
      simp [h2]
      by_cases h3 : fewG o.g = true
      · simp [h3]
        refine Stop.of_d (few06_c o.l 200 hl.n hl.e _ _) ?_
        simp [h3]
        by_cases h4 : fewM o.l 200 = true
        · simp [h4]
          refine Stop.of_d (few06_c o.r 200 hr.n hr.e _ _) ?_
          simp [h4]
          by_cases h5 : fewM o.r 200 = true
          · simp [h5]
            have fa := fewG_fit h1
            have fb := fewG_fit h2
            have fg := fewG_fit h3
            have fl := fewM_fit h4
            have fr := fewM_fit h5
            repeat (first | refine AL.seq ?_ | refine AL.block ?_ | refine AL.skip ?_ | refine AL.blk ?_)
            refine AL.cond ?_
            simp
            repeat (first | refine AL.seq ?_ | refine AL.block ?_ | refine AL.skip ?_ | refine AL.blk ?_)
            refine AL.region follows_Try (Nat.le_refl _) (by kernel_rfl) ?_
            simp
            refine Stop.of_d (copied_c a fa _ _) ?_
            simp
            refine Stop.of_d (copied_c b fb _ _) ?_
            simp
            refine Stop.data ?_
            have htk := (TK.start htok).full.app.full.app.full.app.full.app
            refine Stop.of_d (through28_c a b o.g o.l o.r fa fb fg fl fr _ _) ?_
            simp
            repeat (first | refine AL.seq ?_ | refine AL.block ?_ | refine AL.skip ?_ | refine AL.blk ?_)
            refine AL.region follows_Try (Nat.le_refl _) (by kernel_rfl) ?_
            simp
            refine Stop.of_d (through29_c a b o.g o.l o.r fa fb fg fl fr _ _) ?_
            simp
            have hfit : (thrR a b o.g o.l o.r).o.Fit ∧ (thrR a b o.g o.l o.r).m.Fit := by
              have fe : emptyO.Fit := ⟨⟨by simp [emptyO], by simp [emptyO]⟩, ⟨by simp [emptyO], by simp [emptyO]⟩, ⟨by simp [emptyO], by simp [emptyO]⟩⟩
              have fm : Mo.Fit ⟨[], []⟩ := ⟨by simp, by simp⟩
              by_cases g1 : validM a o.g o.l = 0
              · by_cases g2 : validM b o.g o.r = 0
                · by_cases g3 : injM a o.g o.l = true ∧ injM b o.g o.r = true
                  · exact (thr_law g1 g2 g3.1 g3.2).2.2.2.2
                  · have : thrR a b o.g o.l o.r = ⟨emptyO, ⟨[], []⟩, 1⟩ := by unfold thrR; rw [if_neg (by simp [g1]), if_neg (by simp [g2]), if_neg g3]
                    rw [this]; exact ⟨fe, fm⟩
                · have : thrR a b o.g o.l o.r = ⟨emptyO, ⟨[], []⟩, validM b o.g o.r⟩ := by unfold thrR; rw [if_neg (by simp [g1]), if_pos g2]
                  rw [this]; exact ⟨fe, fm⟩
              · have : thrR a b o.g o.l o.r = ⟨emptyO, ⟨[], []⟩, validM a o.g o.l⟩ := by unfold thrR; rw [if_pos g1]
                rw [this]; exact ⟨fe, fm⟩
            have hgood : (thrR a b o.g o.l o.r).e = 0 → compM a (thrR a b o.g o.l o.r).o.g o.g (thrR a b o.g o.l o.r).o.l (thrR a b o.g o.l o.r).m = (o.l, 0) ∧ compM b (thrR a b o.g o.l o.r).o.g o.g (thrR a b o.g o.l o.r).o.r (thrR a b o.g o.l o.r).m = (o.r, 0) ∧ injM (thrR a b o.g o.l o.r).o.g o.g (thrR a b o.g o.l o.r).m = true := by
              intro he
              by_cases g1 : validM a o.g o.l = 0
              · by_cases g2 : validM b o.g o.r = 0
                · by_cases g3 : injM a o.g o.l = true ∧ injM b o.g o.r = true
                  · obtain ⟨_, q1, q2, q3, _⟩ := thr_law g1 g2 g3.1 g3.2
                    exact ⟨q1, q2, q3⟩
                  · have : thrR a b o.g o.l o.r = ⟨emptyO, ⟨[], []⟩, 1⟩ := by unfold thrR; rw [if_neg (by simp [g1]), if_neg (by simp [g2]), if_neg g3]
                    rw [this] at he; cases he
                · have : thrR a b o.g o.l o.r = ⟨emptyO, ⟨[], []⟩, validM b o.g o.r⟩ := by unfold thrR; rw [if_neg (by simp [g1]), if_pos g2]
                  rw [this] at he; exact absurd he g2
              · have : thrR a b o.g o.l o.r = ⟨emptyO, ⟨[], []⟩, validM a o.g o.l⟩ := by unfold thrR; rw [if_pos g1]
                rw [this] at he; exact absurd he g1
            generalize thrR a b o.g o.l o.r = T at *
            obtain ⟨fo, fm⟩ := hfit
            repeat (first | refine AL.seq ?_ | refine AL.block ?_ | refine AL.skip ?_ | refine AL.blk ?_)
            refine AL.region follows_Try (Nat.le_refl _) (by kernel_rfl) ?_
            simp
            refine Stop.of_d (sameOverlap_c T.o T.o fo _ _) ?_
            simp
            refine Stop.of_d (same06_c T.m T.m fm _ _) ?_
            simp
            by_cases he : T.e = 0
            · obtain ⟨q1, q2, q3⟩ := hgood he
              have hb : (T.e != 0) = false := by simp [he]
              simp only [hb]
              repeat (first | refine AL.seq ?_ | refine AL.block ?_ | refine AL.skip ?_ | refine AL.blk ?_)
              refine AL.cond ?_
              simp
              have d1 := fun tok nt => compose31_c a T.o.g o.g T.o.l T.m fa fo.g fg fo.l tok nt
              have d2 := fun tok nt => compose31_c b T.o.g o.g T.o.r T.m fb fo.g fg fo.r tok nt
              have d3 := fun tok nt => injective26_c T.o.g o.g T.m fo.g fg fm tok nt
              rw [q1] at d1
              rw [q2] at d2
              rw [q3] at d3
              repeat (first | refine AL.seq ?_ | refine AL.block ?_ | refine AL.skip ?_ | refine AL.blk ?_)
              refine AL.region follows_Try (Nat.le_refl _) (by kernel_rfl) ?_
              simp
              refine Stop.of_d (d1 _ _) ?_
              simp
              repeat (first | refine AL.seq ?_ | refine AL.block ?_ | refine AL.skip ?_ | refine AL.blk ?_)
              refine AL.region follows_Try (Nat.le_refl _) (by kernel_rfl) ?_
              simp
              refine Stop.of_d (d2 _ _) ?_
              simp
              repeat (first | refine AL.seq ?_ | refine AL.block ?_ | refine AL.skip ?_ | refine AL.blk ?_)
              refine AL.region follows_Try (Nat.le_refl _) (by kernel_rfl) ?_
              simp
              refine Stop.of_d (same06_c o.l o.l fl _ _) ?_
              simp
              refine Stop.of_d (same06_c o.r o.r fr _ _) ?_
              simp
              refine Stop.of_d (d3 _ _) ?_
              simp
              repeat (first | refine AL.seq ?_ | refine AL.block ?_ | refine AL.skip ?_ | refine AL.blk ?_)
              refine AL.ret ?_
              try simp only [AU]
              refine ⟨by simp, Fin.data (by simp [resAs, resA]; rfl) hbox rfl htok htk.old htk.le ?_⟩
              simp [packA, ]
            · have hb : (T.e != 0) = true := by simp [he]
              simp only [hb]
              repeat (first | refine AL.seq ?_ | refine AL.block ?_ | refine AL.skip ?_ | refine AL.blk ?_)
              refine AL.cond ?_
              simp
              repeat (first | refine AL.seq ?_ | refine AL.block ?_ | refine AL.skip ?_ | refine AL.blk ?_)
              refine AL.region follows_Try (Nat.le_refl _) (by kernel_rfl) ?_
              simp
              refine Stop.of_d (sameOverlap_c T.o T.o fo _ _) ?_
              simp
              refine Stop.of_d (same06_c T.m T.m fm _ _) ?_
              simp
              repeat (first | refine AL.seq ?_ | refine AL.block ?_ | refine AL.skip ?_ | refine AL.blk ?_)
              refine AL.ret ?_
              try simp only [AU]
              refine ⟨by simp, Fin.data (by simp [resAs, resA]; rfl) hbox rfl htok htk.old htk.le ?_⟩
              simp [packA, ]
          · simp [h5]
            repeat (first | refine AL.seq ?_ | refine AL.block ?_ | refine AL.skip ?_ | refine AL.blk ?_)
            refine AL.cond ?_
            simp
            repeat (first | refine AL.seq ?_ | refine AL.block ?_ | refine AL.skip ?_ | refine AL.blk ?_)
            refine AL.region follows_Try (Nat.le_refl _) (by kernel_rfl) ?_
            simp
            refine Stop.of_d (awake_c _ _) ?_
            simp
            repeat (first | refine AL.seq ?_ | refine AL.block ?_ | refine AL.skip ?_ | refine AL.blk ?_)
            refine AL.ret ?_
            try simp only [AU]
            refine ⟨by simp, Fin.data (by simp [resAs, resA]; rfl) hbox rfl htok (fun _ h => h) (Nat.le_refl _) ?_⟩
            simp [packA]
        · simp [h4]
          repeat (first | refine AL.seq ?_ | refine AL.block ?_ | refine AL.skip ?_ | refine AL.blk ?_)
          refine AL.cond ?_
          simp
          repeat (first | refine AL.seq ?_ | refine AL.block ?_ | refine AL.skip ?_ | refine AL.blk ?_)
          refine AL.region follows_Try (Nat.le_refl _) (by kernel_rfl) ?_
          simp
          refine Stop.of_d (awake_c _ _) ?_
          simp
          repeat (first | refine AL.seq ?_ | refine AL.block ?_ | refine AL.skip ?_ | refine AL.blk ?_)
          refine AL.ret ?_
          try simp only [AU]
          refine ⟨by simp, Fin.data (by simp [resAs, resA]; rfl) hbox rfl htok (fun _ h => h) (Nat.le_refl _) ?_⟩
          simp [packA]
      · simp [h3]
        repeat (first | refine AL.seq ?_ | refine AL.block ?_ | refine AL.skip ?_ | refine AL.blk ?_)
        refine AL.cond ?_
        simp
        repeat (first | refine AL.seq ?_ | refine AL.block ?_ | refine AL.skip ?_ | refine AL.blk ?_)
        refine AL.region follows_Try (Nat.le_refl _) (by kernel_rfl) ?_
        simp
        refine Stop.of_d (awake_c _ _) ?_
        simp
        repeat (first | refine AL.seq ?_ | refine AL.block ?_ | refine AL.skip ?_ | refine AL.blk ?_)
        refine AL.ret ?_
        try simp only [AU]
        refine ⟨by simp, Fin.data (by simp [resAs, resA]; rfl) hbox rfl htok (fun _ h => h) (Nat.le_refl _) ?_⟩
        simp [packA]
    · simp [h2]
      repeat (first | refine AL.seq ?_ | refine AL.block ?_ | refine AL.skip ?_ | refine AL.blk ?_)
      refine AL.cond ?_
      simp
      repeat (first | refine AL.seq ?_ | refine AL.block ?_ | refine AL.skip ?_ | refine AL.blk ?_)
      refine AL.region follows_Try (Nat.le_refl _) (by kernel_rfl) ?_
      simp
      refine Stop.of_d (awake_c _ _) ?_
      simp
      repeat (first | refine AL.seq ?_ | refine AL.block ?_ | refine AL.skip ?_ | refine AL.blk ?_)
      refine AL.ret ?_
      try simp only [AU]
      refine ⟨by simp, Fin.data (by simp [resAs, resA]; rfl) hbox rfl htok (fun _ h => h) (Nat.le_refl _) ?_⟩
      simp [packA]
  · simp [h1]
    repeat (first | refine AL.seq ?_ | refine AL.block ?_ | refine AL.skip ?_ | refine AL.blk ?_)
    refine AL.cond ?_
    simp
    repeat (first | refine AL.seq ?_ | refine AL.block ?_ | refine AL.skip ?_ | refine AL.blk ?_)
    refine AL.region follows_Try (Nat.le_refl _) (by kernel_rfl) ?_
    simp
    refine Stop.of_d (awake_c _ _) ?_
    simp
    repeat (first | refine AL.seq ?_ | refine AL.block ?_ | refine AL.skip ?_ | refine AL.blk ?_)
    refine AL.ret ?_
    try simp only [AU]
    refine ⟨by simp, Fin.data (by simp [resAs, resA]; rfl) hbox rfl htok (fun _ h => h) (Nat.le_refl _) ?_⟩
    simp [packA]
end Go.AM
/-
  The abstract machine, twenty-second part: from a statement's reading of the arguments to slots, and from a contract to the statement.
-/
namespace Go.AM
open Go Go.ChangeShapes
set_option linter.unusedSimpArgs false
set_option linter.unusedVariables false

variable {P : Program}

/-- Cells that read as data. -/
def Rd (w : World) (cs : List Value) (ds : List D) : Prop := cs.length = ds.length ∧ ∀ i (h1 : i < cs.length) (h2 : i < ds.length), RVd w.cell? (fun _ => True) ds[i] cs[i]

theorem Rd.append {w : World} {cs cs' : List Value} {ds ds' : List D} (h : Rd w cs ds) (k : Rd w cs' ds') : Rd w (cs ++ cs') (ds ++ ds') := by
  refine ⟨by simp [h.1, k.1], fun i h1 h2 => ?_⟩
  by_cases hi : i < cs.length
  · rw [List.getElem_append_left hi, List.getElem_append_left (by rw [← h.1]; exact hi)]
    exact h.2 i hi _
  · have hl := h.1
    rw [List.getElem_append_right (by omega), List.getElem_append_right (by omega)]
    have := k.2 (i - cs.length) (by simp at h1; omega) (by have := k.1; simp at h1; omega)
    simpa [hl] using this
theorem Rd.one {w : World} {c : Value} {d : D} (h : RVd w.cell? (fun _ => True) d c) : Rd w [c] [d] := ⟨rfl, fun i h1 h2 => by
  have : i = 0 := by simpa using h1
  subst this
  exact h⟩

/-- What it takes is within reach. -/
def Light {H : Type} (P : Program) (T : TypeId) (d : DataW H) : Prop := (d.weights P T).all (· ≤ reachBytes) = true

/-- How the cells of a type read as data: as the images of values of a Lean type. -/
structure Rdr (P : Program) (T : TypeId) (α : Type) where
  enc : α → List D
  ok : α → Prop
  len : ∀ x, (enc x).length = P.cellsOf T
  sound : ∀ {H : Type} (e : TypeId × Value → H) (w : World) (base : Nat) (spare : Nat → Bool) (held : Bool) (fuel : Nat) (cs : List Value) (x : DataW H × List MemPlace),
    DataW.trod e P w base spare held fuel T cs = some x → ∃ y, Rd w cs (enc y) ∧ (Light P T x.1 → ok y)

def Rdr.int {T : TypeId} {k : IntKind} (h : P.underlying T = some (.int k)) (hc : P.cellsOf T = 1) : Rdr P T Int where
  enc n := [.raw (.int k n)]
  ok n := (Lit.int k n).wf = true
  len _ := by simp [hc]
  sound e w base spare held fuel cs x hx := by
    cases fuel with
    | zero => simp [DataW.trod] at hx
    | succ n =>
      unfold DataW.trod at hx
      rw [h] at hx
      split at hx <;> simp_all
      rename_i k' n' _
      exact ⟨n', Rd.one (.raw rfl), fun _ => hx.1.2⟩

theorem cells_spec {w : World} {base : Nat} {a : Addr} {n : Nat} {l : List Value} (h : w.cells? base a n = some l) : l.length = n ∧ ∀ i (hi : i < l.length), w.cell? (a.add i) = some l[i] := by
  unfold World.cells? at h
  split at h
  · have h1 : l.length = n := by have := mapM_some_length h; simpa using this
    refine ⟨h1, fun i hi => ?_⟩
    have hin : i < n := by omega
    have := mapM_some_get h i i (by simp [hin])
    rw [this]
    exact List.getElem?_eq_getElem hi
  · cases h

theorem light_slice {H : Type} {T E : TypeId} (h : P.underlying T = some (.slice E)) {elems rest : List (DataW H)} (hl : Light P T (.slice elems rest)) : elems.length * P.bytesOf E ≤ reachBytes ∧ ∀ d ∈ elems, Light P E d := by
  unfold Light at hl ⊢
  simp only [DataW.weights, h, List.all_cons, List.all_append, Bool.and_eq_true, decide_eq_true_eq] at hl
  refine ⟨Nat.le_trans (Nat.mul_le_mul_right _ (Nat.le_add_right _ _)) hl.1, ?_⟩
  have key : ∀ l : List (DataW H), (DataW.weightsAll P E l).all (· ≤ reachBytes) = true → ∀ d ∈ l, (d.weights P E).all (· ≤ reachBytes) = true := by
    intro l
    induction l with
    | nil => intro _ d hd; simp at hd
    | cons x l ih =>
      intro hx d hd
      simp only [DataW.weightsAll, List.all_append, Bool.and_eq_true] at hx
      rcases List.mem_cons.1 hd with rfl | hd
      · exact hx.1
      · exact ih hx.2 d hd
  exact key elems hl.2.1

def Rdr.slice {T E : TypeId} {α : Type} (r : Rdr P E α) (h : P.underlying T = some (.slice E)) (hc : P.cellsOf T = 1) : Rdr P T (List α) where
  enc l := [.sl (P.cellsOf E) (l.map r.enc)]
  ok l := (∀ x ∈ l, r.ok x) ∧ l.length * P.bytesOf E ≤ reachBytes
  len _ := by simp [hc]
  sound e w base spare held fuel cs x hx := by
    rcases DataW.trod_slice h hx with ⟨rfl, rfl⟩ | ⟨a, len, cap, elems, rest, n, rfl, rfl, rfl, hb, hl, hm, hel, hat, _⟩
    · exact ⟨[], Rd.one (.sl (es := []) (fun _ _ => default) (Nat.le_refl _) (by decide) (by simp) (by simp) (by simp) (by simp)), fun _ => ⟨by simp, by simp⟩⟩
    · have key : ∀ i (hi : i < elems.length), ∃ cs y, cs.length = P.cellsOf E ∧ (∀ j (hj : j < cs.length), w.cell? (a.add (i * P.cellsOf E + j)) = some cs[j]) ∧ Rd w cs (r.enc y) ∧ (Light P E elems[i].1 → r.ok y) := by
        intro i hi
        have h1 := hat i (by omega)
        have h2 : elems[i]? = some elems[i] := List.getElem?_eq_getElem hi
        rw [h2, Option.bind_eq_some_iff] at h1
        obtain ⟨cs, hcs, htr⟩ := h1
        obtain ⟨hcl, hcc⟩ := cells_spec hcs
        obtain ⟨y, hy, hok⟩ := r.sound e w base spare held n cs _ htr
        refine ⟨cs, y, hcl, fun j hj => ?_, hy, hok⟩
        rw [← Addr.add_add]
        exact hcc j hj
      have pick : ∀ m, m ≤ elems.length → ∃ ys : List α, ys.length = m ∧ (∀ i (hi : i < ys.length) (hi2 : i < elems.length), ∃ cs, cs.length = P.cellsOf E ∧ (∀ j (hj : j < cs.length), w.cell? (a.add (i * P.cellsOf E + j)) = some cs[j]) ∧ Rd w cs (r.enc ys[i]) ∧ (Light P E elems[i].1 → r.ok ys[i])) := by
        intro m
        induction m with
        | zero => intro _; exact ⟨[], rfl, fun i hi => by simp at hi⟩
        | succ m ih =>
          intro hm'
          obtain ⟨ys, hys, hall⟩ := ih (by omega)
          obtain ⟨cs, y, g1, g2, g3, g4⟩ := key m (by omega)
          refine ⟨ys ++ [y], by simp [hys], fun i hi hi2 => ?_⟩
          by_cases him : i < ys.length
          · rw [List.getElem_append_left him]
            exact hall i him hi2
          · have : i = m := by simp at hi; omega
            subst this
            have e1 : (ys ++ [y])[i] = y := by
              rw [List.getElem_append_right (by omega)]
              simp
            rw [e1]
            exact ⟨cs, g1, g2, g3, g4⟩
      obtain ⟨ys, hys, hall⟩ := pick elems.length (Nat.le_refl _)
      refine ⟨ys, Rd.one ?_, fun hli => ?_⟩
      · have hlen : len = ys.length := by omega
        subst hlen
        have hml : ys.length = (ys.map r.enc).length := by simp
        rw [hml]
        refine .sl (fun i j => (w.cell? (a.add (i * P.cellsOf E + j))).getD default) (by simpa using hl) hm (fun e he => ?_) (fun _ => ⟨a, rfl⟩) (fun a' ha' i j hi hj => ?_) (fun i j hi hj => ?_)
        · obtain ⟨y, _, rfl⟩ := List.mem_map.1 he
          exact r.len y
        · cases ha'
          obtain ⟨cs, g1, g2, _⟩ := hall i (by simpa using hi) (by simp at hi; omega)
          rw [g2 j (by omega)]
          exact ⟨trivial, rfl⟩
        · obtain ⟨cs, g1, g2, g3, _⟩ := hall i (by simpa using hi) (by simp at hi; omega)
          simp only [List.getElem_map] at hj ⊢
          have hjc : j < cs.length := by rw [g3.1]; exact hj
          rw [g2 j hjc]
          exact g3.2 j hjc hj
      · obtain ⟨w1, w2⟩ := light_slice h hli
        refine ⟨fun y hy => ?_, by simpa [hys] using w1⟩
        obtain ⟨i, hi, rfl⟩ := List.getElem_of_mem hy
        obtain ⟨_, _, _, _, h4⟩ := hall i hi (by omega)
        exact h4 (w2 _ (List.mem_map.2 ⟨_, List.getElem_mem _, rfl⟩))

def Rdr.map {T : TypeId} {α β : Type} (r : Rdr P T α) (f : α → β) (enc : β → List D) (ok : β → Prop) (he : ∀ x, enc (f x) = r.enc x) (hok : ∀ x, r.ok x → ok (f x)) (hl : ∀ y, (enc y).length = P.cellsOf T) : Rdr P T β where
  enc := enc
  ok := ok
  len := hl
  sound e w base spare held fuel cs x hx := by
    obtain ⟨y, h1, h2⟩ := r.sound e w base spare held fuel cs x hx
    exact ⟨f y, by rw [he]; exact h1, fun hl => hok y (h2 hl)⟩

/-- A slice, its elements' size named. -/
def Rdr.sliceN {T E : TypeId} {α : Type} (r : Rdr P E α) (n : Nat) (h : P.underlying T = some (.slice E)) (hc : P.cellsOf T = 1) (hn : P.cellsOf E = n) : Rdr P T (List α) where
  enc l := [.sl n (l.map r.enc)]
  ok l := (∀ x ∈ l, r.ok x) ∧ l.length * P.bytesOf E ≤ reachBytes
  len _ := by simp [hc]
  sound := by
    subst hn
    exact (Rdr.slice r h hc).sound

theorem list2 {α : Type} {l : List α} (h : l.length = 2) : l = [l[0]'(by omega), l[1]'(by omega)] := by
  match l, h with
  | [p, q], _ => rfl
theorem list3 {α : Type} {l : List α} (h : l.length = 3) : l = [l[0]'(by omega), l[1]'(by omega), l[2]'(by omega)] := by
  match l, h with
  | [p, q, r], _ => rfl

def Rdr.struct2 {T A B : TypeId} {α β : Type} (r : Rdr P A α) (s : Rdr P B β) {f0 f1 : Field} (h : P.underlying T = some (.struct #[f0, f1])) (hA : f0.type = A) (hB : f1.type = B) (h0 : f0.offset = 0) (h1 : f1.offset = P.cellsOf A)
    (hc : P.cellsOf T = P.cellsOf A + P.cellsOf B) : Rdr P T (α × β) where
  enc x := r.enc x.1 ++ s.enc x.2
  ok x := r.ok x.1 ∧ s.ok x.2
  len x := by simp [r.len, s.len, hc]
  sound e w base spare held fuel cs x hx := by
    obtain ⟨xs, n, rfl, rfl, hl, hxs, hat⟩ := DataW.trod_struct h hx
    have hxs' : xs.length = 2 := hxs
    have g0 := hat 0 f0 rfl
    have g1 := hat 1 f1 rfl
    have e0 : xs[0]? = some (xs[0]'(by omega)) := List.getElem?_eq_getElem (by omega)
    have e1 : xs[1]? = some (xs[1]'(by omega)) := List.getElem?_eq_getElem (by omega)
    rw [e0, h0, hA] at g0
    rw [e1, h1, hB] at g1
    obtain ⟨y, k1, k2⟩ := r.sound e w base spare held n _ _ g0
    obtain ⟨z, m1, m2⟩ := s.sound e w base spare held n _ _ g1
    refine ⟨(y, z), ?_, fun hli => ?_⟩
    rotate_left
    · unfold Light at hli k2 m2
      have e2 : xs = [xs[0]'(by omega), xs[1]'(by omega)] := list2 hxs'
      rw [e2] at hli
      simp only [List.map_cons, List.map_nil, DataW.weights, h, DataW.weightsEach, hA, hB, List.all_append, Bool.and_eq_true] at hli
      exact ⟨k2 hli.1, m2 hli.2.1⟩
    have hcs : cs = (cs.drop 0).take (P.cellsOf A) ++ (cs.drop (P.cellsOf A)).take (P.cellsOf B) := by
      have : (cs.drop (P.cellsOf A)).take (P.cellsOf B) = cs.drop (P.cellsOf A) := List.take_of_length_le (by simp; omega)
      rw [this, List.drop_zero, List.take_append_drop]
    rw [hcs]
    exact k1.append m1

def Rdr.struct3 {T A B C : TypeId} {α β γ : Type} (r : Rdr P A α) (s : Rdr P B β) (t : Rdr P C γ) {f0 f1 f2 : Field} (h : P.underlying T = some (.struct #[f0, f1, f2])) (hA : f0.type = A) (hB : f1.type = B) (hC : f2.type = C)
    (h0 : f0.offset = 0) (h1 : f1.offset = P.cellsOf A) (h2 : f2.offset = P.cellsOf A + P.cellsOf B) (hc : P.cellsOf T = P.cellsOf A + P.cellsOf B + P.cellsOf C) : Rdr P T (α × β × γ) where
  enc x := r.enc x.1 ++ (s.enc x.2.1 ++ t.enc x.2.2)
  ok x := r.ok x.1 ∧ s.ok x.2.1 ∧ t.ok x.2.2
  len x := by simp [r.len, s.len, t.len, hc]; omega
  sound e w base spare held fuel cs x hx := by
    obtain ⟨xs, n, rfl, rfl, hl, hxs, hat⟩ := DataW.trod_struct h hx
    have hxs' : xs.length = 3 := hxs
    have g0 := hat 0 f0 rfl
    have g1 := hat 1 f1 rfl
    have g2 := hat 2 f2 rfl
    have e0 : xs[0]? = some (xs[0]'(by omega)) := List.getElem?_eq_getElem (by omega)
    have e1 : xs[1]? = some (xs[1]'(by omega)) := List.getElem?_eq_getElem (by omega)
    have e2 : xs[2]? = some (xs[2]'(by omega)) := List.getElem?_eq_getElem (by omega)
    rw [e0, h0, hA] at g0
    rw [e1, h1, hB] at g1
    rw [e2, h2, hC] at g2
    obtain ⟨y, k1, k2⟩ := r.sound e w base spare held n _ _ g0
    obtain ⟨z, m1, m2⟩ := s.sound e w base spare held n _ _ g1
    obtain ⟨q, p1, p2⟩ := t.sound e w base spare held n _ _ g2
    refine ⟨(y, z, q), ?_, fun hli => ?_⟩
    rotate_left
    · unfold Light at hli k2 m2 p2
      have e2 : xs = [xs[0]'(by omega), xs[1]'(by omega), xs[2]'(by omega)] := list3 hxs'
      rw [e2] at hli
      simp only [List.map_cons, List.map_nil, DataW.weights, h, DataW.weightsEach, hA, hB, hC, List.all_append, Bool.and_eq_true] at hli
      exact ⟨k2 hli.1, m2 hli.2.1, p2 hli.2.2.1⟩
    have hcs : cs = (cs.drop 0).take (P.cellsOf A) ++ ((cs.drop (P.cellsOf A)).take (P.cellsOf B) ++ (cs.drop (P.cellsOf A + P.cellsOf B)).take (P.cellsOf C)) := by
      have : (cs.drop (P.cellsOf A + P.cellsOf B)).take (P.cellsOf C) = cs.drop (P.cellsOf A + P.cellsOf B) := List.take_of_length_le (by simp; omega)
      rw [this, ← List.drop_drop, List.take_append_drop, List.drop_zero, List.take_append_drop]
    rw [hcs]
    exact k1.append (m1.append p1)

/-! ### The start -/
def G0 : Gh := ⟨fun _ => none, fun _ => none, fun _ => .whole, 0⟩
def m0 : AMem := ⟨fun _ => none, 0, fun _ => false, 0⟩
theorem G0_ps (a : Addr) : G0.ps a := trivial
theorem relM_start (W : World) : RelM G0 m0 W := by
  constructor
  case box => intro k rows b sz h; cases h
  case nobox => intro k _; rfl
  case inj => intro k k' b sz sz' h; cases h
  case nb => intro k _; rfl
  case nt => rfl
  case toks => intro t h; cases h
  case tokb => intro t g h; cases h
  case tinj => intro t t' g h; cases h
  case tnt => intro t x h; cases h
  case fresh => intro b _; rfl

theorem RVd.start {W : World} {d : D} {v : Value} (h : RVd W.cell? (fun _ => True) d v) : RVd W.cell? G0.ps d v := h.mono fun a u _ hc => ⟨G0_ps a, hc⟩

/-- A struct that came in. -/
theorem Rdr.agg {T : TypeId} {α : Type} (r : Rdr P T α) {W : World} {base base' : Nat} {sp : Nat → Bool} {held : Bool} {H : Type} {enc : TypeId × Value → H} {v : Value} {d : DataW H} {p : List MemPlace}
    (hs : aggT P T = some true) (hv : Value.okWide P W .any base T v) (h : DataW.Trod enc P W base' sp held T v d p) (hli : Light P T d) : ∃ y, r.ok y ∧ RV G0 W (.agg ((r.enc y).map .d)) v := by
  have hcs : ∃ cs, v = .agg cs := by
    unfold aggT at hs
    unfold Value.okWide at hv
    cases hu : P.underlying T with
    | none => rw [hu] at hs; simp at hs
    | some u =>
      rw [hu] at hs hv
      cases u <;> simp at hs hv <;> exact ⟨_, hv.choose_spec.1⟩
  obtain ⟨cs, rfl⟩ := hcs
  obtain ⟨fuel, h⟩ := h
  obtain ⟨y, ⟨h1, h2⟩, hok⟩ := r.sound enc W base' sp held fuel _ _ h
  refine ⟨y, hok hli, ?_⟩
  simp only [Value.cells] at h1 h2
  have := RV.agg (G := G0) (w := W) (cs := (r.enc y).map .d) (vs := cs.toList) (by simp [h1]) (fun i g1 g2 => by
    simp only [List.getElem_map]
    exact .d (h2 i g2 (by simpa using g1)).start) (fun v hv => by
    obtain ⟨i, hi, rfl⟩ := List.getElem_of_mem hv
    exact (h2 i hi (by omega)).one)
  simpa using this

/-- A number or a slice that came in. -/
theorem Rdr.cell {T : TypeId} {α : Type} (r : Rdr P T α) {W : World} {base base' : Nat} {sp : Nat → Bool} {held : Bool} {H : Type} {enc : TypeId × Value → H} {v : Value} {d : DataW H} {p : List MemPlace} (f : α → D)
    (hs : aggT P T = some false) (hf : ∀ y, r.enc y = [f y]) (hv : Value.okWide P W .any base T v) (h : DataW.Trod enc P W base' sp held T v d p) (hli : Light P T d) : ∃ y, r.ok y ∧ RV G0 W (.d (f y)) v := by
  obtain ⟨fuel, h⟩ := h
  obtain ⟨y, ⟨h1, h2⟩, hok⟩ := r.sound enc W base' sp held fuel _ _ h
  refine ⟨y, hok hli, ?_⟩
  rw [hf] at h1
  have hcs : v.cells.toList = [v] := by
    cases v with
    | agg cs =>
      exfalso
      unfold aggT at hs
      unfold Value.okWide Cell.okWide Cell.ok at hv
      cases hu : P.underlying T with
      | none => rw [hu] at hs; simp at hs
      | some u =>
        rw [hu] at hs hv
        cases u <;> simp_all
    | _ => rfl
  have := h2 0 (by rw [h1]; simp) (by rw [hf]; simp)
  simp only [hf, List.getElem_cons_zero] at this
  have e : v.cells.toList[0]'(by rw [h1]; simp) = v := by simp [hcs]
  rw [e] at this
  exact .d this.start

theorem light_arg {H : Type} {ts : List TypeId} {ds : List (DataW H)} (hz : (DataW.weightsEach P ts ds).all (· ≤ reachBytes) = true) {j : Nat} {T : TypeId} {d : DataW H} (ht : ts[j]? = some T) (hd : ds[j]? = some d) : Light P T d :=
  List.all_eq_true.2 fun x hx => List.all_eq_true.1 hz x (DataW.weights_mem_each ht hd x hx)

theorem arg_agg {ps : Array TypeId} {args : Array Value} {W : World} {base base' : Nat} {sp : Nat → Bool} {held : Bool} {H : Type} {enc : TypeId × Value → H} (hval : ∀ (j : Nat) t v, ps[j]? = some t → args[j]? = some v → Value.okWide P W .any base t v)
    (j : Nat) (T : TypeId) (v : Value) (hp : ps[j]? = some T) (ha : args[j]? = some v) {α : Type} (r : Rdr P T α) {d : DataW H} {p : List MemPlace} (hs : aggT P T = some true) (h : DataW.Trod enc P W base' sp held T v d p) (hli : Light P T d) :
    ∃ y, r.ok y ∧ RV G0 W (.agg ((r.enc y).map .d)) v := r.agg hs (hval j T v hp ha) h hli
theorem arg_cell {ps : Array TypeId} {args : Array Value} {W : World} {base base' : Nat} {sp : Nat → Bool} {held : Bool} {H : Type} {enc : TypeId × Value → H} (hval : ∀ (j : Nat) t v, ps[j]? = some t → args[j]? = some v → Value.okWide P W .any base t v)
    (j : Nat) (T : TypeId) (v : Value) (hp : ps[j]? = some T) (ha : args[j]? = some v) {α : Type} (r : Rdr P T α) (f : α → D) {d : DataW H} {p : List MemPlace} (hs : aggT P T = some false) (hf : ∀ y, r.enc y = [f y]) (h : DataW.Trod enc P W base' sp held T v d p) (hli : Light P T d) :
    ∃ y, r.ok y ∧ RV G0 W (.d (f y)) v := r.cell f hs hf (hval j T v hp ha) h hli

/-! ### The end -/
theorem le_old {W W' : World} {G' : Gh} (h : Le G0 W G' W') (b : Nat) (hb : b < W.heap.size) : W'.heap[b]? = W.heap[b]? := (h.whole b hb rfl).2
theorem le_kept {W W' : World} {G' : Gh} (h : Le G0 W G' W') (may : MemPlace → Prop) : W.keptBut W' may := by
  refine ⟨h.os, h.output, fun i hi => ?_⟩
  rw [le_old h i hi]
  split
  · rename_i c t fr c' t' fr' e1 e2
    rw [e1] at e2
    cases e2
    exact ⟨rfl, rfl, rfl, fun _ _ => rfl⟩
  · rename_i e1 e2
    rw [e1] at e2
    cases e2
    exact .inr ⟨rfl, rfl⟩
  · rfl
theorem le_same {W W' : World} {G' : Gh} (h : Le G0 W G' W') {p : MemPlace} (hp : p.block < W.heap.size) : W.sameAt W' p := by
  cases p with
  | cell b off => exact World.cell?_of_block (w := W) (a := ⟨b, off, none⟩) (le_old h b hp)
  | map b => exact le_old h b hp
theorem le_frozen {W W' : World} {G' : Gh} (h : Le G0 W G' W') {a : Addr} (ha : a.block < W.heap.size) : W'.frozen? a = W.frozen? a := by
  simp only [World.frozen?, le_old h a.block ha]

theorem trodAll_stays {H : Type} {enc : TypeId × Value → H} {W W' : World} {T : TypeId → Prop} {sp' : Nat → Bool} (K : Kids P T) (hsz : ∀ {t e : TypeId}, T t → P.underlying t = some (.slice e) → 0 < P.cellsOf e) :
    ∀ {ts : List TypeId} {vs : List Value} {ds : List (DataW H)} {ps : List MemPlace}, (∀ t ∈ ts, T t) → DataW.TrodAll enc P W 0 (fun _ => true) true ts vs ds ps → (∀ p ∈ ps, W.sameAt W' p) → (∀ p ∈ ps, sp' p.block = true) →
    DataW.TrodAll enc P W' 0 sp' true ts vs ds ps
  | [], [], [], _, _, h, _, _ => h
  | t :: ts, v :: vs, d :: ds, _, hT, ⟨p, q, ⟨n, hn⟩, h2, e⟩, h3, h4 => by
    subst e
    exact ⟨p, q, ⟨n, DataW.trod_stays K hsz (fun h => by cases h) (hT t (by simp)) hn (fun x hx => h3 x (by simp [hx])) (fun x hx => h4 x (by simp [hx]))⟩,
      trodAll_stays K hsz (fun t ht => hT t (by simp [ht])) h2 (fun x hx => h3 x (by simp [hx])) (fun x hx => h4 x (by simp [hx])), rfl⟩

/-- A law: its contract says that it returns true. -/
theorem law_of {f : FuncId} {fn : Func} {s : ChangeSpec} {H : Type} {enc : TypeId × Value → H} {W : World} {args : Array Value} {ds : List (DataW H)} {before : List MemPlace} {avs : List AV} {tok' : Nat → Bool} {nt' : Nat}
    (hl : laidOutB P = true) (hm : mapsRowed P = true) (hz : ((List.range P.types.size).all fun t => match P.underlying t with | some (.slice e) => decide (0 < P.cellsOf e) | _ => true) = true)
    (hpar : fn.params.all (· < P.types.size) = true) {tb : TypeId} (hres : fn.resultTypes = #[tb]) (hb : P.underlying tb = some .bool)
    (hvars : s.vars = []) (hfn : s.fn H ds = { results := [.lit (.bool true)], args := ds })
    (hW : DataW.Whole enc P fn.params.toList s.vars false W args.toList ds [] before) (hr : RVs G0 W avs args.toList) (hc : DCall P f avs (fun _ => false) 0 (B true) tok' nt') :
    Calls P f args W fun e W' => ∃ v, e = .returned v ∧ s.post enc P fn false true false false W args v W' := by
  have hcall := (hc (fun _ => none) 0).2 G0 W args.toList (relM_start W) hr
  simp only [Array.toArray_toList] at hcall
  refine hcall.mono ?_
  rintro e W' ⟨v, av, m', G', rfl, ⟨rfl, rfl⟩, _, _, hv, hle, _⟩
  cases hv with
  | d hv =>
    cases hv with
    | raw =>
      refine ⟨_, rfl, ?_⟩
      have hlt := hW.lt
      have hWW := hW
      obtain ⟨p, q, hA, hV, rfl, hfz, hnd⟩ := hW
      rw [hvars] at hV
      obtain ⟨_, rfl⟩ := trodVars_none hV
      simp only [List.append_nil] at hlt hfz hWW ⊢
      have hT : ∀ t ∈ fn.params.toList, t < P.types.size := fun t ht => by
        have := Array.all_eq_true_iff_forall_mem.1 hpar t (by simpa using ht)
        simpa using this
      have hsz : ∀ {t e : TypeId}, t < P.types.size → P.underlying t = some (.slice e) → 0 < P.cellsOf e := by
        intro t e ht hu
        have := List.all_eq_true.1 hz t (List.mem_range.2 ht)
        rw [hu] at this
        simpa using this
      have hargs : ∀ sp : Nat → Bool, (∀ x ∈ p, sp x.block = true) → DataW.TrodAll enc P W' 0 sp true fn.params.toList args.toList ds p := fun sp hsp =>
        trodAll_stays (kids_rows hl hm) hsz hT hA (fun x hx => le_same hle (hlt x hx)) hsp
      have hnat : (Value.bool true).resultList fn.resultTypes.size = [.bool true] := by rw [hres]; rfl
      have hresb : ∀ (b : Nat) (sp : Nat → Bool) (hd : Bool), DataW.TrodAll enc P W' b sp hd fn.resultTypes.toList ((Value.bool true).resultList fn.resultTypes.size) [.lit (.bool true)] [] := fun b sp hd => by
        rw [hnat, hres]
        exact trodAll_mk1 ⟨1, by simp [DataW.trod, hb, Value.cells]⟩
      have hfn' : s.fn H (ds ++ []) = { results := [.lit (.bool true)], args := ds } := by rw [List.append_nil]; exact hfn
      refine ⟨ds, [], p, [], p, [], hWW, ?_, ?_, ?_, World.keptBut_mono (fun _ f => f.elim) (le_kept hle fun _ => False), fun h => by cases h⟩
      · rw [hfn']; exact hresb _ _ _
      · rw [hfn']; exact hargs _ fun x hx => by simpa using hlt x hx
      · rw [hfn', hvars]; exact rfl
end Go.AM
/-
  What the arguments of this chapter's statements read as: graphs, morphisms, overlaps.
-/
namespace Go.AM
open Go Go.Proofs

theorem own0 : ownKnob Try.prog.godebug = none := by kernel_rfl
theorem laidOut0 : laidOutB Try.prog = true := by kernel_rfl
theorem mapsRowed0 : mapsRowed Try.prog = true := by kernel_rfl
theorem slices0 : ((List.range Try.prog.types.size).all fun t => match Try.prog.underlying t with | some (.slice e) => decide (0 < Try.prog.cellsOf e) | _ => true) = true := by kernel_rfl

def rdInt : Rdr Try.prog 3 Int := Rdr.int (k := .i64) Try.underlying3 (by kernel_rfl)
def rdInts : Rdr Try.prog 22 (List Int) := rdInt.sliceN 1 Try.underlying22 (by kernel_rfl) (by kernel_rfl)
def rdEdge0 : Rdr Try.prog 78 (Int × Int × Int) := Rdr.struct3 rdInt rdInt rdInt Try.underlying78 rfl rfl rfl rfl (by kernel_rfl) (by kernel_rfl) (by kernel_rfl)
def rdEdge : Rdr Try.prog 78 E := rdEdge0.map (fun x => ⟨x.1, x.2.1, x.2.2⟩) E.cells (fun _ => True) (fun _ => rfl) (fun _ _ => trivial) (fun _ => by kernel_rfl)
def rdEdges : Rdr Try.prog 23 (List E) := rdEdge.sliceN 3 Try.underlying23 (by kernel_rfl) (by kernel_rfl)
def rdGraph0 : Rdr Try.prog 25 (List Int × List E) := Rdr.struct2 rdInts rdEdges Try.underlying25 rfl rfl rfl (by kernel_rfl) (by kernel_rfl)
def rdGraph : Rdr Try.prog 25 Gr := rdGraph0.map (fun x => ⟨x.1, x.2⟩) (fun g => [ints g.nodes, AM.edges g.edges]) (fun _ => True) (fun _ => rfl) (fun _ _ => trivial) (fun _ => by kernel_rfl)

theorem rdGraph_enc (g : Gr) : rdGraph.enc g = [ints g.nodes, AM.edges g.edges] := rfl

set_option maxRecDepth 100000 in
theorem arg_graph {ps : Array TypeId} {args : Array Value} {W : World} {base base' : Nat} {sp : Nat → Bool} {held : Bool} {H : Type} {enc : TypeId × Value → H} (hval : ∀ (j : Nat) t v, ps[j]? = some t → args[j]? = some v → Value.okWide Try.prog W .any base t v)
    (j : Nat) (v : Value) (hp : ps[j]? = some 25) (ha : args[j]? = some v) {d : DataW H} {p : List MemPlace} (h : DataW.Trod enc Try.prog W base' sp held 25 v d p) (hli : Light Try.prog 25 d) : ∃ g : Gr, RV G0 W g.av v := by
  refine Exists.elim (arg_agg hval j 25 v hp ha rdGraph aggT_25 h hli) fun g hg => ⟨g, ?_⟩
  exact hg.2
end Go.AM
