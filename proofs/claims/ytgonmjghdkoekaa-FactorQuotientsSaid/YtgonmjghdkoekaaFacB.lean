import Derived.Test.YtgonmjghdkoekaaAmTab
import Derived.Test.YtgonmjghdkoekaaAmUse2
namespace Go.AM
open Go Go.Proofs
set_option linter.unusedSimpArgs false
set_option linter.unusedVariables false

/-! ### slices.Clone -/
theorem clone_c (xs : List Int) (hx : xs.length ≤ 1000000) (tok : Nat → Bool) (nt : Nat) : DCall Try.prog 59 [.d (ints xs)] tok nt (.osl 1 (rI xs) (.tok nt)) (upd tok nt true) (nt + 1) := by
  intro box nb
  have main : ACalls Try.prog 59 [.d (ints xs)] ⟨box, nb, tok, nt⟩ fun v m => (v = .osl 1 (rI xs) (.tok nt) ∧ m = ⟨box, nb, upd tok nt true, nt + 1⟩) ∨ (xs = [] ∧ v = .osl 0 [] .full ∧ m = ⟨box, nb, tok, nt⟩) := by
    refine ACalls.of_body Try.func59 rfl (by kernel_rfl) follows_Try (by kernel_rfl) (by simp [Try.ntmps59]) ?_
    intro hbox htok
    simp only at hbox htok
    apply AL.start
    repeat (first | refine AL.seq ?_ | refine AL.block ?_ | refine AL.skip ?_ | refine AL.blk ?_)
    refine AL.region follows_Try (Nat.le_refl _) (by kernel_rfl) ?_
    simp
    repeat (first | refine AL.seq ?_ | refine AL.block ?_ | refine AL.skip ?_ | refine AL.blk ?_)
    refine AL.region follows_Try (Nat.le_refl _) (by kernel_rfl) ?_
    simp
    refine ⟨?_, fun h => ?_⟩
    · repeat (first | refine AL.seq ?_ | refine AL.block ?_ | refine AL.skip ?_ | refine AL.blk ?_)
      refine AL.cond ?_
      simp
      repeat (first | refine AL.seq ?_ | refine AL.block ?_ | refine AL.skip ?_ | refine AL.blk ?_)
      refine AL.region follows_Try (Nat.le_refl _) (by kernel_rfl) ?_
      simp
      refine ⟨by omega, ?_⟩
      repeat (first | refine AL.seq ?_ | refine AL.block ?_ | refine AL.skip ?_ | refine AL.blk ?_)
      refine AL.ret ?_
      try simp only [AU]
      refine ⟨by simp, (Fin.own (by simp [resAs, resA]; rfl) hbox rfl (by simp) ?_).mono fun v m hq => .inl hq⟩
      simp [packA]
    · repeat (first | refine AL.seq ?_ | refine AL.block ?_ | refine AL.skip ?_ | refine AL.blk ?_)
      refine AL.cond ?_
      simp
      repeat (first | refine AL.seq ?_ | refine AL.block ?_ | refine AL.skip ?_ | refine AL.blk ?_)
      refine AL.region follows_Try (Nat.le_refl _) (by kernel_rfl) ?_
      simp
      repeat (first | refine AL.seq ?_ | refine AL.block ?_ | refine AL.skip ?_ | refine AL.blk ?_)
      refine AL.ret ?_
      try simp only [AU]
      refine ⟨by simp, (Fin.own (by simp [resAs, resA]; rfl) hbox rfl (Nat.le_refl _) ?_).mono fun v m hq => .inr ⟨h, hq.1, hq.2⟩⟩
      simp [packA]
  refine main.conv fun v m h => ?_
  rcases h with ⟨rfl, rfl⟩ | ⟨rfl, rfl, rfl⟩
  · exact ⟨_, _, Conv.refl _ _, rfl, rfl⟩
  · exact ⟨_, _, Conv.newtok 0 1 box nb tok nt, rfl, rfl⟩

theorem cloneE_c (xs : List E) (hx : xs.length ≤ 1000000) (tok : Nat → Bool) (nt : Nat) : DCall Try.prog 90 [.d (AM.edges xs)] tok nt (.osl 3 (rE xs) (.tok nt)) (upd tok nt true) (nt + 1) := by
  intro box nb
  have main : ACalls Try.prog 90 [.d (AM.edges xs)] ⟨box, nb, tok, nt⟩ fun v m => (v = .osl 3 (rE xs) (.tok nt) ∧ m = ⟨box, nb, upd tok nt true, nt + 1⟩) ∨ (xs = [] ∧ v = .osl 0 [] .full ∧ m = ⟨box, nb, tok, nt⟩) := by
    refine ACalls.of_body Try.func90 rfl (by kernel_rfl) follows_Try (by kernel_rfl) (by simp [Try.ntmps90]) ?_
    intro hbox htok
    simp only at hbox htok
    apply AL.start
    repeat (first | refine AL.seq ?_ | refine AL.block ?_ | refine AL.skip ?_ | refine AL.blk ?_)
    refine AL.region follows_Try (Nat.le_refl _) (by kernel_rfl) ?_
    simp
    repeat (first | refine AL.seq ?_ | refine AL.block ?_ | refine AL.skip ?_ | refine AL.blk ?_)
    refine AL.region follows_Try (Nat.le_refl _) (by kernel_rfl) ?_
    simp
    refine ⟨?_, fun h => ?_⟩
    · repeat (first | refine AL.seq ?_ | refine AL.block ?_ | refine AL.skip ?_ | refine AL.blk ?_)
      refine AL.cond ?_
      simp
      repeat (first | refine AL.seq ?_ | refine AL.block ?_ | refine AL.skip ?_ | refine AL.blk ?_)
      refine AL.region follows_Try (Nat.le_refl _) (by kernel_rfl) ?_
      simp
      refine ⟨by omega, ?_⟩
      repeat (first | refine AL.seq ?_ | refine AL.block ?_ | refine AL.skip ?_ | refine AL.blk ?_)
      refine AL.ret ?_
      try simp only [AU]
      refine ⟨by simp, (Fin.own (by simp [resAs, resA]; rfl) hbox rfl (by simp) ?_).mono fun v m hq => .inl hq⟩
      simp [packA]
    · repeat (first | refine AL.seq ?_ | refine AL.block ?_ | refine AL.skip ?_ | refine AL.blk ?_)
      refine AL.cond ?_
      simp
      repeat (first | refine AL.seq ?_ | refine AL.block ?_ | refine AL.skip ?_ | refine AL.blk ?_)
      refine AL.region follows_Try (Nat.le_refl _) (by kernel_rfl) ?_
      simp
      repeat (first | refine AL.seq ?_ | refine AL.block ?_ | refine AL.skip ?_ | refine AL.blk ?_)
      refine AL.ret ?_
      try simp only [AU]
      refine ⟨by simp, (Fin.own (by simp [resAs, resA]; rfl) hbox rfl (Nat.le_refl _) ?_).mono fun v m hq => .inr ⟨h, hq.1, hq.2⟩⟩
      simp [packA]
  refine main.conv fun v m h => ?_
  rcases h with ⟨rfl, rfl⟩ | ⟨rfl, rfl, rfl⟩
  · exact ⟨_, _, Conv.refl _ _, rfl, rfl⟩
  · exact ⟨_, _, Conv.newtok 0 3 box nb tok nt, rfl, rfl⟩

/-! ### slices.Index, Contains -/
def indexI (xs : List Int) (v : Int) : Int := if v ∈ xs then (xs.idxOf v : Int) else -1

def st66 (xs : List Int) (v : Int) (nb : Nat) (box : Nat → Option (List (List AV))) (tok : Nat → Bool) (nt : Nat) (i : Nat) : AState := ⟨tl [(0, .d (ints xs)), (1, I v), (7, I xs.length), (8, I i)], lb nb box [], tok, nt⟩

theorem index_c (xs : List Int) (v : Int) (hx : xs.length ≤ 1000000) (tok : Nat → Bool) (nt : Nat) : DCall Try.prog 66 [.d (ints xs), I v] tok nt (I (indexI xs v)) tok nt := by
  intro box nb
  refine ACalls.of_body Try.func66 rfl (by kernel_rfl) follows_Try (by kernel_rfl) (by simp [Try.ntmps66]) ?_
  intro hbox htok
  simp only at hbox htok
  apply AL.start
  repeat (first | refine AL.seq ?_ | refine AL.block ?_ | refine AL.skip ?_ | refine AL.blk ?_)
  refine AL.region follows_Try (Nat.le_refl _) (by kernel_rfl) ?_
  simp
  repeat (first | refine AL.seq ?_ | refine AL.block ?_ | refine AL.skip ?_ | refine AL.blk ?_)
  refine AL.region follows_Try (Nat.le_refl _) (by kernel_rfl) ?_
  simp
  repeat (first | refine AL.seq ?_ | refine AL.block ?_ | refine AL.skip ?_ | refine AL.blk ?_)
  refine AL.loopT (st66 xs v nb box tok nt) (fun i => i ≤ xs.length ∧ v ∉ xs.take i) (fun i => xs.length - i) 0 ⟨Nat.zero_le _, by simp⟩ (Weaks.mk (Nat.le_refl _) rfl (by simp [ToL]) trivial) ?_
  rintro i S ⟨hi, htk⟩ hS
  simp only [st66] at hS
  subst hS
  have hw : IntKind.i64.wrap (↑i + 1) = ((i + 1 : Nat) : Int) := by rw [wrap_in (by omega) (by omega)]; rfl
  repeat (first | refine AL.seq ?_ | refine AL.block ?_ | refine AL.skip ?_ | refine AL.blk ?_)
  refine AL.region follows_Try (Nat.le_refl _) (by kernel_rfl) ?_
  simp
  repeat (first | refine AL.seq ?_ | refine AL.block ?_ | refine AL.skip ?_ | refine AL.blk ?_)
  refine AL.cond ?_
  simp
  refine ⟨fun hlt => ?_, fun hge => ?_⟩
  · have hsp : xs = xs.take i ++ xs[i] :: xs.drop (i + 1) := by simp
    repeat (first | refine AL.seq ?_ | refine AL.block ?_ | refine AL.skip ?_ | refine AL.blk ?_)
    refine AL.region follows_Try (Nat.le_refl _) (by kernel_rfl) ?_
    simp
    repeat (first | refine AL.seq ?_ | refine AL.block ?_ | refine AL.skip ?_ | refine AL.blk ?_)
    refine AL.region follows_Try (Nat.le_refl _) (by kernel_rfl) ?_
    simp [hlt]
    repeat (first | refine AL.seq ?_ | refine AL.block ?_ | refine AL.skip ?_ | refine AL.blk ?_)
    refine AL.cond ?_
    simp
    refine ⟨fun he => ?_, fun hne => ?_⟩
    · repeat (first | refine AL.seq ?_ | refine AL.block ?_ | refine AL.skip ?_ | refine AL.blk ?_)
      refine AL.region follows_Try (Nat.le_refl _) (by kernel_rfl) ?_
      simp
      have hmem : v ∈ xs := by rw [he]; exact List.getElem_mem _
      have hid : xs.idxOf v = i := by
        unfold List.idxOf
        rw [List.findIdx_eq hlt]
        refine ⟨by simp [he], fun j hj => ?_⟩
        have : xs[j] ≠ v := fun e => htk (by rw [← e, List.mem_take_iff_getElem]; exact ⟨j, by omega, rfl⟩)
        simpa using this
      repeat (first | refine AL.seq ?_ | refine AL.block ?_ | refine AL.skip ?_ | refine AL.blk ?_)
      refine AL.ret ?_
      try simp only [AU]
      refine ⟨by simp, Fin.data (by simp [resAs, resA]; rfl) hbox rfl htok (fun _ h => h) (Nat.le_refl _) ?_⟩
      simp [packA, indexI, hmem, hid]
    · repeat (first | refine AL.seq ?_ | refine AL.block ?_ | refine AL.skip ?_ | refine AL.blk ?_)
      refine AL.region follows_Try (Nat.le_refl _) (by kernel_rfl) ?_
      simp [hw]
      repeat (first | refine AL.seq ?_ | refine AL.block ?_ | refine AL.skip ?_ | refine AL.blk ?_)
      refine AL.nil ?_
      refine ⟨i + 1, ⟨hlt, ?_⟩, by omega, Weaks.mk (Nat.le_refl _) rfl (by simp [ToL]) trivial⟩
      rw [List.take_succ_eq_append_getElem hlt]
      simp only [List.mem_append, List.mem_singleton, not_or]
      exact ⟨htk, hne⟩
  · repeat (first | refine AL.seq ?_ | refine AL.block ?_ | refine AL.skip ?_ | refine AL.blk ?_)
    refine AL.exit ?_
    simp only [AU, ↓reduceIte]
    repeat (first | refine AL.seq ?_ | refine AL.block ?_ | refine AL.skip ?_ | refine AL.blk ?_)
    refine AL.region follows_Try (Nat.le_refl _) (by kernel_rfl) ?_
    simp
    have hn : v ∉ xs := by rwa [List.take_of_length_le hge] at htk
    repeat (first | refine AL.seq ?_ | refine AL.block ?_ | refine AL.skip ?_ | refine AL.blk ?_)
    refine AL.ret ?_
    try simp only [AU]
    refine ⟨by simp, Fin.data (by simp [resAs, resA]; rfl) hbox rfl htok (fun _ h => h) (Nat.le_refl _) ?_⟩
    simp [packA, indexI, hn]

theorem indexI_nonneg (xs : List Int) (v : Int) : (0 ≤ indexI xs v) ↔ v ∈ xs := by
  unfold indexI
  split <;> simp [*]

theorem contains_c (xs : List Int) (v : Int) (hx : xs.length ≤ 1000000) (tok : Nat → Bool) (nt : Nat) : DCall Try.prog 84 [.d (ints xs), I v] tok nt (B (decide (v ∈ xs))) tok nt := by
  intro box nb
  refine ACalls.of_body Try.func84 rfl (by kernel_rfl) follows_Try (by kernel_rfl) (by simp [Try.ntmps84]) ?_
  intro hbox htok
  simp only at hbox htok
  apply AL.start
  repeat (first | refine AL.seq ?_ | refine AL.block ?_ | refine AL.skip ?_ | refine AL.blk ?_)
  refine AL.region follows_Try (Nat.le_refl _) (by kernel_rfl) ?_
  simp
  repeat (first | refine AL.seq ?_ | refine AL.block ?_ | refine AL.skip ?_ | refine AL.blk ?_)
  refine AL.region follows_Try (Nat.le_refl _) (by kernel_rfl) ?_
  simp
  refine Stop.of_d (index_c xs v hx _ _) ?_
  simp
  repeat (first | refine AL.seq ?_ | refine AL.block ?_ | refine AL.skip ?_ | refine AL.blk ?_)
  refine AL.ret ?_
  try simp only [AU]
  refine ⟨by simp, Fin.data (by simp [resAs, resA]; rfl) hbox rfl htok (fun _ h => h) (Nat.le_refl _) ?_⟩
  simp [packA, indexI_nonneg]

/-! ### slices.IndexFunc, ContainsFunc -/
def findI {α : Type} (p : α → Bool) (xs : List α) : Int := if xs.any p then (xs.findIdx p : Int) else -1

def anyB {α : Type} (p : α → Bool) (xs : List α) : Bool := xs.any p

theorem findI_nonneg {α : Type} (p : α → Bool) (xs : List α) : (0 ≤ findI p xs) ↔ xs.any p = true := by
  unfold findI
  split <;> simp [*]

theorem any_take {α : Type} {p : α → Bool} {xs : List α} {i : Nat} (h : i < xs.length) (h1 : ∀ x ∈ xs.take i, p x = false) (h2 : p xs[i] = true) : xs.any p = true ∧ xs.findIdx p = i := by
  have hany : xs.any p = true := List.any_eq_true.2 ⟨_, List.getElem_mem h, h2⟩
  refine ⟨hany, ?_⟩
  rw [List.findIdx_eq h]
  refine ⟨h2, fun j hj => ?_⟩
  have := h1 xs[j] (by
    rw [List.mem_take_iff_getElem]
    exact ⟨j, by omega, rfl⟩)
  simpa using this

def st96 (xs : List Int) (f : FuncId) (caps : List AV) (nb : Nat) (box : Nat → Option (List (List AV))) (tok : Nat → Bool) (nt : Nat) (i : Nat) : AState := ⟨tl [(0, .d (ints xs)), (1, .fn (.func f) caps), (7, I xs.length), (8, I i)], lb nb box [], tok, nt⟩

theorem indexFunc_c (xs : List Int) (f : FuncId) (caps : List AV) (p : Int → Bool) (hx : xs.length ≤ 1000000) (box : Nat → Option (List (List AV))) (nb : Nat) (tok : Nat → Bool) (nt : Nat) (hc : ∀ c ∈ caps, OkIn (fun k => box k ≠ none) (fun _ => True) c)
    (hf : ∀ x ∈ xs, ∀ box' nb', Ext box box' → ACalls Try.prog f (I x :: caps) ⟨box', nb', tok, nt⟩ fun v m => v = B (p x) ∧ m = ⟨box', nb', tok, nt⟩) :
    ACalls Try.prog 96 [.d (ints xs), .fn (.func f) caps] ⟨box, nb, tok, nt⟩ fun v m => v = I (findI p xs) ∧ m = ⟨box, nb, tok, nt⟩ := by
  refine ACalls.of_body Try.func96 rfl (by kernel_rfl) follows_Try (by kernel_rfl) (by simp [Try.ntmps96]) ?_
  intro hbox htok
  simp only at hbox htok
  apply AL.start
  repeat (first | refine AL.seq ?_ | refine AL.block ?_ | refine AL.skip ?_ | refine AL.blk ?_)
  refine AL.region follows_Try (Nat.le_refl _) (by kernel_rfl) ?_
  simp
  repeat (first | refine AL.seq ?_ | refine AL.block ?_ | refine AL.skip ?_ | refine AL.blk ?_)
  refine AL.region follows_Try (Nat.le_refl _) (by kernel_rfl) ?_
  simp
  repeat (first | refine AL.seq ?_ | refine AL.block ?_ | refine AL.skip ?_ | refine AL.blk ?_)
  refine AL.loopT (st96 xs f caps nb box tok nt) (fun i => i ≤ xs.length ∧ ∀ x ∈ xs.take i, p x = false) (fun i => xs.length - i) 0 ⟨Nat.zero_le _, by simp⟩ (Weaks.mk (Nat.le_refl _) rfl (by simp [ToL]; exact .same (okFn hc hbox [] (by simp) rfl _)) trivial) ?_
  rintro i S ⟨hi, htk⟩ hS
  simp only [st96] at hS
  subst hS
  have hw : IntKind.i64.wrap (↑i + 1) = ((i + 1 : Nat) : Int) := by rw [wrap_in (by omega) (by omega)]; rfl
  repeat (first | refine AL.seq ?_ | refine AL.block ?_ | refine AL.skip ?_ | refine AL.blk ?_)
  refine AL.region follows_Try (Nat.le_refl _) (by kernel_rfl) ?_
  simp
  repeat (first | refine AL.seq ?_ | refine AL.block ?_ | refine AL.skip ?_ | refine AL.blk ?_)
  refine AL.cond ?_
  simp
  refine ⟨fun hlt => ?_, fun hge => ?_⟩
  · repeat (first | refine AL.seq ?_ | refine AL.block ?_ | refine AL.skip ?_ | refine AL.blk ?_)
    refine AL.region follows_Try (Nat.le_refl _) (by kernel_rfl) ?_
    simp
    repeat (first | refine AL.seq ?_ | refine AL.block ?_ | refine AL.skip ?_ | refine AL.blk ?_)
    refine AL.region follows_Try (Nat.le_refl _) (by kernel_rfl) ?_
    simp [hlt]
    refine Stop.of_b (hf xs[i] (List.getElem_mem _) _ _ ((Ext.refl box).lb hbox [])) ?_
    simp
    repeat (first | refine AL.seq ?_ | refine AL.block ?_ | refine AL.skip ?_ | refine AL.blk ?_)
    refine AL.cond ?_
    simp
    refine ⟨fun he => ?_, fun hne => ?_⟩
    · repeat (first | refine AL.seq ?_ | refine AL.block ?_ | refine AL.skip ?_ | refine AL.blk ?_)
      refine AL.region follows_Try (Nat.le_refl _) (by kernel_rfl) ?_
      simp
      obtain ⟨h1, h2⟩ := any_take hlt htk he
      repeat (first | refine AL.seq ?_ | refine AL.block ?_ | refine AL.skip ?_ | refine AL.blk ?_)
      refine AL.ret ?_
      try simp only [AU]
      refine ⟨by simp, Fin.data (by simp [resAs, resA]; rfl) hbox rfl htok (fun _ h => h) (Nat.le_refl _) ?_⟩
      simp [packA, findI, h1, h2]
    · repeat (first | refine AL.seq ?_ | refine AL.block ?_ | refine AL.skip ?_ | refine AL.blk ?_)
      refine AL.region follows_Try (Nat.le_refl _) (by kernel_rfl) ?_
      simp [hw]
      repeat (first | refine AL.seq ?_ | refine AL.block ?_ | refine AL.skip ?_ | refine AL.blk ?_)
      refine AL.nil ?_
      refine ⟨i + 1, ⟨hlt, ?_⟩, by omega, Weaks.mk (Nat.le_refl _) rfl (by simp [ToL]; exact .same (okFn hc hbox [] (by simp) rfl _)) trivial⟩
      rw [List.take_succ_eq_append_getElem hlt]
      intro x hx
      rcases List.mem_append.1 hx with hx | hx
      · exact htk x hx
      · simp at hx; rw [hx]; exact hne
  · repeat (first | refine AL.seq ?_ | refine AL.block ?_ | refine AL.skip ?_ | refine AL.blk ?_)
    refine AL.exit ?_
    simp only [AU, ↓reduceIte]
    repeat (first | refine AL.seq ?_ | refine AL.block ?_ | refine AL.skip ?_ | refine AL.blk ?_)
    refine AL.region follows_Try (Nat.le_refl _) (by kernel_rfl) ?_
    simp
    have hn : xs.any p = false := by
      rw [List.take_of_length_le hge] at htk
      simpa using htk
    repeat (first | refine AL.seq ?_ | refine AL.block ?_ | refine AL.skip ?_ | refine AL.blk ?_)
    refine AL.ret ?_
    try simp only [AU]
    refine ⟨by simp, Fin.data (by simp [resAs, resA]; rfl) hbox rfl htok (fun _ h => h) (Nat.le_refl _) ?_⟩
    simp [packA, findI, hn]

theorem containsFunc_c (xs : List Int) (f : FuncId) (caps : List AV) (p : Int → Bool) (hx : xs.length ≤ 1000000) (box : Nat → Option (List (List AV))) (nb : Nat) (tok : Nat → Bool) (nt : Nat) (hc : ∀ c ∈ caps, OkIn (fun k => box k ≠ none) (fun _ => True) c)
    (hf : ∀ x ∈ xs, ∀ box' nb', Ext box box' → ACalls Try.prog f (I x :: caps) ⟨box', nb', tok, nt⟩ fun v m => v = B (p x) ∧ m = ⟨box', nb', tok, nt⟩) :
    ACalls Try.prog 77 [.d (ints xs), .fn (.func f) caps] ⟨box, nb, tok, nt⟩ fun v m => v = B (anyB p xs) ∧ m = ⟨box, nb, tok, nt⟩ := by
  refine ACalls.of_body Try.func77 rfl (by kernel_rfl) follows_Try (by kernel_rfl) (by simp [Try.ntmps77]) ?_
  intro hbox htok
  simp only at hbox htok
  apply AL.start
  repeat (first | refine AL.seq ?_ | refine AL.block ?_ | refine AL.skip ?_ | refine AL.blk ?_)
  refine AL.region follows_Try (Nat.le_refl _) (by kernel_rfl) ?_
  simp
  repeat (first | refine AL.seq ?_ | refine AL.block ?_ | refine AL.skip ?_ | refine AL.blk ?_)
  refine AL.region follows_Try (Nat.le_refl _) (by kernel_rfl) ?_
  simp
  refine Stop.of_b (indexFunc_c xs f caps p hx (lb nb box []) _ _ _ (fun c h => (hc c h).mono (fun k hk => by rw [hbox]; exact hk) fun _ h => h) (fun x hx' box' nb' he => hf x hx' box' nb' (by rw [hbox] at he; exact he))) ?_
  simp
  have hany : decide (∃ x, x ∈ xs ∧ p x = true) = anyB p xs := by rw [Bool.eq_iff_iff]; simp [anyB]
  repeat (first | refine AL.seq ?_ | refine AL.block ?_ | refine AL.skip ?_ | refine AL.blk ?_)
  refine AL.ret ?_
  try simp only [AU]
  refine ⟨by simp, Fin.data (by simp [resAs, resA]; rfl) hbox rfl htok (fun _ h => h) (Nat.le_refl _) ?_⟩
  simp [packA, findI_nonneg, hany]
def st97 (xs : List E) (f : FuncId) (caps : List AV) (nb : Nat) (box : Nat → Option (List (List AV))) (tok : Nat → Bool) (nt : Nat) (i : Nat) : AState := ⟨tl [(0, .d (AM.edges xs)), (1, .fn (.func f) caps), (7, I xs.length), (8, I i)], lb nb box [], tok, nt⟩

theorem indexFuncE_c (xs : List E) (f : FuncId) (caps : List AV) (p : E → Bool) (hx : xs.length ≤ 1000000) (box : Nat → Option (List (List AV))) (nb : Nat) (tok : Nat → Bool) (nt : Nat) (hc : ∀ c ∈ caps, OkIn (fun k => box k ≠ none) (fun _ => True) c)
    (hf : ∀ x ∈ xs, ∀ box' nb', Ext box box' → ACalls Try.prog f (.agg [I x.ty, I x.fr, I x.to] :: caps) ⟨box', nb', tok, nt⟩ fun v m => v = B (p x) ∧ m = ⟨box', nb', tok, nt⟩) :
    ACalls Try.prog 97 [.d (AM.edges xs), .fn (.func f) caps] ⟨box, nb, tok, nt⟩ fun v m => v = I (findI p xs) ∧ m = ⟨box, nb, tok, nt⟩ := by
  refine ACalls.of_body Try.func97 rfl (by kernel_rfl) follows_Try (by kernel_rfl) (by simp [Try.ntmps97]) ?_
  intro hbox htok
  simp only at hbox htok
  apply AL.start
  repeat (first | refine AL.seq ?_ | refine AL.block ?_ | refine AL.skip ?_ | refine AL.blk ?_)
  refine AL.region follows_Try (Nat.le_refl _) (by kernel_rfl) ?_
  simp
  repeat (first | refine AL.seq ?_ | refine AL.block ?_ | refine AL.skip ?_ | refine AL.blk ?_)
  refine AL.region follows_Try (Nat.le_refl _) (by kernel_rfl) ?_
  simp
  repeat (first | refine AL.seq ?_ | refine AL.block ?_ | refine AL.skip ?_ | refine AL.blk ?_)
  refine AL.loopT (st97 xs f caps nb box tok nt) (fun i => i ≤ xs.length ∧ ∀ x ∈ xs.take i, p x = false) (fun i => xs.length - i) 0 ⟨Nat.zero_le _, by simp⟩ (Weaks.mk (Nat.le_refl _) rfl (by simp [ToL]; exact .same (okFn hc hbox [] (by simp) rfl _)) trivial) ?_
  rintro i S ⟨hi, htk⟩ hS
  simp only [st97] at hS
  subst hS
  have hw : IntKind.i64.wrap (↑i + 1) = ((i + 1 : Nat) : Int) := by rw [wrap_in (by omega) (by omega)]; rfl
  repeat (first | refine AL.seq ?_ | refine AL.block ?_ | refine AL.skip ?_ | refine AL.blk ?_)
  refine AL.region follows_Try (Nat.le_refl _) (by kernel_rfl) ?_
  simp
  repeat (first | refine AL.seq ?_ | refine AL.block ?_ | refine AL.skip ?_ | refine AL.blk ?_)
  refine AL.cond ?_
  simp
  refine ⟨fun hlt => ?_, fun hge => ?_⟩
  · repeat (first | refine AL.seq ?_ | refine AL.block ?_ | refine AL.skip ?_ | refine AL.blk ?_)
    refine AL.region follows_Try (Nat.le_refl _) (by kernel_rfl) ?_
    simp
    repeat (first | refine AL.seq ?_ | refine AL.block ?_ | refine AL.skip ?_ | refine AL.blk ?_)
    refine AL.region follows_Try (Nat.le_refl _) (by kernel_rfl) ?_
    simp [hlt]
    refine Stop.of_b (hf xs[i] (List.getElem_mem _) _ _ ((Ext.refl box).lb hbox [])) ?_
    simp
    repeat (first | refine AL.seq ?_ | refine AL.block ?_ | refine AL.skip ?_ | refine AL.blk ?_)
    refine AL.cond ?_
    simp
    refine ⟨fun he => ?_, fun hne => ?_⟩
    · repeat (first | refine AL.seq ?_ | refine AL.block ?_ | refine AL.skip ?_ | refine AL.blk ?_)
      refine AL.region follows_Try (Nat.le_refl _) (by kernel_rfl) ?_
      simp
      obtain ⟨h1, h2⟩ := any_take hlt htk he
      repeat (first | refine AL.seq ?_ | refine AL.block ?_ | refine AL.skip ?_ | refine AL.blk ?_)
      refine AL.ret ?_
      try simp only [AU]
      refine ⟨by simp, Fin.data (by simp [resAs, resA]; rfl) hbox rfl htok (fun _ h => h) (Nat.le_refl _) ?_⟩
      simp [packA, findI, h1, h2]
    · repeat (first | refine AL.seq ?_ | refine AL.block ?_ | refine AL.skip ?_ | refine AL.blk ?_)
      refine AL.region follows_Try (Nat.le_refl _) (by kernel_rfl) ?_
      simp [hw]
      repeat (first | refine AL.seq ?_ | refine AL.block ?_ | refine AL.skip ?_ | refine AL.blk ?_)
      refine AL.nil ?_
      refine ⟨i + 1, ⟨hlt, ?_⟩, by omega, Weaks.mk (Nat.le_refl _) rfl (by simp [ToL]; exact .same (okFn hc hbox [] (by simp) rfl _)) trivial⟩
      rw [List.take_succ_eq_append_getElem hlt]
      intro x hx
      rcases List.mem_append.1 hx with hx | hx
      · exact htk x hx
      · simp at hx; rw [hx]; exact hne
  · repeat (first | refine AL.seq ?_ | refine AL.block ?_ | refine AL.skip ?_ | refine AL.blk ?_)
    refine AL.exit ?_
    simp only [AU, ↓reduceIte]
    repeat (first | refine AL.seq ?_ | refine AL.block ?_ | refine AL.skip ?_ | refine AL.blk ?_)
    refine AL.region follows_Try (Nat.le_refl _) (by kernel_rfl) ?_
    simp
    have hn : xs.any p = false := by
      rw [List.take_of_length_le hge] at htk
      simpa using htk
    repeat (first | refine AL.seq ?_ | refine AL.block ?_ | refine AL.skip ?_ | refine AL.blk ?_)
    refine AL.ret ?_
    try simp only [AU]
    refine ⟨by simp, Fin.data (by simp [resAs, resA]; rfl) hbox rfl htok (fun _ h => h) (Nat.le_refl _) ?_⟩
    simp [packA, findI, hn]

theorem containsFuncE_c (xs : List E) (f : FuncId) (caps : List AV) (p : E → Bool) (hx : xs.length ≤ 1000000) (box : Nat → Option (List (List AV))) (nb : Nat) (tok : Nat → Bool) (nt : Nat) (hc : ∀ c ∈ caps, OkIn (fun k => box k ≠ none) (fun _ => True) c)
    (hf : ∀ x ∈ xs, ∀ box' nb', Ext box box' → ACalls Try.prog f (.agg [I x.ty, I x.fr, I x.to] :: caps) ⟨box', nb', tok, nt⟩ fun v m => v = B (p x) ∧ m = ⟨box', nb', tok, nt⟩) :
    ACalls Try.prog 80 [.d (AM.edges xs), .fn (.func f) caps] ⟨box, nb, tok, nt⟩ fun v m => v = B (anyB p xs) ∧ m = ⟨box, nb, tok, nt⟩ := by
  refine ACalls.of_body Try.func80 rfl (by kernel_rfl) follows_Try (by kernel_rfl) (by simp [Try.ntmps80]) ?_
  intro hbox htok
  simp only at hbox htok
  apply AL.start
  repeat (first | refine AL.seq ?_ | refine AL.block ?_ | refine AL.skip ?_ | refine AL.blk ?_)
  refine AL.region follows_Try (Nat.le_refl _) (by kernel_rfl) ?_
  simp
  repeat (first | refine AL.seq ?_ | refine AL.block ?_ | refine AL.skip ?_ | refine AL.blk ?_)
  refine AL.region follows_Try (Nat.le_refl _) (by kernel_rfl) ?_
  simp
  refine Stop.of_b (indexFuncE_c xs f caps p hx (lb nb box []) _ _ _ (fun c h => (hc c h).mono (fun k hk => by rw [hbox]; exact hk) fun _ h => h) (fun x hx' box' nb' he => hf x hx' box' nb' (by rw [hbox] at he; exact he))) ?_
  simp
  have hany : decide (∃ x, x ∈ xs ∧ p x = true) = anyB p xs := by rw [Bool.eq_iff_iff]; simp [anyB]
  repeat (first | refine AL.seq ?_ | refine AL.block ?_ | refine AL.skip ?_ | refine AL.blk ?_)
  refine AL.ret ?_
  try simp only [AU]
  refine ⟨by simp, Fin.data (by simp [resAs, resA]; rfl) hbox rfl htok (fun _ h => h) (Nat.le_refl _) ?_⟩
  simp [packA, findI_nonneg, hany]
end Go.AM
