import Derived.Test.YtgonmjghdkoekaaFacP
namespace Go.AM
open Go Go.Proofs
set_option linter.unusedSimpArgs false
set_option linter.unusedVariables false

/-! ### partition.All -/
abbrev rL (L : List (List Int)) : List (List D) := L.map fun l => [ints l]
abbrev lists (L : List (List Int)) : D := .sl 1 (rL L)

/-- The first k ways on from a partition, and all. -/
def nextsK (l : List Int) (k : Nat) : List (List Int) := ((List.range k).filter fun x => decide (x = l.length) || decide (l.getD x 0 = x)).map fun (x : Nat) => l ++ [(x : Int)]
def partsN : Nat → List (List Int)
  | 0 => [[]]
  | n + 1 => (partsN n).flatMap fun l => nextsK l (n + 1)

theorem nextsK_succ (l : List Int) (k : Nat) : nextsK l (k + 1) = nextsK l k ++ (if k = l.length ∨ l.getD k 0 = k then [l ++ [(k : Int)]] else []) := by
  unfold nextsK
  rw [List.range_succ, List.filter_append, List.map_append]
  congr 1
  by_cases h : k = l.length ∨ l.getD k 0 = k <;> simp [h] <;> simp at h <;> simp [h]

theorem partsN_len : ∀ n, ∀ l ∈ partsN n, l.length = n
  | 0 => by simp [partsN]
  | n + 1 => by
    intro l hl
    simp only [partsN, List.mem_flatMap] at hl
    obtain ⟨p, hp, hl⟩ := hl
    have := partsN_len n p hp
    simp only [nextsK, List.mem_map] at hl
    obtain ⟨x, _, rfl⟩ := hl
    simp [this]

theorem partsN_partL : ∀ n, ∀ l ∈ partsN n, PartL l
  | 0 => by intro l hl; simp [partsN] at hl; subst hl; intro i h; simp at h
  | n + 1 => by
    intro l hl
    simp only [partsN, List.mem_flatMap] at hl
    obtain ⟨p, hp, hl⟩ := hl
    have hlen := partsN_len n p hp
    have ih := partsN_partL n p hp
    simp only [nextsK, List.mem_map, List.mem_filter, List.mem_range, Bool.or_eq_true, decide_eq_true_eq] at hl
    obtain ⟨x, ⟨hx, hx2⟩, rfl⟩ := hl
    intro i h
    simp only [List.length_append, List.length_cons, List.length_nil] at h
    by_cases hi : i < p.length
    · rw [List.getElem_append_left hi]
      obtain ⟨h1, h2, h3⟩ := ih i hi
      refine ⟨h1, h2, ?_⟩
      have : p[i].toNat < p.length := by omega
      rw [List.getD_eq_getElem?_getD, List.getElem?_append_left this, ← List.getD_eq_getElem?_getD]
      exact h3
    · have hi2 : i = p.length := by omega
      subst hi2
      simp only [List.getElem_concat_length]
      refine ⟨by omega, by omega, ?_⟩
      rcases hx2 with rfl | hx2
      · simp
      · by_cases hxl : x < p.length
        · simp only [Int.toNat_natCast]
          rw [List.getD_eq_getElem?_getD, List.getElem?_append_left hxl, ← List.getD_eq_getElem?_getD]
          exact hx2
        · have : x = p.length := by omega
          subst this
          simp

theorem nextsK_length (l : List Int) (k : Nat) : (nextsK l k).length ≤ k := by
  unfold nextsK
  simp only [List.length_map]
  exact Nat.le_trans (List.length_filter_le _ _) (by simp)

theorem flatMap_le {α β : Type} (f : α → List β) (k : Nat) (h : ∀ x, (f x).length ≤ k) : ∀ l : List α, (l.flatMap f).length ≤ l.length * k
  | [] => by simp
  | x :: l => by
    have := flatMap_le f k h l
    have := h x
    simp only [List.flatMap_cons, List.length_append, List.length_cons, Nat.succ_mul]
    omega

theorem partsN_few : ∀ n, n ≤ 7 → (partsN n).length ≤ 5040 := by
  have h : ∀ n, (partsN (n + 1)).length ≤ (partsN n).length * (n + 1) := fun n => flatMap_le _ _ (fun l => nextsK_length l _) _
  intro n hn
  have h0 : (partsN 0).length = 1 := rfl
  have h1 : (partsN 1).length ≤ (partsN 0).length * 1 := by simpa using h 0
  have h2 : (partsN 2).length ≤ (partsN 1).length * 2 := by simpa using h 1
  have h3 : (partsN 3).length ≤ (partsN 2).length * 3 := by simpa using h 2
  have h4 : (partsN 4).length ≤ (partsN 3).length * 4 := by simpa using h 3
  have h5 : (partsN 5).length ≤ (partsN 4).length * 5 := by simpa using h 4
  have h6 : (partsN 6).length ≤ (partsN 5).length * 6 := by simpa using h 5
  have h7 : (partsN 7).length ≤ (partsN 6).length * 7 := by simpa using h 6
  have : n = 0 ∨ n = 1 ∨ n = 2 ∨ n = 3 ∨ n = 4 ∨ n = 5 ∨ n = 6 ∨ n = 7 := by omega
  rcases this with rfl | rfl | rfl | rfl | rfl | rfl | rfl | rfl <;> omega

def st45a (n : Nat) (nb : Nat) (box : Nat → Option (List (List AV))) (tok : Nat → Bool) (nt : Nat) (i : Nat) : AState :=
  ⟨tl [(4, .d (lists (partsN i))), (15, I n), (16, I i)], lb nb box [], tok, nt⟩

/-- What the first j partitions give. -/
def gone (i j : Nat) : List (List Int) := ((partsN i).take j).flatMap fun l => nextsK l (i + 1)
theorem gone_all (i : Nat) : gone i (partsN i).length = partsN (i + 1) := by simp [gone, partsN]
theorem gone_succ (i j : Nat) (h : j < (partsN i).length) : gone i (j + 1) = gone i j ++ nextsK (partsN i)[j] (i + 1) := by
  simp only [gone]
  rw [List.take_succ_eq_append_getElem h, List.flatMap_append]
  simp
theorem gone_le (i j : Nat) (hi : i ≤ 6) : (gone i j).length ≤ 40000 := by
  have h1 := flatMap_le (fun l => nextsK l (i + 1)) (i + 1) (fun l => nextsK_length l _) ((partsN i).take j)
  have h2 := partsN_few i (by omega)
  have h3 : ((partsN i).take j).length ≤ 5040 := by simp; omega
  have h4 : ((partsN i).take j).length * (i + 1) ≤ 5040 * 7 := Nat.mul_le_mul h3 (by omega)
  unfold gone
  omega

structure AccJ where
  i : Nat
  own : Own
  tok : Nat → Bool
  nt : Nat

def st45b (n : Nat) (nb : Nat) (box : Nat → Option (List (List AV))) (i : Nat) (x : AccJ) : AState :=
  ⟨tl [(5, I i), (6, .osl 1 (rL (gone i x.i)) x.own), (15, I n), (16, I i), (19, .d (lists (partsN i))), (20, I (partsN i).length), (21, I x.i)], lb nb box [], x.tok, x.nt⟩

def st45c (n : Nat) (nb : Nat) (box : Nat → Option (List (List AV))) (i j : Nat) (l : List Int) (x : AccJ) : AState :=
  ⟨tl [(5, I i), (6, .osl 1 (rL (gone i j ++ nextsK l x.i)) x.own), (15, I n), (16, I i), (19, .d (lists (partsN i))), (20, I (partsN i).length), (21, I j), (8, .d (ints l)), (26, I (i + 1)), (27, I x.i)], lb nb box [], x.tok, x.nt⟩

structure AccL where
  i : Nat
  out : List (List Int)
  own : Own
  tok : Nat → Bool
  nt : Nat

theorem all45_c (n : Nat) (hn : n ≤ 7) (tok : Nat → Bool) (nt : Nat) : DCall Try.prog 45 [I n] tok nt (.tup [.d (lists (partsN n)), I 0]) tok nt := by
  intro box nb
  refine ACalls.of_body Try.func45 rfl (by kernel_rfl) follows_Try (by kernel_rfl) (by simp [Try.ntmps45]) ?_
  intro hbox htok
  simp only at hbox htok
  apply AL.start
  repeat (first | refine AL.seq ?_ | refine AL.block ?_ | refine AL.skip ?_ | refine AL.blk ?_)
  refine AL.region follows_Try (Nat.le_refl _) (by kernel_rfl) ?_
  simp
  repeat (first | refine AL.seq ?_ | refine AL.block ?_ | refine AL.skip ?_ | refine AL.blk ?_)
  refine AL.region follows_Try (Nat.le_refl _) (by kernel_rfl) ?_
  simp
  have k1 : ¬ 7 < (n : Int) := by omega
  have k2 : ¬ (n : Int) < 0 := by omega
  repeat (first | refine AL.seq ?_ | refine AL.block ?_ | refine AL.skip ?_ | refine AL.blk ?_)
  refine AL.cond ?_
  simp [k1]
  repeat (first | refine AL.seq ?_ | refine AL.block ?_ | refine AL.skip ?_ | refine AL.blk ?_)
  refine AL.region follows_Try (Nat.le_refl _) (by kernel_rfl) ?_
  simp
  repeat (first | refine AL.seq ?_ | refine AL.block ?_ | refine AL.skip ?_ | refine AL.blk ?_)
  refine AL.cond ?_
  simp [k2]
  repeat (first | refine AL.seq ?_ | refine AL.block ?_ | refine AL.skip ?_ | refine AL.blk ?_)
  refine AL.region follows_Try (Nat.le_refl _) (by kernel_rfl) ?_
  simp
  repeat (first | refine AL.seq ?_ | refine AL.block ?_ | refine AL.skip ?_ | refine AL.blk ?_)
  refine AL.region follows_Try (Nat.le_refl _) (by kernel_rfl) ?_
  simp
  repeat (first | refine AL.seq ?_ | refine AL.block ?_ | refine AL.skip ?_ | refine AL.blk ?_)
  refine AL.loopT (fun x : AccL => st45a n nb box x.tok x.nt x.i) (fun x => x.i ≤ n ∧ TK tok nt x.tok x.nt []) (fun x => n - x.i) ⟨0, [], .full, tok, nt⟩ ⟨Nat.zero_le _, TK.start htok⟩ (Weaks.mk (Nat.le_refl _) rfl (by simp [ToL, st45a, partsN]; exact to_emp3 _ _ _) trivial) ?_
  rintro ⟨i, _, _, tok', nt'⟩ S ⟨hi, htk⟩ hS
  simp only [st45a] at hS hi htk
  subst hS
  have hw : IntKind.i64.wrap (↑i + 1) = ((i + 1 : Nat) : Int) := by rw [wrap_in (by omega) (by omega)]; rfl
  repeat (first | refine AL.seq ?_ | refine AL.block ?_ | refine AL.skip ?_ | refine AL.blk ?_)
  refine AL.region follows_Try (Nat.le_refl _) (by kernel_rfl) ?_
  simp
  repeat (first | refine AL.seq ?_ | refine AL.block ?_ | refine AL.skip ?_ | refine AL.blk ?_)
  refine AL.cond ?_
  simp
  refine ⟨fun hlt => ?_, fun hge => ?_⟩
  · repeat (first | refine AL.seq ?_ | refine AL.block ?_ | refine AL.skip ?_ | refine AL.blk ?_)
    refine AL.region follows_Try (Nat.le_refl _) (by kernel_rfl) ?_
    simp
    repeat (first | refine AL.seq ?_ | refine AL.block ?_ | refine AL.skip ?_ | refine AL.blk ?_)
    refine AL.region follows_Try (Nat.le_refl _) (by kernel_rfl) ?_
    simp
    repeat (first | refine AL.seq ?_ | refine AL.block ?_ | refine AL.skip ?_ | refine AL.blk ?_)
    refine AL.region follows_Try (Nat.le_refl _) (by kernel_rfl) ?_
    simp
    repeat (first | refine AL.seq ?_ | refine AL.block ?_ | refine AL.skip ?_ | refine AL.blk ?_)
    refine AL.loopT (st45b n nb box i) (fun x => x.i ≤ (partsN i).length ∧ TK tok nt x.tok x.nt [x.own]) (fun x => (partsN i).length - x.i) ⟨0, .full, tok', nt'⟩ ⟨Nat.zero_le _, htk.full⟩ (Weaks.mk htk.le rfl (by simp [ToL, gone]) trivial) ?_
    rintro ⟨j, own, tok2, nt2⟩ S ⟨hj, htk⟩ hS
    simp only [st45b] at hS hj htk
    subst hS
    have hfew := partsN_few i (by omega)
    have hw2 : IntKind.i64.wrap (↑j + 1) = ((j + 1 : Nat) : Int) := by rw [wrap_in (by omega) (by omega)]; rfl
    have hwi : IntKind.i64.wrap (↑i + 1) = (i : Int) + 1 := by rw [wrap_in (by omega) (by omega)]
    repeat (first | refine AL.seq ?_ | refine AL.block ?_ | refine AL.skip ?_ | refine AL.blk ?_)
    refine AL.region follows_Try (Nat.le_refl _) (by kernel_rfl) ?_
    simp
    repeat (first | refine AL.seq ?_ | refine AL.block ?_ | refine AL.skip ?_ | refine AL.blk ?_)
    refine AL.cond ?_
    simp
    refine ⟨fun hlt2 => ?_, fun hge2 => ?_⟩
    · have hlen := partsN_len i _ (List.getElem_mem hlt2)
      repeat (first | refine AL.seq ?_ | refine AL.block ?_ | refine AL.skip ?_ | refine AL.blk ?_)
      refine AL.region follows_Try (Nat.le_refl _) (by kernel_rfl) ?_
      simp [hlt2]
      repeat (first | refine AL.seq ?_ | refine AL.block ?_ | refine AL.skip ?_ | refine AL.blk ?_)
      refine AL.region follows_Try (Nat.le_refl _) (by kernel_rfl) ?_
      simp [hwi]
      repeat (first | refine AL.seq ?_ | refine AL.block ?_ | refine AL.skip ?_ | refine AL.blk ?_)
      have hgle := gone_le i j (by omega)
      generalize hl : (partsN i)[j] = l at *
      refine AL.loopT (st45c n nb box i j l) (fun x => x.i ≤ i + 1 ∧ TK tok nt x.tok x.nt [x.own]) (fun x => i + 1 - x.i) ⟨0, own, tok2, nt2⟩ ⟨Nat.zero_le _, htk⟩ (Weaks.mk htk.le rfl (by simp [ToL, nextsK]) trivial) ?_
      rintro ⟨x, own, tok3, nt3⟩ S ⟨hx, htk⟩ hS
      simp only [st45c] at hS hx htk
      subst hS
      have hw3 : IntKind.i64.wrap (↑x + 1) = ((x + 1 : Nat) : Int) := by rw [wrap_in (by omega) (by omega)]; rfl
      have hnl := nextsK_length l x
      repeat (first | refine AL.seq ?_ | refine AL.block ?_ | refine AL.skip ?_ | refine AL.blk ?_)
      refine AL.region follows_Try (Nat.le_refl _) (by kernel_rfl) ?_
      simp
      repeat (first | refine AL.seq ?_ | refine AL.block ?_ | refine AL.skip ?_ | refine AL.blk ?_)
      refine AL.cond ?_
      simp
      refine ⟨fun hlt3 => ?_, fun hge3 => ?_⟩
      · repeat (first | refine AL.seq ?_ | refine AL.block ?_ | refine AL.skip ?_ | refine AL.blk ?_)
        refine AL.region follows_Try (Nat.le_refl _) (by kernel_rfl) ?_
        simp
        repeat (first | refine AL.seq ?_ | refine AL.block ?_ | refine AL.skip ?_ | refine AL.blk ?_)
        refine AL.region follows_Try (Nat.le_refl _) (by kernel_rfl) ?_
        simp
        by_cases hxi : x = i
        · subst hxi
          simp
          have hstep : nextsK l (x + 1) = nextsK l x ++ [l ++ [(x : Int)]] := by
            rw [nextsK_succ, if_pos (.inl hlen.symm)]
          have hsn : D.sl 1 (rI l ++ [[D.raw (.int .i64 x)]]) = ints (l ++ [(x : Int)]) := by rw [rI_snoc]
          have htk1 := htk.full.app
          have htk2 := htk1.app
          have htk3 := htk2.tail.app
          repeat (first | refine AL.seq ?_ | refine AL.block ?_ | refine AL.skip ?_ | refine AL.blk ?_)
          refine AL.cond ?_
          simp
          repeat (first | refine AL.seq ?_ | refine AL.block ?_ | refine AL.skip ?_ | refine AL.blk ?_)
          refine AL.region follows_Try (Nat.le_refl _) (by kernel_rfl) ?_
          simp
          refine Stop.of_d (clone_c l (by omega) _ _) ?_
          simp
          refine ⟨⟨by omega, by simp [upd_same]⟩, ⟨by omega, htk2.tail.live⟩, ?_⟩
          repeat (first | refine AL.seq ?_ | refine AL.block ?_ | refine AL.skip ?_ | refine AL.blk ?_)
          refine AL.region follows_Try (Nat.le_refl _) (by kernel_rfl) ?_
          simp [hw3]
          repeat (first | refine AL.seq ?_ | refine AL.block ?_ | refine AL.skip ?_ | refine AL.blk ?_)
          refine AL.nil ?_
          refine ⟨⟨x + 1, _, _, _⟩, ⟨by simp <;> omega, htk3⟩, by simp <;> omega, Weaks.mk htk3.le rfl (by simp [ToL, hstep, hsn]) trivial⟩
        · have hxl : x < l.length := by omega
          have hb : ((x : Int) == (i : Int)) = false := by simp; omega
          simp only [hb]
          simp [hxl]
          by_cases hpx : l[x] = (x : Int)
          · simp [hpx]
            have hstep : nextsK l (x + 1) = nextsK l x ++ [l ++ [(x : Int)]] := by
              rw [nextsK_succ, if_pos (.inr (by simp [hxl, hpx]))]
            have hsn : D.sl 1 (rI l ++ [[D.raw (.int .i64 x)]]) = ints (l ++ [(x : Int)]) := by rw [rI_snoc]
            have htk1 := htk.full.app
            have htk2 := htk1.app
            have htk3 := htk2.tail.app
            repeat (first | refine AL.seq ?_ | refine AL.block ?_ | refine AL.skip ?_ | refine AL.blk ?_)
            refine AL.cond ?_
            simp
            repeat (first | refine AL.seq ?_ | refine AL.block ?_ | refine AL.skip ?_ | refine AL.blk ?_)
            refine AL.region follows_Try (Nat.le_refl _) (by kernel_rfl) ?_
            simp
            refine Stop.of_d (clone_c l (by omega) _ _) ?_
            simp
            refine ⟨⟨by omega, by simp [upd_same]⟩, ⟨by omega, htk2.tail.live⟩, ?_⟩
            repeat (first | refine AL.seq ?_ | refine AL.block ?_ | refine AL.skip ?_ | refine AL.blk ?_)
            refine AL.region follows_Try (Nat.le_refl _) (by kernel_rfl) ?_
            simp [hw3]
            repeat (first | refine AL.seq ?_ | refine AL.block ?_ | refine AL.skip ?_ | refine AL.blk ?_)
            refine AL.nil ?_
            refine ⟨⟨x + 1, _, _, _⟩, ⟨by simp <;> omega, htk3⟩, by simp <;> omega, Weaks.mk htk3.le rfl (by simp [ToL, hstep, hsn]) trivial⟩
          · have hb2 : (l[x] == (x : Int)) = false := by simp [hpx]
            simp only [hb2]
            repeat (first | refine AL.seq ?_ | refine AL.block ?_ | refine AL.skip ?_ | refine AL.blk ?_)
            refine AL.cond ?_
            simp
            repeat (first | refine AL.seq ?_ | refine AL.block ?_ | refine AL.skip ?_ | refine AL.blk ?_)
            refine AL.region follows_Try (Nat.le_refl _) (by kernel_rfl) ?_
            simp [hw3]
            repeat (first | refine AL.seq ?_ | refine AL.block ?_ | refine AL.skip ?_ | refine AL.blk ?_)
            refine AL.nil ?_
            refine ⟨⟨x + 1, own, tok3, nt3⟩, ⟨by simp; omega, htk⟩, by simp; omega, Weaks.mk htk.le rfl ?_ trivial⟩
            have hstep : nextsK l (x + 1) = nextsK l x := by
              rw [nextsK_succ, if_neg]
              · simp
              · simp [hxl, hpx]; omega
            simp [ToL, hstep]
      · repeat (first | refine AL.seq ?_ | refine AL.block ?_ | refine AL.skip ?_ | refine AL.blk ?_)
        refine AL.exit ?_
        simp only [AU, ↓reduceIte]
        have : x = i + 1 := by omega
        subst this
        repeat (first | refine AL.seq ?_ | refine AL.block ?_ | refine AL.skip ?_ | refine AL.blk ?_)
        refine AL.region follows_Try (Nat.le_refl _) (by kernel_rfl) ?_
        simp [hw2]
        repeat (first | refine AL.seq ?_ | refine AL.block ?_ | refine AL.skip ?_ | refine AL.blk ?_)
        refine AL.nil ?_
        refine ⟨⟨j + 1, own, tok3, nt3⟩, ⟨hlt2, htk⟩, by simp; omega, Weaks.mk htk.le rfl (by simp [ToL, gone_succ i j hlt2, hl]) trivial⟩
    · repeat (first | refine AL.seq ?_ | refine AL.block ?_ | refine AL.skip ?_ | refine AL.blk ?_)
      refine AL.exit ?_
      simp only [AU, ↓reduceIte]
      have : j = (partsN i).length := by omega
      subst this
      repeat (first | refine AL.seq ?_ | refine AL.block ?_ | refine AL.skip ?_ | refine AL.blk ?_)
      refine AL.region follows_Try (Nat.le_refl _) (by kernel_rfl) ?_
      simp
      repeat (first | refine AL.seq ?_ | refine AL.block ?_ | refine AL.skip ?_ | refine AL.blk ?_)
      refine AL.region follows_Try (Nat.le_refl _) (by kernel_rfl) ?_
      simp [hw]
      repeat (first | refine AL.seq ?_ | refine AL.block ?_ | refine AL.skip ?_ | refine AL.blk ?_)
      refine AL.nil ?_
      refine ⟨⟨i + 1, [], own, tok2, nt2⟩, ⟨hlt, htk.tail⟩, by simp; omega, Weaks.mk htk.le rfl (by simp [ToL, st45a, gone_all]) trivial⟩
  · repeat (first | refine AL.seq ?_ | refine AL.block ?_ | refine AL.skip ?_ | refine AL.blk ?_)
    refine AL.exit ?_
    simp only [AU, ↓reduceIte]
    have : i = n := by omega
    subst this
    repeat (first | refine AL.seq ?_ | refine AL.block ?_ | refine AL.skip ?_ | refine AL.blk ?_)
    refine AL.region follows_Try (Nat.le_refl _) (by kernel_rfl) ?_
    simp
    repeat (first | refine AL.seq ?_ | refine AL.block ?_ | refine AL.skip ?_ | refine AL.blk ?_)
    refine AL.ret ?_
    try simp only [AU]
    refine ⟨by simp, Fin.data (by simp [resAs, resA]; rfl) hbox rfl htok htk.old htk.le ?_⟩
    simp [packA, ]
end Go.AM
