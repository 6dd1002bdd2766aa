import Derived.Test.YtgonmjghdkoekaaFacO
namespace Go.AM
open Go Go.Proofs
set_option linter.unusedSimpArgs false
set_option linter.unusedVariables false

/-! ### partition.right, one, Quotient -/
def PartL (l : List Int) : Prop := ∀ i (h : i < l.length), 0 ≤ l[i] ∧ l[i] ≤ i ∧ l.getD l[i].toNat 0 = l[i]

def st105 (l : List Int) (nb : Nat) (box : Nat → Option (List (List AV))) (tok : Nat → Bool) (nt : Nat) (i : Nat) : AState := ⟨tl [(0, .d (ints l)), (5, .d (ints l)), (6, I l.length), (7, I i)], lb nb box [], tok, nt⟩

theorem right105_c (l : List Int) (hl : l.length ≤ 1000000) (hp : PartL l) (tok : Nat → Bool) (nt : Nat) : DCall Try.prog 105 [.d (ints l)] tok nt (B true) tok nt := by
  intro box nb
  refine ACalls.of_body Try.func105 rfl (by kernel_rfl) follows_Try (by kernel_rfl) (by simp [Try.ntmps105]) ?_
  intro hbox htok
  simp only at hbox htok
  apply AL.start
  repeat (first | refine AL.seq ?_ | refine AL.block ?_ | refine AL.skip ?_ | refine AL.blk ?_)
  refine AL.region follows_Try (Nat.le_refl _) (by kernel_rfl) ?_
  simp
  repeat (first | refine AL.seq ?_ | refine AL.block ?_ | refine AL.skip ?_ | refine AL.blk ?_)
  refine AL.region follows_Try (Nat.le_refl _) (by kernel_rfl) ?_
  simp
  repeat (first | refine AL.seq ?_ | refine AL.block ?_ | refine AL.skip ?_ | refine AL.blk ?_)
  refine AL.loopT (st105 l nb box tok nt) (fun i => i ≤ l.length) (fun i => l.length - i) 0 (Nat.zero_le _) (Weaks.mk (Nat.le_refl _) rfl (by simp [ToL]) trivial) ?_
  rintro i S hi hS
  simp only [st105] at hS
  subst hS
  have hw : IntKind.i64.wrap (↑i + 1) = ((i + 1 : Nat) : Int) := by rw [wrap_in (by omega) (by omega)]; rfl
  repeat (first | refine AL.seq ?_ | refine AL.block ?_ | refine AL.skip ?_ | refine AL.blk ?_)
  refine AL.region follows_Try (Nat.le_refl _) (by kernel_rfl) ?_
  simp
  repeat (first | refine AL.seq ?_ | refine AL.block ?_ | refine AL.skip ?_ | refine AL.blk ?_)
  refine AL.cond ?_
  simp
  refine ⟨fun hlt => ?_, fun hge => ?_⟩
  · obtain ⟨h1, h2, h3⟩ := hp i hlt
    have h4 : l[i].toNat < l.length := by omega
    have h5 : l[l[i].toNat] = l[i] := by simpa [h4] using h3
    have k1 : ¬ l[i] < 0 := by omega
    have k2 : ¬ (i : Int) < l[i] := by omega
    repeat (first | refine AL.seq ?_ | refine AL.block ?_ | refine AL.skip ?_ | refine AL.blk ?_)
    refine AL.region follows_Try (Nat.le_refl _) (by kernel_rfl) ?_
    simp [hlt]
    repeat (first | refine AL.seq ?_ | refine AL.block ?_ | refine AL.skip ?_ | refine AL.blk ?_)
    refine AL.region follows_Try (Nat.le_refl _) (by kernel_rfl) ?_
    simp [k1, k2, h1, h4, h5]
    refine ⟨by omega, ?_⟩
    repeat (first | refine AL.seq ?_ | refine AL.block ?_ | refine AL.skip ?_ | refine AL.blk ?_)
    refine AL.cond ?_
    simp
    repeat (first | refine AL.seq ?_ | refine AL.block ?_ | refine AL.skip ?_ | refine AL.blk ?_)
    refine AL.region follows_Try (Nat.le_refl _) (by kernel_rfl) ?_
    simp [hw]
    repeat (first | refine AL.seq ?_ | refine AL.block ?_ | refine AL.skip ?_ | refine AL.blk ?_)
    refine AL.nil ?_
    refine ⟨i + 1, hlt, by omega, Weaks.mk (Nat.le_refl _) rfl (by simp [ToL]) trivial⟩
  · repeat (first | refine AL.seq ?_ | refine AL.block ?_ | refine AL.skip ?_ | refine AL.blk ?_)
    refine AL.exit ?_
    simp only [AU, ↓reduceIte]
    repeat (first | refine AL.seq ?_ | refine AL.block ?_ | refine AL.skip ?_ | refine AL.blk ?_)
    refine AL.region follows_Try (Nat.le_refl _) (by kernel_rfl) ?_
    simp
    repeat (first | refine AL.seq ?_ | refine AL.block ?_ | refine AL.skip ?_ | refine AL.blk ?_)
    refine AL.ret ?_
    try simp only [AU]
    refine ⟨by simp, Fin.data (by simp [resAs, resA]; rfl) hbox rfl htok (fun _ h => h) (Nat.le_refl _) ?_⟩
    simp [packA]

theorem one98_c (l : List Int) (hl : l.length ≤ 80) (hp : PartL l) (tok : Nat → Bool) (nt : Nat) : DCall Try.prog 98 [.d (ints l)] tok nt (I 0) tok nt := by
  intro box nb
  refine ACalls.of_body Try.func98 rfl (by kernel_rfl) follows_Try (by kernel_rfl) (by simp [Try.ntmps98]) ?_
  intro hbox htok
  simp only at hbox htok
  apply AL.start
  repeat (first | refine AL.seq ?_ | refine AL.block ?_ | refine AL.skip ?_ | refine AL.blk ?_)
  refine AL.region follows_Try (Nat.le_refl _) (by kernel_rfl) ?_
  simp
  repeat (first | refine AL.seq ?_ | refine AL.block ?_ | refine AL.skip ?_ | refine AL.blk ?_)
  refine AL.region follows_Try (Nat.le_refl _) (by kernel_rfl) ?_
  simp
  have h80 : ¬ 80 < (l.length : Int) := by omega
  repeat (first | refine AL.seq ?_ | refine AL.block ?_ | refine AL.skip ?_ | refine AL.blk ?_)
  refine AL.cond ?_
  simp [h80]
  repeat (first | refine AL.seq ?_ | refine AL.block ?_ | refine AL.skip ?_ | refine AL.blk ?_)
  refine AL.region follows_Try (Nat.le_refl _) (by kernel_rfl) ?_
  simp
  refine Stop.of_d (right105_c l (by omega) hp _ _) ?_
  simp
  repeat (first | refine AL.seq ?_ | refine AL.block ?_ | refine AL.skip ?_ | refine AL.blk ?_)
  refine AL.cond ?_
  simp
  repeat (first | refine AL.seq ?_ | refine AL.block ?_ | refine AL.skip ?_ | refine AL.blk ?_)
  refine AL.region follows_Try (Nat.le_refl _) (by kernel_rfl) ?_
  simp
  repeat (first | refine AL.seq ?_ | refine AL.block ?_ | refine AL.skip ?_ | refine AL.blk ?_)
  refine AL.ret ?_
  try simp only [AU]
  refine ⟨by simp, Fin.data (by simp [resAs, resA]; rfl) hbox rfl htok (fun _ h => h) (Nat.le_refl _) ?_⟩
  simp [packA]

def numN (l : List Int) : Nat → List Int × Int
  | 0 => ([], 0)
  | i + 1 => if l.getD i 0 = i then ((numN l i).1 ++ [(numN l i).2], (numN l i).2 + 1) else ((numN l i).1 ++ [(numN l i).1.getD (l.getD i 0).toNat 0], (numN l i).2)

theorem numN_len (l : List Int) : ∀ i, (numN l i).1.length = i ∧ 0 ≤ (numN l i).2 ∧ (numN l i).2 ≤ i
  | 0 => by simp [numN]
  | i + 1 => by
    have := numN_len l i
    simp only [numN]
    split <;> simp <;> omega

def st86 (l : List Int) (nb : Nat) (box : Nat → Option (List (List AV))) (x : Acc) : AState :=
  ⟨tl [(6, .osl 1 (rI (numN l x.i).1) x.own), (7, I (numN l x.i).2), (15, .d (ints l)), (16, I l.length), (17, I x.i)], lb nb box [], x.tok, x.nt⟩

theorem quotient86_c (l : List Int) (hl : l.length ≤ 80) (hp : PartL l) (tok : Nat → Bool) (nt : Nat) : DCall Try.prog 86 [.d (ints l)] tok nt (.tup [.d (ints (numN l l.length).1), I (numN l l.length).2, I 0]) tok nt := by
  intro box nb
  refine ACalls.of_body Try.func86 rfl (by kernel_rfl) follows_Try (by kernel_rfl) (by simp [Try.ntmps86]) ?_
  intro hbox htok
  simp only at hbox htok
  apply AL.start
  repeat (first | refine AL.seq ?_ | refine AL.block ?_ | refine AL.skip ?_ | refine AL.blk ?_)
  refine AL.region follows_Try (Nat.le_refl _) (by kernel_rfl) ?_
  simp
  repeat (first | refine AL.seq ?_ | refine AL.block ?_ | refine AL.skip ?_ | refine AL.blk ?_)
  refine AL.region follows_Try (Nat.le_refl _) (by kernel_rfl) ?_
  simp
  refine Stop.of_d (one98_c l hl hp _ _) ?_
  simp
  repeat (first | refine AL.seq ?_ | refine AL.block ?_ | refine AL.skip ?_ | refine AL.blk ?_)
  refine AL.region follows_Try (Nat.le_refl _) (by kernel_rfl) ?_
  simp
  repeat (first | refine AL.seq ?_ | refine AL.block ?_ | refine AL.skip ?_ | refine AL.blk ?_)
  refine AL.cond ?_
  simp
  repeat (first | refine AL.seq ?_ | refine AL.block ?_ | refine AL.skip ?_ | refine AL.blk ?_)
  refine AL.region follows_Try (Nat.le_refl _) (by kernel_rfl) ?_
  simp
  repeat (first | refine AL.seq ?_ | refine AL.block ?_ | refine AL.skip ?_ | refine AL.blk ?_)
  refine AL.region follows_Try (Nat.le_refl _) (by kernel_rfl) ?_
  simp
  repeat (first | refine AL.seq ?_ | refine AL.block ?_ | refine AL.skip ?_ | refine AL.blk ?_)
  refine AL.region follows_Try (Nat.le_refl _) (by kernel_rfl) ?_
  simp
  repeat (first | refine AL.seq ?_ | refine AL.block ?_ | refine AL.skip ?_ | refine AL.blk ?_)
  refine AL.loopT (st86 l nb box) (fun x => x.i ≤ l.length ∧ TK tok nt x.tok x.nt [x.own]) (fun x => l.length - x.i) ⟨0, .full, tok, nt⟩ ⟨Nat.zero_le _, (TK.start htok).full⟩ (Weaks.mk (Nat.le_refl _) rfl (by simp [ToL, numN]) trivial) ?_
  rintro ⟨i, own, tok', nt'⟩ S ⟨hi, htk⟩ hS
  simp only [st86] at hS hi htk
  subst hS
  have hw : IntKind.i64.wrap (↑i + 1) = ((i + 1 : Nat) : Int) := by rw [wrap_in (by omega) (by omega)]; rfl
  obtain ⟨hn1, hn2, hn3⟩ := numN_len l i
  repeat (first | refine AL.seq ?_ | refine AL.block ?_ | refine AL.skip ?_ | refine AL.blk ?_)
  refine AL.region follows_Try (Nat.le_refl _) (by kernel_rfl) ?_
  simp
  repeat (first | refine AL.seq ?_ | refine AL.block ?_ | refine AL.skip ?_ | refine AL.blk ?_)
  refine AL.cond ?_
  simp
  refine ⟨fun hlt => ?_, fun hge => ?_⟩
  · obtain ⟨h1, h2, h3⟩ := hp i hlt
    have hwn : IntKind.i64.wrap ((numN l i).2 + 1) = (numN l i).2 + 1 := wrap_in (by omega) (by omega)
    repeat (first | refine AL.seq ?_ | refine AL.block ?_ | refine AL.skip ?_ | refine AL.blk ?_)
    refine AL.region follows_Try (Nat.le_refl _) (by kernel_rfl) ?_
    simp [hlt]
    repeat (first | refine AL.seq ?_ | refine AL.block ?_ | refine AL.skip ?_ | refine AL.blk ?_)
    refine AL.region follows_Try (Nat.le_refl _) (by kernel_rfl) ?_
    simp
    repeat (first | refine AL.seq ?_ | refine AL.block ?_ | refine AL.skip ?_ | refine AL.blk ?_)
    refine AL.cond ?_
    simp
    refine ⟨fun he => ?_, fun hne => ?_⟩
    · repeat (first | refine AL.seq ?_ | refine AL.block ?_ | refine AL.skip ?_ | refine AL.blk ?_)
      refine AL.region follows_Try (Nat.le_refl _) (by kernel_rfl) ?_
      simp
      refine ⟨⟨by omega, htk.live⟩, ?_⟩
      repeat (first | refine AL.seq ?_ | refine AL.block ?_ | refine AL.skip ?_ | refine AL.blk ?_)
      refine AL.region follows_Try (Nat.le_refl _) (by kernel_rfl) ?_
      simp [hwn]
      repeat (first | refine AL.seq ?_ | refine AL.block ?_ | refine AL.skip ?_ | refine AL.blk ?_)
      refine AL.region follows_Try (Nat.le_refl _) (by kernel_rfl) ?_
      simp [hw]
      repeat (first | refine AL.seq ?_ | refine AL.block ?_ | refine AL.skip ?_ | refine AL.blk ?_)
      refine AL.nil ?_
      refine ⟨⟨i + 1, _, _, _⟩, ⟨hlt, htk.app⟩, by simp; omega, Weaks.mk htk.app.le rfl (by simp [ToL, numN, hlt, he]) trivial⟩
    · have h4 : l[i].toNat < (numN l i).1.length := by omega
      have h5 : l[i] < ((numN l i).1.length : Int) := by omega
      repeat (first | refine AL.seq ?_ | refine AL.block ?_ | refine AL.skip ?_ | refine AL.blk ?_)
      refine AL.region follows_Try (Nat.le_refl _) (by kernel_rfl) ?_
      simp [h1, h4, h5]
      refine ⟨⟨by omega, htk.live⟩, ?_⟩
      repeat (first | refine AL.seq ?_ | refine AL.block ?_ | refine AL.skip ?_ | refine AL.blk ?_)
      refine AL.region follows_Try (Nat.le_refl _) (by kernel_rfl) ?_
      simp [hw]
      repeat (first | refine AL.seq ?_ | refine AL.block ?_ | refine AL.skip ?_ | refine AL.blk ?_)
      refine AL.nil ?_
      refine ⟨⟨i + 1, _, _, _⟩, ⟨hlt, htk.app⟩, by simp; omega, Weaks.mk htk.app.le rfl (by simp [ToL, numN, hlt, hne, h4]) trivial⟩
  · repeat (first | refine AL.seq ?_ | refine AL.block ?_ | refine AL.skip ?_ | refine AL.blk ?_)
    refine AL.exit ?_
    simp only [AU, ↓reduceIte]
    have : i = l.length := by omega
    subst this
    repeat (first | refine AL.seq ?_ | refine AL.block ?_ | refine AL.skip ?_ | refine AL.blk ?_)
    refine AL.region follows_Try (Nat.le_refl _) (by kernel_rfl) ?_
    simp
    repeat (first | refine AL.seq ?_ | refine AL.block ?_ | refine AL.skip ?_ | refine AL.blk ?_)
    refine AL.ret ?_
    try simp only [AU]
    refine ⟨by simp, Fin.data (by simp [resAs, resA]; rfl) hbox rfl htok htk.old htk.le ?_⟩
    simp [packA, ]
end Go.AM
