import Derived.Test.YtgonmjghdkoekaaFacF
namespace Go.AM
open Go Go.Proofs
set_option linter.unusedSimpArgs false
set_option linter.unusedVariables false

/-! ### Finest, Of, Copied; numbers, Identity -/
def iota (n : Nat) : List Int := (List.range n).map fun (i : Nat) => (i : Int)
theorem iota_succ (n : Nat) : iota (n + 1) = iota n ++ [(n : Int)] := by simp [iota, List.range_succ]
@[simp] theorem iota_length (n : Nat) : (iota n).length = n := by simp [iota]
@[simp] theorem iota_zero : iota 0 = [] := rfl

structure Acc where
  i : Nat
  own : Own
  tok : Nat → Bool
  nt : Nat

def st72 (n : Nat) (nb : Nat) (box : Nat → Option (List (List AV))) (a : Acc) : AState := ⟨tl [(0, I n), (3, .osl 1 (rI (iota a.i)) a.own), (4, I a.i)], lb nb box [], a.tok, a.nt⟩

theorem finest_c (n : Nat) (hn : n ≤ 1000000) (tok : Nat → Bool) (nt : Nat) : DCall Try.prog 72 [I n] tok nt (.d (ints (iota n))) tok nt := by
  intro box nb
  refine ACalls.of_body Try.func72 rfl (by kernel_rfl) follows_Try (by kernel_rfl) (by simp [Try.ntmps72]) ?_
  intro hbox htok
  simp only at hbox htok
  apply AL.start
  repeat (first | refine AL.seq ?_ | refine AL.block ?_ | refine AL.skip ?_ | refine AL.blk ?_)
  refine AL.region follows_Try (Nat.le_refl _) (by kernel_rfl) ?_
  simp
  repeat (first | refine AL.seq ?_ | refine AL.block ?_ | refine AL.skip ?_ | refine AL.blk ?_)
  refine AL.region follows_Try (Nat.le_refl _) (by kernel_rfl) ?_
  simp
  repeat (first | refine AL.seq ?_ | refine AL.block ?_ | refine AL.skip ?_ | refine AL.blk ?_)
  refine AL.region follows_Try (Nat.le_refl _) (by kernel_rfl) ?_
  simp
  repeat (first | refine AL.seq ?_ | refine AL.block ?_ | refine AL.skip ?_ | refine AL.blk ?_)
  refine AL.loopT (st72 n nb box) (fun a => a.i ≤ n ∧ TK tok nt a.tok a.nt [a.own]) (fun a => n - a.i) ⟨0, .full, tok, nt⟩ ⟨Nat.zero_le _, (TK.start htok).full⟩ (Weaks.mk (Nat.le_refl _) rfl (by simp [ToL]) trivial) ?_
  rintro ⟨i, own, tok', nt'⟩ S ⟨hi, htk⟩ hS
  simp only [st72] at hS hi htk
  subst hS
  have hw : IntKind.i64.wrap (↑i + 1) = ((i + 1 : Nat) : Int) := by rw [wrap_in (by omega) (by omega)]; rfl
  repeat (first | refine AL.seq ?_ | refine AL.block ?_ | refine AL.skip ?_ | refine AL.blk ?_)
  refine AL.region follows_Try (Nat.le_refl _) (by kernel_rfl) ?_
  simp
  repeat (first | refine AL.seq ?_ | refine AL.block ?_ | refine AL.skip ?_ | refine AL.blk ?_)
  refine AL.cond ?_
  simp
  refine ⟨fun hlt => ?_, fun hge => ?_⟩
  · repeat (first | refine AL.seq ?_ | refine AL.block ?_ | refine AL.skip ?_ | refine AL.blk ?_)
    refine AL.region follows_Try (Nat.le_refl _) (by kernel_rfl) ?_
    simp
    refine ⟨⟨by omega, htk.live⟩, ?_⟩
    repeat (first | refine AL.seq ?_ | refine AL.block ?_ | refine AL.skip ?_ | refine AL.blk ?_)
    refine AL.region follows_Try (Nat.le_refl _) (by kernel_rfl) ?_
    simp [hw]
    repeat (first | refine AL.seq ?_ | refine AL.block ?_ | refine AL.skip ?_ | refine AL.blk ?_)
    refine AL.nil ?_
    refine ⟨⟨i + 1, _, _, _⟩, ⟨hlt, htk.app⟩, by simp; omega, Weaks.mk htk.app.le rfl (by simp [ToL, iota_succ]) trivial⟩
  · repeat (first | refine AL.seq ?_ | refine AL.block ?_ | refine AL.skip ?_ | refine AL.blk ?_)
    refine AL.exit ?_
    simp only [AU, ↓reduceIte]
    repeat (first | refine AL.seq ?_ | refine AL.block ?_ | refine AL.skip ?_ | refine AL.blk ?_)
    refine AL.region follows_Try (Nat.le_refl _) (by kernel_rfl) ?_
    simp
    have : i = n := by omega
    subst this
    repeat (first | refine AL.seq ?_ | refine AL.block ?_ | refine AL.skip ?_ | refine AL.blk ?_)
    refine AL.ret ?_
    try simp only [AU]
    refine ⟨by simp, Fin.data (by simp [resAs, resA]; rfl) hbox rfl htok htk.old htk.le ?_⟩
    simp [packA, ]

theorem of_c (g : Gr) (hg : g.Fit) (tok : Nat → Bool) (nt : Nat) : DCall Try.prog 91 [g.av] tok nt (Mo.av ⟨iota g.nodes.length, iota g.edges.length⟩) tok nt := by
  intro box nb
  refine ACalls.of_body Try.func91 rfl (by kernel_rfl) follows_Try (by kernel_rfl) (by simp [Try.ntmps91]) ?_
  intro hbox htok
  simp only at hbox htok
  apply AL.start
  repeat (first | refine AL.seq ?_ | refine AL.block ?_ | refine AL.skip ?_ | refine AL.blk ?_)
  refine AL.region follows_Try (Nat.le_refl _) (by kernel_rfl) ?_
  simp
  repeat (first | refine AL.seq ?_ | refine AL.block ?_ | refine AL.skip ?_ | refine AL.blk ?_)
  refine AL.region follows_Try (Nat.le_refl _) (by kernel_rfl) ?_
  simp
  refine Stop.of_d (finest_c g.nodes.length hg.n _ _) ?_
  simp
  refine Stop.of_d (finest_c g.edges.length hg.e _ _) ?_
  simp
  repeat (first | refine AL.seq ?_ | refine AL.block ?_ | refine AL.skip ?_ | refine AL.blk ?_)
  refine AL.ret ?_
  try simp only [AU]
  refine ⟨by simp, Fin.data (by simp [resAs, resA]; rfl) hbox rfl htok (fun _ h => h) (Nat.le_refl _) ?_⟩
  simp [packA]

theorem copied_c (g : Gr) (hg : g.Fit) (tok : Nat → Bool) (nt : Nat) : DCall Try.prog 14 [g.av] tok nt (.agg [.osl 1 (rI g.nodes) (.tok nt), .osl 3 (rE g.edges) (.tok (nt + 1))]) (upd (upd tok nt true) (nt + 1) true) (nt + 2) := by
  intro box nb
  have h1 := hg.n
  have h2 := hg.e
  refine ACalls.of_body Try.func14 rfl (by kernel_rfl) follows_Try (by kernel_rfl) (by simp [Try.ntmps14]) ?_
  intro hbox htok
  simp only at hbox htok
  apply AL.start
  repeat (first | refine AL.seq ?_ | refine AL.block ?_ | refine AL.skip ?_ | refine AL.blk ?_)
  refine AL.region follows_Try (Nat.le_refl _) (by kernel_rfl) ?_
  simp
  repeat (first | refine AL.seq ?_ | refine AL.block ?_ | refine AL.skip ?_ | refine AL.blk ?_)
  refine AL.region follows_Try (Nat.le_refl _) (by kernel_rfl) ?_
  simp
  refine ⟨by omega, by omega, ?_⟩
  repeat (first | refine AL.seq ?_ | refine AL.block ?_ | refine AL.skip ?_ | refine AL.blk ?_)
  refine AL.ret ?_
  try simp only [AU]
  refine ⟨by simp, Fin.own (by simp [resAs, resA]; rfl) hbox rfl (by simp) ?_⟩
  simp [packA]

def upto (n i : Nat) : List Int := iota i ++ List.replicate (n - i) 0
@[simp] theorem upto_length {n i : Nat} (h : i ≤ n) : (upto n i).length = n := by simp [upto]; omega
@[simp] theorem upto_zero (n : Nat) : upto n 0 = List.replicate n 0 := by simp [upto]
@[simp] theorem upto_all (n : Nat) : upto n n = iota n := by simp [upto]

def st101 (n : Nat) (nb : Nat) (box : Nat → Option (List (List AV))) (tok : Nat → Bool) (nt : Nat) (i : Nat) : AState := ⟨tl [(3, .msl (nb + 6) 0 n 1), (8, I n), (9, I i)], lb nb box [(6, rowsI (upto n i))], tok, nt⟩

theorem iota_set {n i : Nat} (h : i < n) : (upto n i).set i (i : Int) = upto n (i + 1) := by
  unfold upto
  rw [List.set_append]
  simp only [iota_length, Nat.lt_irrefl, ↓reduceIte, Nat.sub_self, iota_succ, List.append_assoc]
  have : n - i = (n - (i + 1)) + 1 := by omega
  rw [this, List.replicate_succ]
  simp

theorem numbers_c (n : Nat) (hn : n ≤ 1000000) (tok : Nat → Bool) (nt : Nat) : DCall Try.prog 101 [I n] tok nt (.d (ints (iota n))) tok nt := by
  intro box nb
  refine ACalls.of_body Try.func101 rfl (by kernel_rfl) follows_Try (by kernel_rfl) (by simp [Try.ntmps101]) ?_
  intro hbox htok
  simp only at hbox htok
  apply AL.start
  repeat (first | refine AL.seq ?_ | refine AL.block ?_ | refine AL.skip ?_ | refine AL.blk ?_)
  refine AL.region follows_Try (Nat.le_refl _) (by kernel_rfl) ?_
  simp
  repeat (first | refine AL.seq ?_ | refine AL.block ?_ | refine AL.skip ?_ | refine AL.blk ?_)
  refine AL.region follows_Try (Nat.le_refl _) (by kernel_rfl) ?_
  simp
  refine ⟨by omega, ?_⟩
  repeat (first | refine AL.seq ?_ | refine AL.block ?_ | refine AL.skip ?_ | refine AL.blk ?_)
  refine AL.region follows_Try (Nat.le_refl _) (by kernel_rfl) ?_
  simp
  repeat (first | refine AL.seq ?_ | refine AL.block ?_ | refine AL.skip ?_ | refine AL.blk ?_)
  refine AL.loopT (st101 n nb box tok nt) (fun i => i ≤ n) (fun i => n - i) 0 (Nat.zero_le _) (Weaks.mk (Nat.le_refl _) rfl (by simp [ToL, lk]) (by simp [BoxL, lk])) ?_
  rintro i S hi hS
  simp only [st101] at hS
  subst hS
  have hw : IntKind.i64.wrap (↑i + 1) = ((i + 1 : Nat) : Int) := by rw [wrap_in (by omega) (by omega)]; rfl
  repeat (first | refine AL.seq ?_ | refine AL.block ?_ | refine AL.skip ?_ | refine AL.blk ?_)
  refine AL.region follows_Try (Nat.le_refl _) (by kernel_rfl) ?_
  simp
  repeat (first | refine AL.seq ?_ | refine AL.block ?_ | refine AL.skip ?_ | refine AL.blk ?_)
  refine AL.cond ?_
  simp
  refine ⟨fun hlt => ?_, fun hge => ?_⟩
  · repeat (first | refine AL.seq ?_ | refine AL.block ?_ | refine AL.skip ?_ | refine AL.blk ?_)
    refine AL.region follows_Try (Nat.le_refl _) (by kernel_rfl) ?_
    simp
    repeat (first | refine AL.seq ?_ | refine AL.block ?_ | refine AL.skip ?_ | refine AL.blk ?_)
    refine AL.region follows_Try (Nat.le_refl _) (by kernel_rfl) ?_
    simp [hlt, hi]
    repeat (first | refine AL.seq ?_ | refine AL.block ?_ | refine AL.skip ?_ | refine AL.blk ?_)
    refine AL.region follows_Try (Nat.le_refl _) (by kernel_rfl) ?_
    simp [hw]
    repeat (first | refine AL.seq ?_ | refine AL.block ?_ | refine AL.skip ?_ | refine AL.blk ?_)
    refine AL.nil ?_
    refine ⟨i + 1, hlt, by omega, Weaks.mk (Nat.le_refl _) rfl (by simp [ToL, lk]) (by simp [BoxL, lk, iota_set hlt])⟩
  · repeat (first | refine AL.seq ?_ | refine AL.block ?_ | refine AL.skip ?_ | refine AL.blk ?_)
    refine AL.exit ?_
    simp only [AU, ↓reduceIte]
    have : i = n := by omega
    subst this
    refine AL.weak (Weaks.frz (l' := [(3, .d (ints (iota i)))]) (loc' := []) 6 1 (rI (iota i)) (Nat.le_refl _) rfl (by simp [lk, rowsI_eq]) (by simp [lk]) (by simp) (by simp [ToL]) (by simp [BoxL])) ?_
    repeat (first | refine AL.seq ?_ | refine AL.block ?_ | refine AL.skip ?_ | refine AL.blk ?_)
    refine AL.region follows_Try (Nat.le_refl _) (by kernel_rfl) ?_
    simp
    repeat (first | refine AL.seq ?_ | refine AL.block ?_ | refine AL.skip ?_ | refine AL.blk ?_)
    refine AL.ret ?_
    try simp only [AU]
    refine ⟨by simp, Fin.data (by simp [resAs, resA]; rfl) hbox rfl htok (fun _ h => h) (Nat.le_refl _) ?_⟩
    simp [packA]
end Go.AM
