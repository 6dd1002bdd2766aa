import Derived.Test.YtgonmjghdkoekaaFacT
namespace Go.AM
open Go Go.Proofs
set_option linter.unusedSimpArgs false
set_option linter.unusedVariables false

/-! ### factor.alike, its closures -/
/-- Whether all that a list says holds, so far and in all. -/
def alikeK (g : Nat → Int → Bool) (p : List Int) (i : Nat) : Bool := (List.range i).all fun j => g j (p.getD j 0)
def alikeB (g : Nat → Int → Bool) (p : List Int) : Bool := alikeK g p p.length
theorem alikeK_succ (g : Nat → Int → Bool) (p : List Int) (i : Nat) : alikeK g p (i + 1) = (alikeK g p i && g i (p.getD i 0)) := by
  simp [alikeK, List.range_succ]
theorem alikeK_stop {g : Nat → Int → Bool} {p : List Int} {i : Nat} (hi : i < p.length) (h : g i (p.getD i 0) = false) : alikeB g p = false := by
  unfold alikeB alikeK
  rw [List.all_eq_false]
  exact ⟨i, by simp [hi], by simpa using h⟩

def st46 (p : List Int) (f : FuncId) (caps : List AV) (nb : Nat) (box : Nat → Option (List (List AV))) (tok : Nat → Bool) (nt : Nat) (i : Nat) : AState := ⟨tl [(1, .fn (.func f) caps), (7, .d (ints p)), (8, I p.length), (9, I i)], lb nb box [], tok, nt⟩

theorem alike_c (p : List Int) (f : FuncId) (caps : List AV) (g : Nat → Int → Bool) (hx : p.length ≤ 1000000) (box : Nat → Option (List (List AV))) (nb : Nat) (tok : Nat → Bool) (nt : Nat) (hc : ∀ c ∈ caps, OkIn (fun k => box k ≠ none) (fun _ => True) c)
    (hf : ∀ i (hi : i < p.length), ∀ box' nb', Ext box box' → ACalls Try.prog f (I i :: I p[i] :: caps) ⟨box', nb', tok, nt⟩ fun v m => v = B (g i p[i]) ∧ m = ⟨box', nb', tok, nt⟩) :
    ACalls Try.prog 46 [.d (ints p), .fn (.func f) caps] ⟨box, nb, tok, nt⟩ fun v m => v = B (alikeB g p) ∧ m = ⟨box, nb, tok, nt⟩ := by
  refine ACalls.of_body Try.func46 rfl (by kernel_rfl) follows_Try (by kernel_rfl) (by simp [Try.ntmps46]) ?_
  intro hbox htok
  simp only at hbox htok
  apply AL.start
  repeat (first | refine AL.seq ?_ | refine AL.block ?_ | refine AL.skip ?_ | refine AL.blk ?_)
  refine AL.region follows_Try (Nat.le_refl _) (by kernel_rfl) ?_
  simp
  repeat (first | refine AL.seq ?_ | refine AL.block ?_ | refine AL.skip ?_ | refine AL.blk ?_)
  refine AL.region follows_Try (Nat.le_refl _) (by kernel_rfl) ?_
  simp
  repeat (first | refine AL.seq ?_ | refine AL.block ?_ | refine AL.skip ?_ | refine AL.blk ?_)
  refine AL.loopT (st46 p f caps nb box tok nt) (fun i => i ≤ p.length ∧ alikeK g p i = true) (fun i => p.length - i) 0 ⟨Nat.zero_le _, by simp [alikeK]⟩ (Weaks.mk (Nat.le_refl _) rfl (by simp [ToL]; exact .same (okFn hc hbox [] (by simp) rfl _)) trivial) ?_
  rintro i S ⟨hi, htk⟩ hS
  simp only [st46] at hS
  subst hS
  have hw : IntKind.i64.wrap (↑i + 1) = ((i + 1 : Nat) : Int) := by rw [wrap_in (by omega) (by omega)]; rfl
  repeat (first | refine AL.seq ?_ | refine AL.block ?_ | refine AL.skip ?_ | refine AL.blk ?_)
  refine AL.region follows_Try (Nat.le_refl _) (by kernel_rfl) ?_
  simp
  repeat (first | refine AL.seq ?_ | refine AL.block ?_ | refine AL.skip ?_ | refine AL.blk ?_)
  refine AL.cond ?_
  simp
  refine ⟨fun hlt => ?_, fun hge => ?_⟩
  · have hgi : p.getD i 0 = p[i] := by simp [hlt]
    repeat (first | refine AL.seq ?_ | refine AL.block ?_ | refine AL.skip ?_ | refine AL.blk ?_)
    refine AL.region follows_Try (Nat.le_refl _) (by kernel_rfl) ?_
    simp [hlt]
    repeat (first | refine AL.seq ?_ | refine AL.block ?_ | refine AL.skip ?_ | refine AL.blk ?_)
    refine AL.region follows_Try (Nat.le_refl _) (by kernel_rfl) ?_
    simp
    refine Stop.of_b (hf i hlt _ _ ((Ext.refl box).lb hbox [])) ?_
    simp
    repeat (first | refine AL.seq ?_ | refine AL.block ?_ | refine AL.skip ?_ | refine AL.blk ?_)
    refine AL.cond ?_
    simp
    refine ⟨fun he => ?_, fun hne => ?_⟩
    · repeat (first | refine AL.seq ?_ | refine AL.block ?_ | refine AL.skip ?_ | refine AL.blk ?_)
      refine AL.region follows_Try (Nat.le_refl _) (by kernel_rfl) ?_
      simp
      have h2 := alikeK_stop hlt (g := g) (by rw [hgi]; exact he)
      repeat (first | refine AL.seq ?_ | refine AL.block ?_ | refine AL.skip ?_ | refine AL.blk ?_)
      refine AL.ret ?_
      try simp only [AU]
      refine ⟨by simp, Fin.data (by simp [resAs, resA]; rfl) hbox rfl htok (fun _ h => h) (Nat.le_refl _) ?_⟩
      simp [packA, h2]
    · repeat (first | refine AL.seq ?_ | refine AL.block ?_ | refine AL.skip ?_ | refine AL.blk ?_)
      refine AL.region follows_Try (Nat.le_refl _) (by kernel_rfl) ?_
      simp [hw]
      repeat (first | refine AL.seq ?_ | refine AL.block ?_ | refine AL.skip ?_ | refine AL.blk ?_)
      refine AL.nil ?_
      refine ⟨i + 1, ⟨hlt, ?_⟩, by omega, Weaks.mk (Nat.le_refl _) rfl (by simp [ToL]; exact .same (okFn hc hbox [] (by simp) rfl _)) trivial⟩
      rw [alikeK_succ, htk, hgi, hne]
      rfl
  · repeat (first | refine AL.seq ?_ | refine AL.block ?_ | refine AL.skip ?_ | refine AL.blk ?_)
    refine AL.exit ?_
    simp only [AU, ↓reduceIte]
    repeat (first | refine AL.seq ?_ | refine AL.block ?_ | refine AL.skip ?_ | refine AL.blk ?_)
    refine AL.region follows_Try (Nat.le_refl _) (by kernel_rfl) ?_
    simp
    have hn : alikeB g p = true := by
      have : i = p.length := by omega
      subst this
      exact htk
    repeat (first | refine AL.seq ?_ | refine AL.block ?_ | refine AL.skip ?_ | refine AL.blk ?_)
    refine AL.ret ?_
    try simp only [AU]
    refine ⟨by simp, Fin.data (by simp [resAs, resA]; rfl) hbox rfl htok (fun _ h => h) (Nat.le_refl _) ?_⟩
    simp [packA, hn]

theorem same47_c (a : Gr) (i k : Nat) (hi : i < a.nodes.length) (hk : k < a.nodes.length) (hb : a.nodes.length ≤ 1000000) (box : Nat → Option (List (List AV))) (nb q : Nat) (tok : Nat → Bool) (nt : Nat) (hq : box q = some [[.d (ints a.nodes), .d (AM.edges a.edges)]]) :
    ACalls Try.prog 47 [I i, I k, .ptr q 0 0] ⟨box, nb, tok, nt⟩ fun v m => v = B (decide (a.nodes[i] = a.nodes[k])) ∧ m = ⟨box, nb, tok, nt⟩ := by
  refine ACalls.of_body Try.func47 rfl (by kernel_rfl) follows_Try (by kernel_rfl) (by simp [Try.ntmps47]) ?_
  intro hbox htok
  simp only at hbox htok
  apply AL.start
  have hkn := key_lt hbox hq
  repeat (first | refine AL.seq ?_ | refine AL.block ?_ | refine AL.skip ?_ | refine AL.blk ?_)
  refine AL.region follows_Try (Nat.le_refl _) (by kernel_rfl) ?_
  simp
  repeat (first | refine AL.seq ?_ | refine AL.block ?_ | refine AL.skip ?_ | refine AL.blk ?_)
  refine AL.region follows_Try (Nat.le_refl _) (by kernel_rfl) ?_
  simp [lb_out hkn, hq, hi, hk]
  repeat (first | refine AL.seq ?_ | refine AL.block ?_ | refine AL.skip ?_ | refine AL.blk ?_)
  refine AL.ret ?_
  try simp only [AU]
  refine ⟨by simp, Fin.data (by simp [resAs, resA]; rfl) hbox rfl htok (fun _ h => h) (Nat.le_refl _) ?_⟩
  simp [packA, beqD]

theorem same48_c (a : Gr) (p : List Int) (i k : Nat) (hi : i < a.edges.length) (hk : k < a.edges.length) (hb : a.edges.length ≤ 1000000) (hx : ∀ e ∈ a.edges, 0 ≤ e.fr ∧ e.fr < p.length ∧ 0 ≤ e.to ∧ e.to < p.length) (box : Nat → Option (List (List AV))) (nb q r : Nat) (tok : Nat → Bool) (nt : Nat)
    (hq : box q = some [[.d (ints a.nodes), .d (AM.edges a.edges)]]) (hr : box r = some [[.d (ints p)]]) :
    ACalls Try.prog 48 [I i, I k, .ptr q 0 0, .ptr r 0 0] ⟨box, nb, tok, nt⟩ fun v m => v = B (decide (likeE a p i k)) ∧ m = ⟨box, nb, tok, nt⟩ := by
  refine ACalls.of_body Try.func48 rfl (by kernel_rfl) follows_Try (by kernel_rfl) (by simp [Try.ntmps48]) ?_
  intro hbox htok
  simp only at hbox htok
  apply AL.start
  have hkn := key_lt hbox hq
  have hrn := key_lt hbox hr
  repeat (first | refine AL.seq ?_ | refine AL.block ?_ | refine AL.skip ?_ | refine AL.blk ?_)
  refine AL.region follows_Try (Nat.le_refl _) (by kernel_rfl) ?_
  simp
  have hq7 : ∀ s, q ≠ nb + s := fun s => by omega
  repeat (first | refine AL.seq ?_ | refine AL.block ?_ | refine AL.skip ?_ | refine AL.blk ?_)
  refine AL.region2 follows_Try (Nat.le_refl _) (by kernel_rfl) (Side.of (by simp)) ?_
  simp [lb_out hkn, hq, hi, hk, hq7]
  obtain ⟨x1, x2, x3, x4⟩ := hx _ (List.getElem_mem hi)
  obtain ⟨z1, z2, z3, z4⟩ := hx _ (List.getElem_mem hk)
  have y1 : a.edges[i].fr.toNat < p.length := by omega
  have y2 : a.edges[i].to.toNat < p.length := by omega
  have w1 : a.edges[k].fr.toNat < p.length := by omega
  have w2 : a.edges[k].to.toNat < p.length := by omega
  have hlike : likeE a p i k ↔ a.edges[i].ty = a.edges[k].ty ∧ p[a.edges[i].fr.toNat] = p[a.edges[k].fr.toNat] ∧ p[a.edges[i].to.toNat] = p[a.edges[k].to.toNat] := by
    simp [likeE, hi, hk, y1, y2, w1, w2]
  repeat (first | refine AL.seq ?_ | refine AL.block ?_ | refine AL.skip ?_ | refine AL.blk ?_)
  refine AL.region follows_Try (Nat.le_refl _) (by kernel_rfl) ?_
  simp [lb_out hrn, hr]
  by_cases h1 : a.edges[i].ty = a.edges[k].ty
  · have hb1 : (a.edges[i].ty == a.edges[k].ty) = true := by simp [h1]
    simp only [hb1]
    simp [lb_out hrn, hr, x1, x2, x3, x4, y1, y2, z1, z2, z3, z4, w1, w2]
    by_cases h2 : p[a.edges[i].fr.toNat] = p[a.edges[k].fr.toNat]
    · have hb2 : (p[a.edges[i].fr.toNat] == p[a.edges[k].fr.toNat]) = true := by simp [h2]
      simp only [hb2]
      simp [lb_out hrn, hr, x1, x2, x3, x4, y1, y2, z1, z2, z3, z4, w1, w2]
      have hl : decide (likeE a p i k) = (p[a.edges[i].to.toNat] == p[a.edges[k].to.toNat]) := by rw [beqD]; simp [hlike, h1, h2]
      repeat (first | refine AL.seq ?_ | refine AL.block ?_ | refine AL.skip ?_ | refine AL.blk ?_)
      refine AL.ret ?_
      try simp only [AU]
      refine ⟨by simp, Fin.data (by simp [resAs, resA]; rfl) hbox rfl htok (fun _ h => h) (Nat.le_refl _) ?_⟩
      simp [packA, hl]
    · have hb2 : (p[a.edges[i].fr.toNat] == p[a.edges[k].fr.toNat]) = false := by simp [h2]
      simp only [hb2]
      have hl : decide (likeE a p i k) = false := by simp [hlike, h1, h2]
      simp
      repeat (first | refine AL.seq ?_ | refine AL.block ?_ | refine AL.skip ?_ | refine AL.blk ?_)
      refine AL.ret ?_
      try simp only [AU]
      refine ⟨by simp, Fin.data (by simp [resAs, resA]; rfl) hbox rfl htok (fun _ h => h) (Nat.le_refl _) ?_⟩
      simp [packA, hl]
  · have hb1 : (a.edges[i].ty == a.edges[k].ty) = false := by simp [h1]
    simp only [hb1]
    have hl : decide (likeE a p i k) = false := by simp [hlike, h1]
    simp
    repeat (first | refine AL.seq ?_ | refine AL.block ?_ | refine AL.skip ?_ | refine AL.blk ?_)
    refine AL.ret ?_
    try simp only [AU]
    refine ⟨by simp, Fin.data (by simp [resAs, resA]; rfl) hbox rfl htok (fun _ h => h) (Nat.le_refl _) ?_⟩
    simp [packA, hl]
end Go.AM
