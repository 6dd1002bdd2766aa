import Derived.Test.YtgonmjghdkoekaaFacH
namespace Go.AM
open Go Go.Proofs
set_option linter.unusedSimpArgs false
set_option linter.unusedVariables false

/-! ### ref13.overlap -/
def st61a (a b : Gr) (l k : List Int) (nb : Nat) (box : Nat → Option (List (List AV))) (x : Acc4) : AState :=
  ⟨tl [(2, .d (ints l)), (3, .d (ints k)), (5, .ptr (nb + 5) 0 0), (8, .ptr (nb + 8) 0 0), (9, .ptr (nb + 9) 0 0), (10, I x.i)],
    lb nb box [(5, [[.d (ints b.nodes), .d (AM.edges b.edges)]]), (8, [[.bot, .bot, .bot, .bot, .bot, .bot]]),
      (9, [[.osl 1 (rI (glueN a.nodes b.nodes l x.i).1) x.o1, .osl 3 (rE a.edges) x.o2, .d (ints (idM a).nodes), .d (ints (idM a).edges), .osl 1 (rI (glueN a.nodes b.nodes l x.i).2) x.o3, .osl 1 [] x.o4]])], x.tok, x.nt⟩

def st61b (a b : Gr) (l k : List Int) (nb : Nat) (box : Nat → Option (List (List AV))) (x : Acc2) : AState :=
  ⟨tl [(3, .d (ints k)), (5, .ptr (nb + 5) 0 0), (8, .ptr (nb + 8) 0 0), (9, .ptr (nb + 9) 0 0), (12, I x.i)],
    lb nb box [(5, [[.d (ints b.nodes), .d (AM.edges b.edges)]]), (8, [[.bot, .bot, .bot, .bot, .bot, .bot]]),
      (9, [[.d (ints (glueN a.nodes b.nodes l l.length).1), .osl 3 (rE (glueE a.edges b.edges (glueN a.nodes b.nodes l l.length).2 k x.i).1) x.o1, .d (ints (idM a).nodes), .d (ints (idM a).edges), .d (ints (glueN a.nodes b.nodes l l.length).2), .osl 1 (rI (glueE a.edges b.edges (glueN a.nodes b.nodes l l.length).2 k x.i).2) x.o2]])], x.tok, x.nt⟩

theorem overlap_c (a b : Gr) (l k : List Int) (ha : a.Fit) (hl : l.length ≤ b.nodes.length) (hk : k.length ≤ b.edges.length) (hlb : l.length ≤ 1000000) (hkb : k.length ≤ 1000000)
    (hx : ∀ i (h : i < k.length) (h2 : i < b.edges.length), k[i] < 0 → 0 ≤ b.edges[i].fr ∧ b.edges[i].fr < l.length ∧ 0 ≤ b.edges[i].to ∧ b.edges[i].to < l.length) (tok : Nat → Bool) (nt : Nat) :
    DCall Try.prog 61 [a.av, b.av, .d (ints l), .d (ints k)] tok nt (glue a b l k).av tok nt := by
  intro box nb
  have han := ha.n
  have hae := ha.e
  refine ACalls.of_body Try.func61 rfl (by kernel_rfl) follows_Try (by kernel_rfl) (by simp [Try.ntmps61]) ?_
  intro hbox htok
  simp only at hbox htok
  apply AL.start
  repeat (first | refine AL.seq ?_ | refine AL.block ?_ | refine AL.skip ?_ | refine AL.blk ?_)
  refine AL.region follows_Try (Nat.le_refl _) (by kernel_rfl) ?_
  simp
  repeat (first | refine AL.seq ?_ | refine AL.block ?_ | refine AL.skip ?_ | refine AL.blk ?_)
  refine AL.region follows_Try (Nat.le_refl _) (by kernel_rfl) ?_
  simp
  refine Stop.of_d (copied_c a ha _ _) ?_
  simp
  refine Stop.of_d (of_c a ha _ _) ?_
  simp
  repeat (first | refine AL.seq ?_ | refine AL.block ?_ | refine AL.skip ?_ | refine AL.blk ?_)
  refine AL.region follows_Try (Nat.le_refl _) (by kernel_rfl) ?_
  simp
  repeat (first | refine AL.seq ?_ | refine AL.block ?_ | refine AL.skip ?_ | refine AL.blk ?_)
  have htk0 : TK tok nt (upd (upd tok nt true) (nt + 1) true) (nt + 2) [.tok nt, .tok (nt + 1), .full, .full] := ((TK.start htok).full.app.full.app.swap.full.full).perm (List.perm_append_comm (l₁ := [Own.full, Own.full]) (l₂ := [Own.tok nt, Own.tok (nt + 1)]))
  refine AL.loopT (st61a a b l k nb box) (fun x => x.i ≤ l.length ∧ TK tok nt x.tok x.nt [x.o1, x.o2, x.o3, x.o4]) (fun x => l.length - x.i) ⟨0, .tok nt, .tok (nt + 1), .full, .full, _, _⟩ ⟨Nat.zero_le _, htk0⟩ (Weaks.mk htk0.le rfl (by simp [ToL, lk]) (by simp [BoxL, lk, glueN, idM])) ?_
  rintro ⟨i, o1, o2, o3, o4, tok', nt'⟩ S ⟨hi, htk⟩ hS
  simp only [st61a] at hS hi htk
  subst hS
  have hw : IntKind.i64.wrap (↑i + 1) = ((i + 1 : Nat) : Int) := by rw [wrap_in (by omega) (by omega)]; rfl
  have hln := glueN_len a.nodes b.nodes l i
  repeat (first | refine AL.seq ?_ | refine AL.block ?_ | refine AL.skip ?_ | refine AL.blk ?_)
  refine AL.region follows_Try (Nat.le_refl _) (by kernel_rfl) ?_
  simp
  repeat (first | refine AL.seq ?_ | refine AL.block ?_ | refine AL.skip ?_ | refine AL.blk ?_)
  refine AL.cond ?_
  simp
  refine ⟨fun hlt => ?_, fun hge => ?_⟩
  · have hlb : i < b.nodes.length := by omega
    repeat (first | refine AL.seq ?_ | refine AL.block ?_ | refine AL.skip ?_ | refine AL.blk ?_)
    refine AL.region follows_Try (Nat.le_refl _) (by kernel_rfl) ?_
    simp [hlt]
    repeat (first | refine AL.seq ?_ | refine AL.block ?_ | refine AL.skip ?_ | refine AL.blk ?_)
    refine AL.region follows_Try (Nat.le_refl _) (by kernel_rfl) ?_
    simp
    repeat (first | refine AL.seq ?_ | refine AL.block ?_ | refine AL.skip ?_ | refine AL.blk ?_)
    refine AL.cond ?_
    simp
    refine ⟨fun hneg => ?_, fun hpos => ?_⟩
    · repeat (first | refine AL.seq ?_ | refine AL.block ?_ | refine AL.skip ?_ | refine AL.blk ?_)
      refine AL.region follows_Try (Nat.le_refl _) (by kernel_rfl) ?_
      simp
      repeat (first | refine AL.seq ?_ | refine AL.block ?_ | refine AL.skip ?_ | refine AL.blk ?_)
      refine AL.region follows_Try (Nat.le_refl _) (by kernel_rfl) ?_
      simp [hlb]
      refine ⟨⟨by omega, htk.live⟩, ?_⟩
      have htk1 := htk.app
      repeat (first | refine AL.seq ?_ | refine AL.block ?_ | refine AL.skip ?_ | refine AL.blk ?_)
      refine AL.region follows_Try (Nat.le_refl _) (by kernel_rfl) ?_
      simp
      refine ⟨⟨by omega, by simpa using htk1.pick3.live⟩, ?_⟩
      have htk2 := htk1.pick3.app.put3
      repeat (first | refine AL.seq ?_ | refine AL.block ?_ | refine AL.skip ?_ | refine AL.blk ?_)
      refine AL.region follows_Try (Nat.le_refl _) (by kernel_rfl) ?_
      simp [hw]
      repeat (first | refine AL.seq ?_ | refine AL.block ?_ | refine AL.skip ?_ | refine AL.blk ?_)
      refine AL.nil ?_
      have hg : l.getD i 0 = l[i] := by simp [hlt]
      have hgb : b.nodes.getD i 0 = b.nodes[i] := by simp [hlb]
      refine ⟨⟨i + 1, _, _, _, _, _, _⟩, ⟨hlt, htk2⟩, by simp; omega, Weaks.mk htk2.le rfl (by simp [ToL, lk]) (by simp [BoxL, lk, glueN, hlt, hlb, hneg])⟩
    · repeat (first | refine AL.seq ?_ | refine AL.block ?_ | refine AL.skip ?_ | refine AL.blk ?_)
      refine AL.region follows_Try (Nat.le_refl _) (by kernel_rfl) ?_
      simp
      refine ⟨⟨by omega, htk.pick3.live⟩, ?_⟩
      have htk2 := htk.pick3.app.put3
      repeat (first | refine AL.seq ?_ | refine AL.block ?_ | refine AL.skip ?_ | refine AL.blk ?_)
      refine AL.region follows_Try (Nat.le_refl _) (by kernel_rfl) ?_
      simp [hw]
      repeat (first | refine AL.seq ?_ | refine AL.block ?_ | refine AL.skip ?_ | refine AL.blk ?_)
      refine AL.nil ?_
      refine ⟨⟨i + 1, _, _, _, _, _, _⟩, ⟨hlt, htk2⟩, by simp; omega, Weaks.mk htk2.le rfl (by simp [ToL, lk]) (by simp [BoxL, lk, glueN, hlt, hlb, show ¬ l[i] < 0 by omega])⟩
  · repeat (first | refine AL.seq ?_ | refine AL.block ?_ | refine AL.skip ?_ | refine AL.blk ?_)
    refine AL.exit ?_
    simp only [AU, ↓reduceIte]
    have : i = l.length := by omega
    subst this
    repeat (first | refine AL.seq ?_ | refine AL.block ?_ | refine AL.skip ?_ | refine AL.blk ?_)
    refine AL.region follows_Try (Nat.le_refl _) (by kernel_rfl) ?_
    simp
    repeat (first | refine AL.seq ?_ | refine AL.block ?_ | refine AL.skip ?_ | refine AL.blk ?_)
    have htk2 := htk.tail.swap.tail
    refine AL.loopT (st61b a b l k nb box) (fun x => x.i ≤ k.length ∧ TK tok nt x.tok x.nt [x.o1, x.o2]) (fun x => k.length - x.i) ⟨0, o2, o4, tok', nt'⟩ ⟨Nat.zero_le _, htk2⟩ (Weaks.mk htk2.le rfl (by simp [ToL, lk]) (by simp [BoxL, lk, glueE])) ?_
    rintro ⟨i, o1, o2, tok', nt'⟩ S ⟨hi, htk⟩ hS
    simp only [st61b] at hS hi htk
    subst hS
    have hw : IntKind.i64.wrap (↑i + 1) = ((i + 1 : Nat) : Int) := by rw [wrap_in (by omega) (by omega)]; rfl
    generalize hrn : (glueN a.nodes b.nodes l l.length).2 = rn at *
    have hrl : rn.length = l.length := hln.2
    have hle := glueE_len a.edges b.edges rn k i
    repeat (first | refine AL.seq ?_ | refine AL.block ?_ | refine AL.skip ?_ | refine AL.blk ?_)
    refine AL.region follows_Try (Nat.le_refl _) (by kernel_rfl) ?_
    simp
    repeat (first | refine AL.seq ?_ | refine AL.block ?_ | refine AL.skip ?_ | refine AL.blk ?_)
    refine AL.cond ?_
    simp
    refine ⟨fun hlt => ?_, fun hge => ?_⟩
    · have hlb : i < b.edges.length := by omega
      repeat (first | refine AL.seq ?_ | refine AL.block ?_ | refine AL.skip ?_ | refine AL.blk ?_)
      refine AL.region follows_Try (Nat.le_refl _) (by kernel_rfl) ?_
      simp [hlt]
      repeat (first | refine AL.seq ?_ | refine AL.block ?_ | refine AL.skip ?_ | refine AL.blk ?_)
      refine AL.region follows_Try (Nat.le_refl _) (by kernel_rfl) ?_
      simp
      repeat (first | refine AL.seq ?_ | refine AL.block ?_ | refine AL.skip ?_ | refine AL.blk ?_)
      refine AL.cond ?_
      simp
      refine ⟨fun hneg => ?_, fun hpos => ?_⟩
      · obtain ⟨x1, x2, x3, x4⟩ := hx i hlt hlb hneg
        have y1 : b.edges[i].fr.toNat < rn.length := by omega
        have y2 : b.edges[i].to.toNat < rn.length := by omega
        repeat (first | refine AL.seq ?_ | refine AL.block ?_ | refine AL.skip ?_ | refine AL.blk ?_)
        refine AL.region follows_Try (Nat.le_refl _) (by kernel_rfl) ?_
        simp [hlb]
        repeat (first | refine AL.seq ?_ | refine AL.block ?_ | refine AL.skip ?_ | refine AL.blk ?_)
        refine AL.region follows_Try (Nat.le_refl _) (by kernel_rfl) ?_
        simp
        repeat (first | refine AL.seq ?_ | refine AL.block ?_ | refine AL.skip ?_ | refine AL.blk ?_)
        refine AL.region follows_Try (Nat.le_refl _) (by kernel_rfl) ?_
        simp [x1, x2, x3, x4, y1, y2, hrl]
        refine ⟨⟨by omega, htk.live⟩, ?_⟩
        have htk1 := htk.app
        repeat (first | refine AL.seq ?_ | refine AL.block ?_ | refine AL.skip ?_ | refine AL.blk ?_)
        refine AL.region follows_Try (Nat.le_refl _) (by kernel_rfl) ?_
        simp
        refine ⟨⟨by omega, by simpa using htk1.swap.live⟩, ?_⟩
        have htk2 := htk1.swap.app.swap
        repeat (first | refine AL.seq ?_ | refine AL.block ?_ | refine AL.skip ?_ | refine AL.blk ?_)
        refine AL.region follows_Try (Nat.le_refl _) (by kernel_rfl) ?_
        simp [hw]
        repeat (first | refine AL.seq ?_ | refine AL.block ?_ | refine AL.skip ?_ | refine AL.blk ?_)
        refine AL.nil ?_
        have hbd : b.edges.getD i default = b.edges[i] := by simp [hlb]
        refine ⟨⟨i + 1, _, _, _, _⟩, ⟨hlt, htk2⟩, by simp; omega, Weaks.mk htk2.le rfl (by simp [ToL, lk]) (by simp [BoxL, lk, glueE, hrn, hlt, hlb, hneg, y1, y2])⟩
      · repeat (first | refine AL.seq ?_ | refine AL.block ?_ | refine AL.skip ?_ | refine AL.blk ?_)
        refine AL.region follows_Try (Nat.le_refl _) (by kernel_rfl) ?_
        simp
        refine ⟨⟨by omega, htk.swap.live⟩, ?_⟩
        have htk2 := htk.swap.app.swap
        repeat (first | refine AL.seq ?_ | refine AL.block ?_ | refine AL.skip ?_ | refine AL.blk ?_)
        refine AL.region follows_Try (Nat.le_refl _) (by kernel_rfl) ?_
        simp [hw]
        repeat (first | refine AL.seq ?_ | refine AL.block ?_ | refine AL.skip ?_ | refine AL.blk ?_)
        refine AL.nil ?_
        refine ⟨⟨i + 1, _, _, _, _⟩, ⟨hlt, htk2⟩, by simp; omega, Weaks.mk htk2.le rfl (by simp [ToL, lk]) (by simp [BoxL, lk, glueE, hrn, hlt, hlb, show ¬ k[i] < 0 by omega])⟩
    · repeat (first | refine AL.seq ?_ | refine AL.block ?_ | refine AL.skip ?_ | refine AL.blk ?_)
      refine AL.exit ?_
      simp only [AU, ↓reduceIte]
      have : i = k.length := by omega
      subst this
      repeat (first | refine AL.seq ?_ | refine AL.block ?_ | refine AL.skip ?_ | refine AL.blk ?_)
      refine AL.region follows_Try (Nat.le_refl _) (by kernel_rfl) ?_
      simp
      repeat (first | refine AL.seq ?_ | refine AL.block ?_ | refine AL.skip ?_ | refine AL.blk ?_)
      refine AL.ret ?_
      try simp only [AU]
      refine ⟨by simp, Fin.data (by simp [resAs, resA]; rfl) hbox rfl htok htk.old htk.le ?_⟩
      simp [packA, glue, hrn]
end Go.AM
