import Derived.Test.YtgonmjghdkoekaaFacQ
namespace Go.AM
open Go Go.Proofs
set_option linter.unusedSimpArgs false
set_option linter.unusedVariables false

/-! ### ref13.numbered, quotient -/
def st106 (l : List Int) (nb : Nat) (box : Nat → Option (List (List AV))) (x : Acc) : AState :=
  ⟨tl [(0, .d (ints l)), (3, .osl 1 (rI (numN l x.i).1) x.own), (4, I (numN l x.i).2), (5, I x.i)], lb nb box [], x.tok, x.nt⟩

theorem numbered_c (l : List Int) (hl : l.length ≤ 80) (hp : PartL l) (tok : Nat → Bool) (nt : Nat) : DCall Try.prog 106 [.d (ints l)] tok nt (.d (ints (numN l l.length).1)) tok nt := by
  intro box nb
  refine ACalls.of_body Try.func106 rfl (by kernel_rfl) follows_Try (by kernel_rfl) (by simp [Try.ntmps106]) ?_
  intro hbox htok
  simp only at hbox htok
  apply AL.start
  repeat (first | refine AL.seq ?_ | refine AL.block ?_ | refine AL.skip ?_ | refine AL.blk ?_)
  refine AL.region follows_Try (Nat.le_refl _) (by kernel_rfl) ?_
  simp
  repeat (first | refine AL.seq ?_ | refine AL.block ?_ | refine AL.skip ?_ | refine AL.blk ?_)
  refine AL.region follows_Try (Nat.le_refl _) (by kernel_rfl) ?_
  simp
  repeat (first | refine AL.seq ?_ | refine AL.block ?_ | refine AL.skip ?_ | refine AL.blk ?_)
  refine AL.region follows_Try (Nat.le_refl _) (by kernel_rfl) ?_
  simp
  repeat (first | refine AL.seq ?_ | refine AL.block ?_ | refine AL.skip ?_ | refine AL.blk ?_)
  refine AL.region follows_Try (Nat.le_refl _) (by kernel_rfl) ?_
  simp
  repeat (first | refine AL.seq ?_ | refine AL.block ?_ | refine AL.skip ?_ | refine AL.blk ?_)
  refine AL.loopT (st106 l nb box) (fun x => x.i ≤ l.length ∧ TK tok nt x.tok x.nt [x.own]) (fun x => l.length - x.i) ⟨0, .full, tok, nt⟩ ⟨Nat.zero_le _, (TK.start htok).full⟩ (Weaks.mk (Nat.le_refl _) rfl (by simp [ToL, numN]) trivial) ?_
  rintro ⟨i, own, tok', nt'⟩ S ⟨hi, htk⟩ hS
  simp only [st106] at hS hi htk
  subst hS
  have hw : IntKind.i64.wrap (↑i + 1) = ((i + 1 : Nat) : Int) := by rw [wrap_in (by omega) (by omega)]; rfl
  obtain ⟨hn1, hn2, hn3⟩ := numN_len l i
  repeat (first | refine AL.seq ?_ | refine AL.block ?_ | refine AL.skip ?_ | refine AL.blk ?_)
  refine AL.region follows_Try (Nat.le_refl _) (by kernel_rfl) ?_
  simp
  repeat (first | refine AL.seq ?_ | refine AL.block ?_ | refine AL.skip ?_ | refine AL.blk ?_)
  refine AL.cond ?_
  simp
  refine ⟨fun hlt => ?_, fun hge => ?_⟩
  · obtain ⟨h1, h2, h3⟩ := hp i hlt
    have hwn : IntKind.i64.wrap ((numN l i).2 + 1) = (numN l i).2 + 1 := wrap_in (by omega) (by omega)
    repeat (first | refine AL.seq ?_ | refine AL.block ?_ | refine AL.skip ?_ | refine AL.blk ?_)
    refine AL.region follows_Try (Nat.le_refl _) (by kernel_rfl) ?_
    simp [hlt]
    repeat (first | refine AL.seq ?_ | refine AL.block ?_ | refine AL.skip ?_ | refine AL.blk ?_)
    refine AL.cond ?_
    simp
    refine ⟨fun he => ?_, fun hne => ?_⟩
    · repeat (first | refine AL.seq ?_ | refine AL.block ?_ | refine AL.skip ?_ | refine AL.blk ?_)
      refine AL.region follows_Try (Nat.le_refl _) (by kernel_rfl) ?_
      simp
      refine ⟨⟨by omega, htk.live⟩, ?_⟩
      repeat (first | refine AL.seq ?_ | refine AL.block ?_ | refine AL.skip ?_ | refine AL.blk ?_)
      refine AL.region follows_Try (Nat.le_refl _) (by kernel_rfl) ?_
      simp [hwn]
      repeat (first | refine AL.seq ?_ | refine AL.block ?_ | refine AL.skip ?_ | refine AL.blk ?_)
      refine AL.region follows_Try (Nat.le_refl _) (by kernel_rfl) ?_
      simp [hw]
      repeat (first | refine AL.seq ?_ | refine AL.block ?_ | refine AL.skip ?_ | refine AL.blk ?_)
      refine AL.nil ?_
      refine ⟨⟨i + 1, _, _, _⟩, ⟨hlt, htk.app⟩, by simp; omega, Weaks.mk htk.app.le rfl (by simp [ToL, numN, hlt, he]) trivial⟩
    · have h4 : l[i].toNat < (numN l i).1.length := by omega
      have h5 : l[i] < ((numN l i).1.length : Int) := by omega
      repeat (first | refine AL.seq ?_ | refine AL.block ?_ | refine AL.skip ?_ | refine AL.blk ?_)
      refine AL.region follows_Try (Nat.le_refl _) (by kernel_rfl) ?_
      simp [hlt, h1, h4, h5]
      refine ⟨⟨by omega, htk.live⟩, ?_⟩
      repeat (first | refine AL.seq ?_ | refine AL.block ?_ | refine AL.skip ?_ | refine AL.blk ?_)
      refine AL.region follows_Try (Nat.le_refl _) (by kernel_rfl) ?_
      simp [hw]
      repeat (first | refine AL.seq ?_ | refine AL.block ?_ | refine AL.skip ?_ | refine AL.blk ?_)
      refine AL.nil ?_
      refine ⟨⟨i + 1, _, _, _⟩, ⟨hlt, htk.app⟩, by simp; omega, Weaks.mk htk.app.le rfl (by simp [ToL, numN, hlt, hne, h4]) trivial⟩
  · repeat (first | refine AL.seq ?_ | refine AL.block ?_ | refine AL.skip ?_ | refine AL.blk ?_)
    refine AL.exit ?_
    simp only [AU, ↓reduceIte]
    have : i = l.length := by omega
    subst this
    repeat (first | refine AL.seq ?_ | refine AL.block ?_ | refine AL.skip ?_ | refine AL.blk ?_)
    refine AL.region follows_Try (Nat.le_refl _) (by kernel_rfl) ?_
    simp
    repeat (first | refine AL.seq ?_ | refine AL.block ?_ | refine AL.skip ?_ | refine AL.blk ?_)
    refine AL.ret ?_
    try simp only [AU]
    refine ⟨by simp, Fin.data (by simp [resAs, resA]; rfl) hbox rfl htok htk.old htk.le ?_⟩
    simp [packA, ]

def repN (an l : List Int) : Nat → List Int
  | 0 => []
  | i + 1 => if l.getD i 0 = i then repN an l i ++ [an.getD i 0] else repN an l i
def repE (ae : List E) (qn l : List Int) : Nat → List E
  | 0 => []
  | i + 1 => if l.getD i 0 = i then repE ae qn l i ++ [⟨(ae.getD i default).ty, qn.getD (ae.getD i default).fr.toNat 0, qn.getD (ae.getD i default).to.toNat 0⟩] else repE ae qn l i
def quot (a : Gr) (nodes edges : List Int) : Qu :=
  let qn := (numN nodes nodes.length).1
  ⟨⟨repN a.nodes nodes nodes.length, repE a.edges qn edges edges.length⟩, ⟨qn, (numN edges edges.length).1⟩⟩

theorem repN_len (an l : List Int) : ∀ i, (repN an l i).length ≤ i
  | 0 => by simp [repN]
  | i + 1 => by
    have := repN_len an l i
    simp only [repN]
    split <;> simp <;> omega
theorem repE_len (ae : List E) (qn l : List Int) : ∀ i, (repE ae qn l i).length ≤ i
  | 0 => by simp [repE]
  | i + 1 => by
    have := repE_len ae qn l i
    simp only [repE]
    split <;> simp <;> omega

def st99a (a : Gr) (l k : List Int) (nb : Nat) (box : Nat → Option (List (List AV))) (x : Acc2) : AState :=
  ⟨tl [(1, .d (ints l)), (2, .d (ints k)), (3, .ptr (nb + 3) 0 0), (6, .ptr (nb + 6) 0 0), (7, .ptr (nb + 7) 0 0), (8, I x.i)],
    lb nb box [(3, [[.d (ints a.nodes), .d (AM.edges a.edges)]]), (6, [[.bot, .bot, .bot, .bot]]),
      (7, [[.osl 1 (rI (repN a.nodes l x.i)) x.o1, .osl 3 [] x.o2, .d (ints (numN l l.length).1), .d (ints (numN k k.length).1)]])], x.tok, x.nt⟩

def st99b (a : Gr) (l k : List Int) (nb : Nat) (box : Nat → Option (List (List AV))) (x : Acc) : AState :=
  ⟨tl [(2, .d (ints k)), (3, .ptr (nb + 3) 0 0), (6, .ptr (nb + 6) 0 0), (7, .ptr (nb + 7) 0 0), (9, I x.i)],
    lb nb box [(3, [[.d (ints a.nodes), .d (AM.edges a.edges)]]), (6, [[.bot, .bot, .bot, .bot]]),
      (7, [[.d (ints (repN a.nodes l l.length)), .osl 3 (rE (repE a.edges (numN l l.length).1 k x.i)) x.own, .d (ints (numN l l.length).1), .d (ints (numN k k.length).1)]])], x.tok, x.nt⟩

theorem quotient99_c (a : Gr) (l k : List Int) (hl : l.length = a.nodes.length) (hk : k.length = a.edges.length) (hl8 : l.length ≤ 80) (hk8 : k.length ≤ 80) (hpl : PartL l) (hpk : PartL k)
    (hx : ∀ e ∈ a.edges, 0 ≤ e.fr ∧ e.fr < a.nodes.length ∧ 0 ≤ e.to ∧ e.to < a.nodes.length) (tok : Nat → Bool) (nt : Nat) :
    DCall Try.prog 99 [a.av, .d (ints l), .d (ints k)] tok nt (quot a l k).av tok nt := by
  intro box nb
  refine ACalls.of_body Try.func99 rfl (by kernel_rfl) follows_Try (by kernel_rfl) (by simp [Try.ntmps99]) ?_
  intro hbox htok
  simp only at hbox htok
  apply AL.start
  repeat (first | refine AL.seq ?_ | refine AL.block ?_ | refine AL.skip ?_ | refine AL.blk ?_)
  refine AL.region follows_Try (Nat.le_refl _) (by kernel_rfl) ?_
  simp
  repeat (first | refine AL.seq ?_ | refine AL.block ?_ | refine AL.skip ?_ | refine AL.blk ?_)
  refine AL.region follows_Try (Nat.le_refl _) (by kernel_rfl) ?_
  simp
  refine Stop.of_d (numbered_c l hl8 hpl _ _) ?_
  simp
  refine Stop.of_d (numbered_c k hk8 hpk _ _) ?_
  simp
  repeat (first | refine AL.seq ?_ | refine AL.block ?_ | refine AL.skip ?_ | refine AL.blk ?_)
  refine AL.region follows_Try (Nat.le_refl _) (by kernel_rfl) ?_
  simp
  repeat (first | refine AL.seq ?_ | refine AL.block ?_ | refine AL.skip ?_ | refine AL.blk ?_)
  have htk0 : TK tok nt tok nt [.full, .full] := (TK.start htok).full.full
  refine AL.loopT (st99a a l k nb box) (fun x => x.i ≤ l.length ∧ TK tok nt x.tok x.nt [x.o1, x.o2]) (fun x => l.length - x.i) ⟨0, .full, .full, tok, nt⟩ ⟨Nat.zero_le _, htk0⟩ (Weaks.mk htk0.le rfl (by simp [ToL, lk]) (by simp [BoxL, lk, repN])) ?_
  rintro ⟨i, o1, o2, tok', nt'⟩ S ⟨hi, htk⟩ hS
  simp only [st99a] at hS hi htk
  subst hS
  have hw : IntKind.i64.wrap (↑i + 1) = ((i + 1 : Nat) : Int) := by rw [wrap_in (by omega) (by omega)]; rfl
  have hln := repN_len a.nodes l i
  repeat (first | refine AL.seq ?_ | refine AL.block ?_ | refine AL.skip ?_ | refine AL.blk ?_)
  refine AL.region follows_Try (Nat.le_refl _) (by kernel_rfl) ?_
  simp
  repeat (first | refine AL.seq ?_ | refine AL.block ?_ | refine AL.skip ?_ | refine AL.blk ?_)
  refine AL.cond ?_
  simp
  refine ⟨fun hlt => ?_, fun hge => ?_⟩
  · have hlb : i < a.nodes.length := by omega
    repeat (first | refine AL.seq ?_ | refine AL.block ?_ | refine AL.skip ?_ | refine AL.blk ?_)
    refine AL.region follows_Try (Nat.le_refl _) (by kernel_rfl) ?_
    simp [hlt]
    repeat (first | refine AL.seq ?_ | refine AL.block ?_ | refine AL.skip ?_ | refine AL.blk ?_)
    refine AL.cond ?_
    simp
    refine ⟨fun he => ?_, fun hne => ?_⟩
    · repeat (first | refine AL.seq ?_ | refine AL.block ?_ | refine AL.skip ?_ | refine AL.blk ?_)
      refine AL.region follows_Try (Nat.le_refl _) (by kernel_rfl) ?_
      simp [hlb]
      refine ⟨⟨by omega, htk.live⟩, ?_⟩
      repeat (first | refine AL.seq ?_ | refine AL.block ?_ | refine AL.skip ?_ | refine AL.blk ?_)
      refine AL.region follows_Try (Nat.le_refl _) (by kernel_rfl) ?_
      simp [hw]
      repeat (first | refine AL.seq ?_ | refine AL.block ?_ | refine AL.skip ?_ | refine AL.blk ?_)
      refine AL.nil ?_
      refine ⟨⟨i + 1, _, _, _, _⟩, ⟨hlt, htk.app⟩, by simp; omega, Weaks.mk htk.app.le rfl (by simp [ToL, lk]) (by simp [BoxL, lk, repN, hlt, hlb, he])⟩
    · repeat (first | refine AL.seq ?_ | refine AL.block ?_ | refine AL.skip ?_ | refine AL.blk ?_)
      refine AL.region follows_Try (Nat.le_refl _) (by kernel_rfl) ?_
      simp [hw]
      repeat (first | refine AL.seq ?_ | refine AL.block ?_ | refine AL.skip ?_ | refine AL.blk ?_)
      refine AL.nil ?_
      refine ⟨⟨i + 1, _, _, _, _⟩, ⟨hlt, htk⟩, by simp; omega, Weaks.mk htk.le rfl (by simp [ToL, lk]) (by simp [BoxL, lk, repN, hlt, hlb, hne])⟩
  · repeat (first | refine AL.seq ?_ | refine AL.block ?_ | refine AL.skip ?_ | refine AL.blk ?_)
    refine AL.exit ?_
    simp only [AU, ↓reduceIte]
    have : i = l.length := by omega
    subst this
    repeat (first | refine AL.seq ?_ | refine AL.block ?_ | refine AL.skip ?_ | refine AL.blk ?_)
    refine AL.region follows_Try (Nat.le_refl _) (by kernel_rfl) ?_
    simp
    repeat (first | refine AL.seq ?_ | refine AL.block ?_ | refine AL.skip ?_ | refine AL.blk ?_)
    have htk2 := htk.tail
    refine AL.loopT (st99b a l k nb box) (fun x => x.i ≤ k.length ∧ TK tok nt x.tok x.nt [x.own]) (fun x => k.length - x.i) ⟨0, o2, tok', nt'⟩ ⟨Nat.zero_le _, htk2⟩ (Weaks.mk htk2.le rfl (by simp [ToL, lk]) (by simp [BoxL, lk, repE])) ?_
    rintro ⟨i, own, tok', nt'⟩ S ⟨hi, htk⟩ hS
    simp only [st99b] at hS hi htk
    subst hS
    have hw : IntKind.i64.wrap (↑i + 1) = ((i + 1 : Nat) : Int) := by rw [wrap_in (by omega) (by omega)]; rfl
    have hqn := (numN_len l l.length).1
    generalize hqe : (numN l l.length).1 = qn at *
    have hle := repE_len a.edges qn k i
    repeat (first | refine AL.seq ?_ | refine AL.block ?_ | refine AL.skip ?_ | refine AL.blk ?_)
    refine AL.region follows_Try (Nat.le_refl _) (by kernel_rfl) ?_
    simp
    repeat (first | refine AL.seq ?_ | refine AL.block ?_ | refine AL.skip ?_ | refine AL.blk ?_)
    refine AL.cond ?_
    simp
    refine ⟨fun hlt => ?_, fun hge => ?_⟩
    · have hlb : i < a.edges.length := by omega
      obtain ⟨x1, x2, x3, x4⟩ := hx _ (List.getElem_mem hlb)
      have y1 : a.edges[i].fr.toNat < qn.length := by omega
      have y2 : a.edges[i].to.toNat < qn.length := by omega
      rw [← hl, ← hqn] at x2 x4
      repeat (first | refine AL.seq ?_ | refine AL.block ?_ | refine AL.skip ?_ | refine AL.blk ?_)
      refine AL.region follows_Try (Nat.le_refl _) (by kernel_rfl) ?_
      simp [hlt]
      repeat (first | refine AL.seq ?_ | refine AL.block ?_ | refine AL.skip ?_ | refine AL.blk ?_)
      refine AL.cond ?_
      simp
      refine ⟨fun he => ?_, fun hne => ?_⟩
      · repeat (first | refine AL.seq ?_ | refine AL.block ?_ | refine AL.skip ?_ | refine AL.blk ?_)
        refine AL.region follows_Try (Nat.le_refl _) (by kernel_rfl) ?_
        simp [hlb]
        repeat (first | refine AL.seq ?_ | refine AL.block ?_ | refine AL.skip ?_ | refine AL.blk ?_)
        refine AL.region follows_Try (Nat.le_refl _) (by kernel_rfl) ?_
        simp [x1, x2, x3, x4, y1, y2]
        refine ⟨⟨by omega, htk.live⟩, ?_⟩
        repeat (first | refine AL.seq ?_ | refine AL.block ?_ | refine AL.skip ?_ | refine AL.blk ?_)
        refine AL.region follows_Try (Nat.le_refl _) (by kernel_rfl) ?_
        simp [hw]
        repeat (first | refine AL.seq ?_ | refine AL.block ?_ | refine AL.skip ?_ | refine AL.blk ?_)
        refine AL.nil ?_
        refine ⟨⟨i + 1, _, _, _⟩, ⟨hlt, htk.app⟩, by simp; omega, Weaks.mk htk.app.le rfl (by simp [ToL, lk]) (by simp [BoxL, lk, repE, hlt, hlb, he, y1, y2, hqe])⟩
      · repeat (first | refine AL.seq ?_ | refine AL.block ?_ | refine AL.skip ?_ | refine AL.blk ?_)
        refine AL.region follows_Try (Nat.le_refl _) (by kernel_rfl) ?_
        simp [hw]
        repeat (first | refine AL.seq ?_ | refine AL.block ?_ | refine AL.skip ?_ | refine AL.blk ?_)
        refine AL.nil ?_
        refine ⟨⟨i + 1, _, _, _⟩, ⟨hlt, htk⟩, by simp; omega, Weaks.mk htk.le rfl (by simp [ToL, lk]) (by simp [BoxL, lk, repE, hlt, hlb, hne, hqe])⟩
    · repeat (first | refine AL.seq ?_ | refine AL.block ?_ | refine AL.skip ?_ | refine AL.blk ?_)
      refine AL.exit ?_
      simp only [AU, ↓reduceIte]
      have : i = k.length := by omega
      subst this
      repeat (first | refine AL.seq ?_ | refine AL.block ?_ | refine AL.skip ?_ | refine AL.blk ?_)
      refine AL.region follows_Try (Nat.le_refl _) (by kernel_rfl) ?_
      simp
      repeat (first | refine AL.seq ?_ | refine AL.block ?_ | refine AL.skip ?_ | refine AL.blk ?_)
      refine AL.ret ?_
      try simp only [AU]
      refine ⟨by simp, Fin.data (by simp [resAs, resA]; rfl) hbox rfl htok htk.old htk.le ?_⟩
      simp [packA, quot, hqe]
end Go.AM
