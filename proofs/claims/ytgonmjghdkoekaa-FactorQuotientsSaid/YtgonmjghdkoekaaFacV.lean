import Derived.Test.YtgonmjghdkoekaaFacU
namespace Go.AM
open Go Go.Proofs
set_option linter.unusedSimpArgs false
set_option linter.unusedVariables false

/-! ### factor.quotient -/
def fillN (p an : List Int) (n : Nat) : Nat → List Int
  | 0 => List.replicate n 0
  | i + 1 => (fillN p an n i).set (p.getD i 0).toNat (an.getD i 0)
def fillE (q p : List Int) (ae : List E) (m : Nat) : Nat → List E
  | 0 => List.replicate m ⟨0, 0, 0⟩
  | i + 1 => (fillE q p ae m i).set (q.getD i 0).toNat ⟨(ae.getD i default).ty, p.getD (ae.getD i default).fr.toNat 0, p.getD (ae.getD i default).to.toNat 0⟩
theorem fillN_len (p an : List Int) (n : Nat) : ∀ i, (fillN p an n i).length = n
  | 0 => by simp [fillN]
  | i + 1 => by simp [fillN, fillN_len p an n i]
theorem fillE_len (q p : List Int) (ae : List E) (m : Nat) : ∀ i, (fillE q p ae m i).length = m
  | 0 => by simp [fillE]
  | i + 1 => by simp [fillE, fillE_len q p ae m i]

def quF (a : Gr) (nodes edges : List Int) : Qu :=
  let p := (numN nodes nodes.length).1
  let q := (numN edges edges.length).1
  ⟨⟨fillN p a.nodes (numN nodes nodes.length).2.toNat a.nodes.length, fillE q p a.edges (numN edges edges.length).2.toNat a.edges.length⟩, ⟨p, q⟩⟩

theorem numN_range {l : List Int} (hp : PartL l) : ∀ i, i ≤ l.length → ∀ j (h : j < (numN l i).1.length), 0 ≤ (numN l i).1[j] ∧ (numN l i).1[j] < (numN l i).2
  | 0, _ => by intro j h; simp [numN] at h
  | i + 1, hi => by
    intro j h
    have ih := numN_range hp i (by omega)
    have hlen := numN_len l i
    have hil : i < l.length := by omega
    have hg : l.getD i 0 = l[i] := by simp [hil]
    obtain ⟨p1, p2, p3⟩ := hp i hil
    simp only [numN, hg] at h ⊢
    split
    · rename_i he
      simp only [he, ↓reduceIte] at h
      by_cases hj : j < (numN l i).1.length
      · rw [List.getElem_append_left hj]
        have := ih j hj
        exact ⟨this.1, by omega⟩
      · have hj2 : j = (numN l i).1.length := by simp at h; omega
        subst hj2
        rw [List.getElem_concat_length (by simp)]
        exact ⟨hlen.2.1, by omega⟩
    · rename_i he
      simp only [he, ↓reduceIte] at h
      by_cases hj : j < (numN l i).1.length
      · rw [List.getElem_append_left hj]
        exact ih j hj
      · have hj2 : j = (numN l i).1.length := by simp at h; omega
        subst hj2
        rw [List.getElem_concat_length (by simp)]
        have h4 : l[i].toNat < (numN l i).1.length := by omega
        rw [List.getD_eq_getElem?_getD, List.getElem?_eq_getElem h4]
        exact ih _ h4

def st49a (a : Gr) (p q : List Int) (n m : Nat) (nb : Nat) (box : Nat → Option (List (List AV))) (tok : Nat → Bool) (nt : Nat) (i : Nat) : AState :=
  ⟨tl [(3, .ptr (nb + 3) 0 0), (6, .ptr (nb + 6) 0 0), (7, .d (ints p)), (10, .d (ints q)), (13, .ptr (nb + 13) 0 0), (40, .d (ints a.nodes)), (41, I a.nodes.length), (42, I i)],
    lb nb box [(3, [[.d (ints a.nodes), .d (AM.edges a.edges)]]), (6, [[.bot, .bot, .bot, .bot]]), (13, [[.msl (nb + 31) 0 n 1, .msl (nb + 33) 0 m 3, .d (ints p), .d (ints q)]]), (31, rowsI (fillN p a.nodes n i)), (33, rowsE (List.replicate m ⟨0, 0, 0⟩))], tok, nt⟩

def st49b (a : Gr) (l p q : List Int) (n m : Nat) (nb : Nat) (box : Nat → Option (List (List AV))) (tok : Nat → Bool) (nt : Nat) (i : Nat) : AState :=
  ⟨tl [(6, .ptr (nb + 6) 0 0), (7, .d (ints p)), (10, .d (ints q)), (13, .ptr (nb + 13) 0 0), (58, .d (AM.edges a.edges)), (59, I a.edges.length), (60, I i)],
    lb nb box [(6, [[.bot, .bot, .bot, .bot]]), (13, [[.msl (nb + 31) 0 n 1, .msl (nb + 33) 0 m 3, .d (ints p), .d (ints q)]]), (31, rowsI (fillN p a.nodes n a.nodes.length)), (33, rowsE (fillE q p a.edges m i))], tok, nt⟩

theorem quotient49_c (a : Gr) (l k : List Int) (hl : l.length = a.nodes.length) (hk : k.length = a.edges.length) (hl8 : l.length ≤ 80) (hk8 : k.length ≤ 80) (hpl : PartL l) (hpk : PartL k)
    (hx : ∀ e ∈ a.edges, 0 ≤ e.fr ∧ e.fr < a.nodes.length ∧ 0 ≤ e.to ∧ e.to < a.nodes.length) (tok : Nat → Bool) (nt : Nat) :
    DCall Try.prog 49 [a.av, .d (ints l), .d (ints k)] tok nt (quF a l k).av tok nt := by
  intro box nb
  have hnl := numN_len l l.length
  have hnk := numN_len k k.length
  have hrl := numN_range hpl l.length (Nat.le_refl _)
  have hrk := numN_range hpk k.length (Nat.le_refl _)
  refine ACalls.of_body Try.func49 rfl (by kernel_rfl) follows_Try (by kernel_rfl) (by simp [Try.ntmps49]) ?_
  intro hbox htok
  simp only at hbox htok
  apply AL.start
  repeat (first | refine AL.seq ?_ | refine AL.block ?_ | refine AL.skip ?_ | refine AL.blk ?_)
  refine AL.region follows_Try (Nat.le_refl _) (by kernel_rfl) ?_
  simp
  repeat (first | refine AL.seq ?_ | refine AL.block ?_ | refine AL.skip ?_ | refine AL.blk ?_)
  refine AL.region follows_Try (Nat.le_refl _) (by kernel_rfl) ?_
  simp
  refine Stop.of_d (quotient86_c l hl8 hpl _ _) ?_
  simp
  repeat (first | refine AL.seq ?_ | refine AL.block ?_ | refine AL.skip ?_ | refine AL.blk ?_)
  refine AL.region follows_Try (Nat.le_refl _) (by kernel_rfl) ?_
  simp
  refine Stop.of_d (quotient86_c k hk8 hpk _ _) ?_
  simp
  generalize hp : (numN l l.length).1 = p at *
  generalize hq : (numN k k.length).1 = q at *
  generalize hn : (numN l l.length).2 = n at *
  generalize hm : (numN k k.length).2 = m at *
  repeat (first | refine AL.seq ?_ | refine AL.block ?_ | refine AL.skip ?_ | refine AL.blk ?_)
  refine AL.region follows_Try (Nat.le_refl _) (by kernel_rfl) ?_
  simp
  refine ⟨⟨hnl.2.1, by omega⟩, ⟨hnk.2.1, by omega⟩, ?_⟩
  obtain ⟨nn, hnn⟩ : ∃ nn : Nat, n = nn := ⟨n.toNat, by omega⟩
  obtain ⟨mm, hmm⟩ : ∃ mm : Nat, m = mm := ⟨m.toNat, by omega⟩
  subst hnn; subst hmm
  simp only [Int.toNat_natCast]
  repeat (first | refine AL.seq ?_ | refine AL.block ?_ | refine AL.skip ?_ | refine AL.blk ?_)
  refine AL.region follows_Try (Nat.le_refl _) (by kernel_rfl) ?_
  simp
  repeat (first | refine AL.seq ?_ | refine AL.block ?_ | refine AL.skip ?_ | refine AL.blk ?_)
  refine AL.loopT (st49a a p q nn mm nb box tok nt) (fun i => i ≤ a.nodes.length) (fun i => a.nodes.length - i) 0 (Nat.zero_le _) (Weaks.mk (Nat.le_refl _) rfl (by simp [ToL, lk]) (by simp [BoxL, lk, fillN])) ?_
  rintro i S hi hS
  simp only [st49a] at hS
  subst hS
  have hw : IntKind.i64.wrap (↑i + 1) = ((i + 1 : Nat) : Int) := by rw [wrap_in (by omega) (by omega)]; rfl
  have hfl := fillN_len p a.nodes nn i
  repeat (first | refine AL.seq ?_ | refine AL.block ?_ | refine AL.skip ?_ | refine AL.blk ?_)
  refine AL.region follows_Try (Nat.le_refl _) (by kernel_rfl) ?_
  simp
  repeat (first | refine AL.seq ?_ | refine AL.block ?_ | refine AL.skip ?_ | refine AL.blk ?_)
  refine AL.cond ?_
  simp
  refine ⟨fun hlt => ?_, fun hge => ?_⟩
  · have hip : i < p.length := by omega
    obtain ⟨r1, r2⟩ := hrl i hip
    have r3 : p[i].toNat < nn := by omega
    repeat (first | refine AL.seq ?_ | refine AL.block ?_ | refine AL.skip ?_ | refine AL.blk ?_)
    refine AL.region follows_Try (Nat.le_refl _) (by kernel_rfl) ?_
    simp [hlt]
    repeat (first | refine AL.seq ?_ | refine AL.block ?_ | refine AL.skip ?_ | refine AL.blk ?_)
    refine AL.region follows_Try (Nat.le_refl _) (by kernel_rfl) ?_
    simp [hlt, hip, r1, r2, r3, hfl]
    repeat (first | refine AL.seq ?_ | refine AL.block ?_ | refine AL.skip ?_ | refine AL.blk ?_)
    refine AL.region follows_Try (Nat.le_refl _) (by kernel_rfl) ?_
    simp [hw]
    repeat (first | refine AL.seq ?_ | refine AL.block ?_ | refine AL.skip ?_ | refine AL.blk ?_)
    refine AL.nil ?_
    refine ⟨i + 1, hlt, by omega, Weaks.mk (Nat.le_refl _) rfl (by simp [ToL, lk]) (by simp [BoxL, lk, fillN, hip, hlt])⟩
  · repeat (first | refine AL.seq ?_ | refine AL.block ?_ | refine AL.skip ?_ | refine AL.blk ?_)
    refine AL.exit ?_
    simp only [AU, ↓reduceIte]
    have : i = a.nodes.length := by omega
    subst this
    repeat (first | refine AL.seq ?_ | refine AL.block ?_ | refine AL.skip ?_ | refine AL.blk ?_)
    refine AL.region follows_Try (Nat.le_refl _) (by kernel_rfl) ?_
    simp
    repeat (first | refine AL.seq ?_ | refine AL.block ?_ | refine AL.skip ?_ | refine AL.blk ?_)
    have hfl2 := fillN_len p a.nodes nn a.nodes.length
    refine AL.loopT (st49b a l p q nn mm nb box tok nt) (fun i => i ≤ a.edges.length) (fun i => a.edges.length - i) 0 (Nat.zero_le _) (Weaks.mk (Nat.le_refl _) rfl (by simp [ToL, lk]) (by simp [BoxL, lk, fillE])) ?_
    rintro i S hi hS
    simp only [st49b] at hS
    subst hS
    have hw : IntKind.i64.wrap (↑i + 1) = ((i + 1 : Nat) : Int) := by rw [wrap_in (by omega) (by omega)]; rfl
    have hfl := fillE_len q p a.edges mm i
    repeat (first | refine AL.seq ?_ | refine AL.block ?_ | refine AL.skip ?_ | refine AL.blk ?_)
    refine AL.region follows_Try (Nat.le_refl _) (by kernel_rfl) ?_
    simp
    repeat (first | refine AL.seq ?_ | refine AL.block ?_ | refine AL.skip ?_ | refine AL.blk ?_)
    refine AL.cond ?_
    simp
    refine ⟨fun hlt => ?_, fun hge => ?_⟩
    · have hiq : i < q.length := by omega
      obtain ⟨r1, r2⟩ := hrk i hiq
      have r3 : q[i].toNat < mm := by omega
      obtain ⟨x1, x2, x3, x4⟩ := hx _ (List.getElem_mem hlt)
      have hpl' : p.length = a.nodes.length := by omega
      have y1 : a.edges[i].fr.toNat < p.length := by omega
      have y2 : a.edges[i].to.toNat < p.length := by omega
      rw [← hpl'] at x2 x4
      repeat (first | refine AL.seq ?_ | refine AL.block ?_ | refine AL.skip ?_ | refine AL.blk ?_)
      refine AL.region follows_Try (Nat.le_refl _) (by kernel_rfl) ?_
      simp [hlt]
      repeat (first | refine AL.seq ?_ | refine AL.block ?_ | refine AL.skip ?_ | refine AL.blk ?_)
      refine AL.region follows_Try (Nat.le_refl _) (by kernel_rfl) ?_
      simp [hlt, hiq, r1, r2, r3, hfl, x1, x2, x3, x4, y1, y2]
      repeat (first | refine AL.seq ?_ | refine AL.block ?_ | refine AL.skip ?_ | refine AL.blk ?_)
      refine AL.region follows_Try (Nat.le_refl _) (by kernel_rfl) ?_
      simp [hw]
      repeat (first | refine AL.seq ?_ | refine AL.block ?_ | refine AL.skip ?_ | refine AL.blk ?_)
      refine AL.nil ?_
      refine ⟨i + 1, hlt, by omega, Weaks.mk (Nat.le_refl _) rfl (by simp [ToL, lk]) (by simp [BoxL, lk, fillE, hiq, hlt, y1, y2])⟩
    · repeat (first | refine AL.seq ?_ | refine AL.block ?_ | refine AL.skip ?_ | refine AL.blk ?_)
      refine AL.exit ?_
      simp only [AU, ↓reduceIte]
      have : i = a.edges.length := by omega
      subst this
      refine AL.weak (Weaks.frz (l' := [(6, .ptr (nb + 6) 0 0), (13, .ptr (nb + 13) 0 0)]) (loc' := [(6, [[.bot, .bot, .bot, .bot]]), (13, [[.d (ints (fillN p a.nodes nn a.nodes.length)), .msl (nb + 33) 0 mm 3, .d (ints p), .d (ints q)]]), (33, rowsE (fillE q p a.edges mm a.edges.length))])
        31 1 (rI (fillN p a.nodes nn a.nodes.length)) (Nat.le_refl _) rfl (by simp [lk, rowsI_eq]) (by simp [lk]) (by simp) (by simp [ToL, lk]) (by simp [BoxL, lk, hfl2])) ?_
      refine AL.weak (Weaks.frz (l' := [(6, .ptr (nb + 6) 0 0), (13, .ptr (nb + 13) 0 0)]) (loc' := [(6, [[.bot, .bot, .bot, .bot]]), (13, [[.d (ints (fillN p a.nodes nn a.nodes.length)), .d (AM.edges (fillE q p a.edges mm a.edges.length)), .d (ints p), .d (ints q)]])])
        33 3 (rE (fillE q p a.edges mm a.edges.length)) (Nat.le_refl _) rfl (by simp [lk, rowsE_eq]) (by simp [lk]) (by simp) (by simp [ToL, lk]) (by simp [BoxL, lk, fillE_len])) ?_
      repeat (first | refine AL.seq ?_ | refine AL.block ?_ | refine AL.skip ?_ | refine AL.blk ?_)
      refine AL.region follows_Try (Nat.le_refl _) (by kernel_rfl) ?_
      simp
      repeat (first | refine AL.seq ?_ | refine AL.block ?_ | refine AL.skip ?_ | refine AL.blk ?_)
      refine AL.ret ?_
      try simp only [AU]
      refine ⟨by simp, Fin.data (by simp [resAs, resA]; rfl) hbox rfl htok (fun _ h => h) (Nat.le_refl _) ?_⟩
      simp [packA, quF, hp, hq, hn, hm]
end Go.AM
