import Derived.Test.YtgonmjghdkoekaaOm10
import Derived.WalkKit
import Derived.ProofKit
import Derived.OpenShut
import Derived.ChangeStays
import Derived.SizedLaws
namespace Go.AM
open Go Go.Proofs
set_option linter.unusedSimpArgs false
set_option linter.unusedVariables false

/-- A partition of so many elements, of one type each. -/
structure Cmp (T p : List Int) : Prop where
  part : PartL p
  len : p.length = T.length
  ty : ∀ j, j < T.length → T.getD (p.getD j 0).toNat 0 = T.getD j 0

theorem partL_iff (l : List Int) : PartL l ↔ ∀ i, i < l.length → 0 ≤ l.getD i 0 ∧ l.getD i 0 ≤ i ∧ l.getD (l.getD i 0).toNat 0 = l.getD i 0 := by
  constructor
  · intro h i hi
    have := h i hi
    have e : l.getD i 0 = l[i] := by simp [hi]
    rw [e]; exact this
  · intro h i hi
    have := h i hi
    have e : l.getD i 0 = l[i] := by simp [hi]
    rw [e] at this; exact this

theorem mrgK_getD (l : List Int) (lo hi : Int) {j : Nat} (h : j < l.length) : (mrgK l lo hi l.length).getD j 0 = if l.getD j 0 = hi then lo else l.getD j 0 := by
  simp [mrgK, h]

theorem Cmp.merge {T p : List Int} (h : Cmp T p) {a b : Nat} (ha : a < p.length) (hb : b < p.length) (ht : T.getD a 0 = T.getD b 0) : Cmp T (mrgK p (min p[a] p[b]) (max p[a] p[b]) p.length) := by
  obtain ⟨h1, h2, h3⟩ := h
  have ea : p.getD a 0 = p[a] := by simp [ha]
  have eb : p.getD b 0 = p[b] := by simp [hb]
  rw [← ea, ← eb]
  rw [partL_iff] at h1
  have ta := h3 a (by omega)
  have tb := h3 b (by omega)
  obtain ⟨a1, a2, a3⟩ := h1 a ha
  obtain ⟨b1, b2, b3⟩ := h1 b hb
  generalize p.getD a 0 = x at *
  generalize p.getD b 0 = y at *
  obtain ⟨lo, hlo⟩ : ∃ lo, lo = min x y := ⟨_, rfl⟩
  obtain ⟨hi, hhi⟩ : ∃ hi, hi = max x y := ⟨_, rfl⟩
  rw [← hlo, ← hhi]
  have r : lo ≤ hi ∧ 0 ≤ lo ∧ lo.toNat < p.length ∧ hi.toNat < p.length ∧ p.getD lo.toNat 0 = lo ∧ p.getD hi.toNat 0 = hi ∧ T.getD lo.toNat 0 = T.getD hi.toNat 0 := by
    by_cases e : x ≤ y
    · have e1 : lo = x := by omega
      have e2 : hi = y := by omega
      subst e1; subst e2
      exact ⟨e, a1, by omega, by omega, a3, b3, by rw [ta, tb, ht]⟩
    · have e1 : lo = y := by omega
      have e2 : hi = x := by omega
      subst e1; subst e2
      exact ⟨by omega, b1, by omega, by omega, b3, a3, by rw [ta, tb, ht]⟩
  clear hlo hhi
  obtain ⟨r1, r2, r3, r4, r5, r6, r7⟩ := r
  have len : (mrgK p lo hi p.length).length = p.length := by simp
  refine ⟨(partL_iff _).2 fun i hi' => ?_, by rw [len]; exact h2, fun j hj => ?_⟩
  · rw [len] at hi'
    obtain ⟨q1, q2, q3⟩ := h1 i hi'
    rw [mrgK_getD p lo hi hi']
    by_cases e : p.getD i 0 = hi
    · rw [if_pos e, mrgK_getD p lo hi r3, r5]
      refine ⟨r2, by omega, ?_⟩
      split <;> rfl
    · rw [if_neg e, mrgK_getD p lo hi (by omega), q3, if_neg e]
      exact ⟨q1, q2, rfl⟩
  · rw [mrgK_getD p lo hi (by omega)]
    have := h3 j hj
    by_cases e : p.getD j 0 = hi
    · rw [if_pos e, r7, ← e, this]
    · rw [if_neg e, this]

theorem iota_cmp (T : List Int) : Cmp T (iota T.length) := by
  have g : ∀ j, j < T.length → (iota T.length).getD j 0 = j := fun j hj => iota_getD hj
  have l : (iota T.length).length = T.length := by simp [iota]
  refine ⟨(partL_iff _).2 fun i hi => ?_, l, fun j hj => ?_⟩
  · rw [l] at hi
    rw [g i hi]
    exact ⟨by omega, by omega, by rw [Int.toNat_natCast]; exact g i hi⟩
  · rw [g j hj]; rfl

structure AcI where
  i : Nat
  p : List Int

def st39a (g : Gr) (codes : List Int) (nb : Nat) (box : Nat → Option (List (List AV))) (tok : Nat → Bool) (nt : Nat) (x : AcI) : AState :=
  ⟨tl [(2, .ptr (nb + 2) 0 0), (4, .ptr (nb + 4) 0 0), (5, .ptr (nb + 5) 0 0), (6, .d (ints codes)), (7, .d (ints x.p)), (8, I x.i)],
    lb nb box [(2, [[AV.d (ints g.nodes), AV.d (edges g.edges)]]), (5, [[AV.osl 0 [] Own.full, AV.osl 0 [] Own.full]]), (4, [[AV.osl 0 [] Own.full, AV.osl 0 [] Own.full]])], tok, nt⟩

def st39b (g : Gr) (codes r : List Int) (nn : Nat) (nb : Nat) (box : Nat → Option (List (List AV))) (tok : Nat → Bool) (nt : Nat) (i : Nat) : AState :=
  ⟨tl [(2, .ptr (nb + 2) 0 0), (4, .ptr (nb + 4) 0 0), (5, .ptr (nb + 5) 0 0), (6, .d (ints codes)), (10, .d (ints r)), (13, .ptr (nb + 13) 0 0), (14, .ptr (nb + 14) 0 0), (15, I i)],
    lb nb box [(13, [[.msl (nb + 70) 0 nn 1, AV.osl 0 [] Own.full]]), (14, [[.d (ints r), AV.osl 0 [] Own.full]]), (70, rowsI (fillN r g.nodes nn i)), (2, [[AV.d (ints g.nodes), AV.d (edges g.edges)]]), (5, [[.bot, .bot]]), (4, [[.bot, .bot]])], tok, nt⟩

structure AcJ where
  i : Nat
  es : List E
  me : List Int
  o1 : Own
  o2 : Own
  tok : Nat → Bool
  nt : Nat

def st39c (g : Gr) (codes r N : List Int) (nb : Nat) (box : Nat → Option (List (List AV))) (x : AcJ) : AState :=
  ⟨tl [(2, .ptr (nb + 2) 0 0), (4, .ptr (nb + 4) 0 0), (5, .ptr (nb + 5) 0 0), (6, .d (ints codes)), (10, .d (ints r)), (13, .ptr (nb + 13) 0 0), (14, .ptr (nb + 14) 0 0), (16, I x.i)],
    lb nb box [(13, [[.d (ints N), .osl 3 (rE x.es) x.o1]]), (14, [[.d (ints r), .osl 1 (rI x.me) x.o2]]), (2, [[AV.d (ints g.nodes), AV.d (edges g.edges)]]), (5, [[.bot, .bot]]), (4, [[.bot, .bot]])], x.tok, x.nt⟩

structure AcK where
  k : Nat
  a : Int

def st39d (g : Gr) (codes r N : List Int) (y : E) (i : Nat) (es : List E) (me : List Int) (o1 o2 : Own) (nb : Nat) (box : Nat → Option (List (List AV))) (tok : Nat → Bool) (nt : Nat) (x : AcK) : AState :=
  ⟨tl [(2, .ptr (nb + 2) 0 0), (4, .ptr (nb + 4) 0 0), (5, .ptr (nb + 5) 0 0), (6, .d (ints codes)), (10, .d (ints r)), (13, .ptr (nb + 13) 0 0), (14, .ptr (nb + 14) 0 0), (16, I i), (17, .ptr (nb + 17) 0 0), (18, I x.a), (19, I x.k)],
    lb nb box [(17, [[I y.ty, I y.fr, I y.to]]), (13, [[.d (ints N), .osl 3 (rE es) o1]]), (14, [[.d (ints r), .osl 1 (rI me) o2]]), (2, [[AV.d (ints g.nodes), AV.d (edges g.edges)]]), (5, [[.bot, .bot]]), (4, [[.bot, .bot]])], tok, nt⟩

/-- The edges so far have an image each. -/
structure ImE (g : Gr) (r : List Int) (i : Nat) (es : List E) (me : List Int) : Prop where
  len : me.length = i
  few : es.length ≤ i
  mem : ∀ e ∈ es, ∃ j, j < i ∧ e = edgeAt g.edges r j
  at' : ∀ j, j < i → 0 ≤ me.getD j 0 ∧ me.getD j 0 < es.length ∧ es.getD (me.getD j 0).toNat default = edgeAt g.edges r j

/-- No place, or one of such an edge. -/
def AtE (es : List E) (y : E) (a : Int) : Prop := a = -1 ∨ 0 ≤ a ∧ a < es.length ∧ es.getD a.toNat default = y

theorem ImE.new {g : Gr} {r : List Int} {i : Nat} {es : List E} {me : List Int} (h : ImE g r i es me) {y : E} (hy : edgeAt g.edges r i = y) : ImE g r (i + 1) (es ++ [y]) (me ++ [(es.length : Int)]) := by
  have hl := h.len
  refine ⟨by simp [hl], by have := h.few; simp; omega, fun e he => ?_, fun j hj => ?_⟩
  · rcases List.mem_append.1 he with he | he
    · obtain ⟨j, h1, h2⟩ := h.mem e he
      exact ⟨j, by omega, h2⟩
    · rw [List.mem_singleton] at he
      exact ⟨i, by omega, by rw [he, hy]⟩
  · by_cases e : j = i
    · subst e
      have : (me ++ [(es.length : Int)]).getD j 0 = es.length := by rw [← hl]; exact getD_at
      rw [this, Int.toNat_natCast, hy]
      exact ⟨by omega, by simp; omega, getD_at⟩
    · obtain ⟨h1, h2, h3⟩ := h.at' j (by omega)
      rw [getD_lt (by omega), getD_lt (by omega)]
      exact ⟨h1, by simp only [List.length_append, List.length_cons, List.length_nil]; omega, h3⟩
theorem ImE.old {g : Gr} {r : List Int} {i : Nat} {es : List E} {me : List Int} (h : ImE g r i es me) {y : E} (hy : edgeAt g.edges r i = y) {a : Int} (ha : AtE es y a) (h0 : ¬ a < 0) : ImE g r (i + 1) es (me ++ [a]) := by
  have hl := h.len
  rcases ha with ha | ⟨a1, a2, a3⟩
  · omega
  refine ⟨by simp [hl], by have := h.few; omega, fun e he => ?_, fun j hj => ?_⟩
  · obtain ⟨j, h1, h2⟩ := h.mem e he
    exact ⟨j, by omega, h2⟩
  · by_cases e : j = i
    · subst e
      have : (me ++ [a]).getD j 0 = a := by rw [← hl]; exact getD_at
      rw [this, hy]
      exact ⟨a1, a2, a3⟩
    · rw [getD_lt (by omega)]
      exact h.at' j (by omega)

theorem repG_mem {α : Type} (f : Nat → α) (l : List Int) : ∀ i, ∀ x ∈ repG f l i, ∃ j, j < i ∧ x = f j
  | 0, x, hx => by simp [repG] at hx
  | i + 1, x, hx => by
    simp only [repG] at hx
    split at hx
    · rcases List.mem_append.1 hx with hx | hx
      · obtain ⟨j, h1, h2⟩ := repG_mem f l i x hx
        exact ⟨j, by omega, h2⟩
      · rw [List.mem_singleton] at hx
        exact ⟨i, by omega, hx⟩
    · obtain ⟨j, h1, h2⟩ := repG_mem f l i x hx
      exact ⟨j, by omega, h2⟩

theorem image_VM {g : Gr} {r N : List Int} {es : List E} {me : List Int} (hv : validG g = 0) (hr : r.length = g.nodes.length) (hrange : ∀ j (h : j < r.length), 0 ≤ r[j] ∧ r[j] < N.length)
    (hget : ∀ j, j < g.nodes.length → N[(r.getD j 0).toNat]? = some (g.nodes.getD j 0)) (hmem : ∀ x ∈ N, x ∈ g.nodes) (hNl : N.length ≤ g.nodes.length) (him : ImE g r g.edges.length es me) : VM g ⟨N, es⟩ ⟨r, me⟩ := by
  obtain ⟨hl, t1, t2⟩ := validG_types hv
  have ex := validG_edges hv
  have hfew := him.few
  have hlen := him.len
  have rD : ∀ j, j < r.length → 0 ≤ r.getD j 0 ∧ r.getD j 0 < N.length := fun j hj => by
    have e : r.getD j 0 = r[j] := by simp [hj]
    rw [e]; exact hrange j hj
  refine ⟨hv, validG_of ⟨by simp only; omega, by simp only; omega⟩ (fun n hn => t1 n (hmem n hn)) fun e he => ?_, hr, him.len, fun x hx => ?_, fun x hx => ?_, fun i hi => ?_, fun i hi => ?_⟩
  · obtain ⟨j, h1, rfl⟩ := him.mem e he
    have q := (fitsB_iff _ _).1 (t2 _ (getD_mem (d := default) h1))
    obtain ⟨x1, x2, x3, x4⟩ := ex _ (getD_mem (d := default) h1)
    rw [fitsB_iff]
    simp only [edgeAt]
    exact ⟨q.1, rD _ (by omega), rD _ (by omega)⟩
  · obtain ⟨j, hj, rfl⟩ := mem_getD hx
    exact rD j hj
  · obtain ⟨j, hj, rfl⟩ := mem_getD hx
    obtain ⟨h1, h2, _⟩ := him.at' j (by simp only at hj; omega)
    exact ⟨h1, h2⟩
  · simp only
    rw [List.getD_eq_getElem?_getD, hget i hi]
    rfl
  · exact (him.at' i hi).2.2

theorem image39_c (g : Gr) (codes : List Int) (hv : validG g = 0) (hg : g.Fit) (h1 : 0 < codes.length) (h2 : codes.length ≤ 100) (hu : ∀ n ∈ codes, 0 ≤ n ∧ n < 256) (box : Nat → Option (List (List AV))) (nb : Nat) (tok : Nat → Bool) (nt : Nat) :
    ACalls Try.prog 39 [g.av, .d (.sl 1 (codes.map fun n => [u8 n]))] ⟨box, nb, tok, nt⟩ fun v m' => (∃ b m, v = .tup [Gr.av b, Mo.av m] ∧ VM g b m) ∧ m' = ⟨box, nb, tok, nt⟩ := by
  have hN : numsR codes = codes := by
    have : codes ≠ [] := by intro e; subst e; simp at h1
    simp [numsR, this]
  have hl := (validG_types hv).1
  refine ACalls.of_body Try.func39 rfl (by kernel_rfl) follows_Try (by kernel_rfl) (by simp [Try.ntmps39]) ?_
  intro hbox htok
  simp only at hbox htok
  apply AL.start
  repeat (first | refine AL.seq ?_ | refine AL.block ?_ | refine AL.skip ?_ | refine AL.blk ?_)
  refine AL.region follows_Try (Nat.le_refl _) (by kernel_rfl) ?_
  simp
  repeat (first | refine AL.seq ?_ | refine AL.block ?_ | refine AL.skip ?_ | refine AL.blk ?_)
  refine AL.region follows_Try (Nat.le_refl _) (by kernel_rfl) ?_
  simp
  have c71 := numbers71_c codes h2 hu
  rw [hN] at c71
  refine Stop.of_d (c71 _ _) ?_
  simp
  repeat (first | refine AL.seq ?_ | refine AL.block ?_ | refine AL.skip ?_ | refine AL.blk ?_)
  refine AL.region follows_Try (Nat.le_refl _) (by kernel_rfl) ?_
  simp
  refine Stop.of_d (finest_c g.nodes.length (by omega) _ _) ?_
  simp
  repeat (first | refine AL.seq ?_ | refine AL.block ?_ | refine AL.skip ?_ | refine AL.blk ?_)
  refine AL.region follows_Try (Nat.le_refl _) (by kernel_rfl) ?_
  simp
  repeat (first | refine AL.seq ?_ | refine AL.block ?_ | refine AL.skip ?_ | refine AL.blk ?_)
  refine AL.loopT (st39a g codes nb box tok nt) (fun x => 1 ≤ x.i ∧ Cmp g.nodes x.p) (fun x => g.nodes.length - x.i) ⟨1, iota g.nodes.length⟩ ⟨Nat.le_refl _, iota_cmp _⟩ (Weaks.mk (Nat.le_refl _) rfl (by simp [ToL, lk]) (by simp [BoxL, lk])) ?_
  · rintro ⟨i, p⟩ S ⟨hi, hc⟩ hS
    simp only [st39a] at hS hi hc
    subst hS
    repeat (first | refine AL.seq ?_ | refine AL.block ?_ | refine AL.skip ?_ | refine AL.blk ?_)
    refine AL.region follows_Try (Nat.le_refl _) (by kernel_rfl) ?_
    simp
    repeat (first | refine AL.seq ?_ | refine AL.block ?_ | refine AL.skip ?_ | refine AL.blk ?_)
    refine AL.cond ?_
    simp
    refine ⟨fun hlt => ?_, fun hge => ?_⟩
    · have hlen := hc.len
      have hw : IntKind.i64.wrap (↑i + 1) = ((i + 1 : Nat) : Int) := by rw [wrap_in (by omega) (by omega)]; rfl
      obtain ⟨q, hq⟩ : ∃ q, q = i % codes.length := ⟨_, rfl⟩
      have hm : q < codes.length := by rw [hq]; exact Nat.mod_lt _ h1
      have htm : (i : Int).tmod (codes.length : Int) = (q : Int) := by rw [hq, Int.tmod_eq_emod_of_nonneg (by omega)]; rfl
      have hne : ¬ codes.length = 0 := by omega
      have hne2 : ¬ (i : Int) + 1 = 0 := by omega
      have hcu := hu _ (List.getElem_mem hm)
      repeat (first | refine AL.seq ?_ | refine AL.block ?_ | refine AL.skip ?_ | refine AL.blk ?_)
      refine AL.region follows_Try (Nat.le_refl _) (by kernel_rfl) ?_
      simp [hlt, hm, hw, hne, htm, hne2]
      obtain ⟨k, hk⟩ : ∃ k : Nat, codes[q].tmod (↑i + 1) = k := ⟨(codes[q].tmod (↑i + 1)).toNat, by have := Int.tmod_nonneg (↑i + 1) hcu.1; omega⟩
      have hki : k < i + 1 := by have := Int.tmod_lt_of_pos codes[q] (show (0 : Int) < ↑i + 1 by omega); omega
      rw [hk]
      by_cases hlt2 : k < i
      · have hkn : k < g.nodes.length := by omega
        repeat (first | refine AL.seq ?_ | refine AL.block ?_ | refine AL.skip ?_ | refine AL.blk ?_)
        refine AL.region follows_Try (Nat.le_refl _) (by kernel_rfl) ?_
        simp [hlt2, hlt, hkn]
        by_cases he : g.nodes[k] = g.nodes[i]
        · have hkp : k < p.length := by omega
          have hip : i < p.length := by omega
          simp [he]
          repeat (first | refine AL.seq ?_ | refine AL.block ?_ | refine AL.skip ?_ | refine AL.blk ?_)
          refine AL.cond ?_
          simp
          repeat (first | refine AL.seq ?_ | refine AL.block ?_ | refine AL.skip ?_ | refine AL.blk ?_)
          refine AL.region follows_Try (Nat.le_refl _) (by kernel_rfl) ?_
          simp
          refine Stop.of_d (merge73_c p k i hkp hip (by omega) _ _) ?_
          simp
          have hc2 := hc.merge hkp hip (by simp [hkn, hlt, he])
          generalize mrgK p (min p[k] p[i]) (max p[k] p[i]) p.length = p2 at *
          repeat (first | refine AL.seq ?_ | refine AL.block ?_ | refine AL.skip ?_ | refine AL.blk ?_)
          refine AL.region follows_Try (Nat.le_refl _) (by kernel_rfl) ?_
          simp [hw]
          repeat (first | refine AL.seq ?_ | refine AL.block ?_ | refine AL.skip ?_ | refine AL.blk ?_)
          refine AL.nil ?_
          exact ⟨⟨i + 1, p2⟩, ⟨by simp, hc2⟩, by simp; omega, Weaks.mk (Nat.le_refl _) rfl (by simp [ToL, lk]) (by simp [BoxL, lk])⟩
        · have hb : (g.nodes[k] == g.nodes[i]) = false := by simp [he]
          simp [hb]
          repeat (first | refine AL.seq ?_ | refine AL.block ?_ | refine AL.skip ?_ | refine AL.blk ?_)
          refine AL.cond ?_
          simp
          repeat (first | refine AL.seq ?_ | refine AL.block ?_ | refine AL.skip ?_ | refine AL.blk ?_)
          refine AL.region follows_Try (Nat.le_refl _) (by kernel_rfl) ?_
          simp [hw]
          repeat (first | refine AL.seq ?_ | refine AL.block ?_ | refine AL.skip ?_ | refine AL.blk ?_)
          refine AL.nil ?_
          exact ⟨⟨i + 1, p⟩, ⟨by simp, hc⟩, by simp; omega, Weaks.mk (Nat.le_refl _) rfl (by simp [ToL, lk]) (by simp [BoxL, lk])⟩
      · repeat (first | refine AL.seq ?_ | refine AL.block ?_ | refine AL.skip ?_ | refine AL.blk ?_)
        refine AL.region follows_Try (Nat.le_refl _) (by kernel_rfl) ?_
        simp [hlt2, hlt]
        repeat (first | refine AL.seq ?_ | refine AL.block ?_ | refine AL.skip ?_ | refine AL.blk ?_)
        refine AL.cond ?_
        simp
        repeat (first | refine AL.seq ?_ | refine AL.block ?_ | refine AL.skip ?_ | refine AL.blk ?_)
        refine AL.region follows_Try (Nat.le_refl _) (by kernel_rfl) ?_
        simp [hw]
        repeat (first | refine AL.seq ?_ | refine AL.block ?_ | refine AL.skip ?_ | refine AL.blk ?_)
        refine AL.nil ?_
        exact ⟨⟨i + 1, p⟩, ⟨by simp, hc⟩, by simp; omega, Weaks.mk (Nat.le_refl _) rfl (by simp [ToL, lk]) (by simp [BoxL, lk])⟩
    · repeat (first | refine AL.seq ?_ | refine AL.block ?_ | refine AL.skip ?_ | refine AL.blk ?_)
      refine AL.exit ?_
      simp only [AU, ↓reduceIte]
      have hlen := hc.len
      have hR := numN_len p p.length
      have hrange := numN_range hc.part p.length (Nat.le_refl _)
      have hget := numN_get hc.part (fun j => g.nodes.getD j 0) (fun j hj => by have := hc.ty j (by omega); simpa [hj] using this) p.length (Nat.le_refl _)
      have hfill := fill_rep_all hc.part (fun j => g.nodes.getD j 0) 0 (fun j hj => by have := hc.ty j (by omega); simpa [hj] using this)
      have hrep := numN_rep (fun j => g.nodes.getD j 0) p p.length
      repeat (first | refine AL.seq ?_ | refine AL.block ?_ | refine AL.skip ?_ | refine AL.blk ?_)
      refine AL.region follows_Try (Nat.le_refl _) (by kernel_rfl) ?_
      simp
      refine Stop.of_d (quotient74_c p (by omega) hc.part _ _) ?_
      simp
      generalize (numN p p.length).1 = r at *
      generalize (numN p p.length).2 = n at *
      repeat (first | refine AL.seq ?_ | refine AL.block ?_ | refine AL.skip ?_ | refine AL.blk ?_)
      refine AL.region follows_Try (Nat.le_refl _) (by kernel_rfl) ?_
      simp
      obtain ⟨nn, hnn⟩ : ∃ nn : Nat, n = nn := ⟨n.toNat, by omega⟩
      subst hnn
      simp only [Int.toNat_natCast] at hrep hfill ⊢
      refine ⟨⟨by omega, by omega⟩, ?_⟩
      repeat (first | refine AL.seq ?_ | refine AL.block ?_ | refine AL.skip ?_ | refine AL.blk ?_)
      refine AL.region follows_Try (Nat.le_refl _) (by kernel_rfl) ?_
      simp
      repeat (first | refine AL.seq ?_ | refine AL.block ?_ | refine AL.skip ?_ | refine AL.blk ?_)
      refine AL.region follows_Try (Nat.le_refl _) (by kernel_rfl) ?_
      simp
      repeat (first | refine AL.seq ?_ | refine AL.block ?_ | refine AL.skip ?_ | refine AL.blk ?_)
      refine AL.loopT (st39b g codes r nn nb box tok nt) (fun i => i ≤ g.nodes.length) (fun i => g.nodes.length - i) 0 (Nat.zero_le _) (Weaks.mk (Nat.le_refl _) rfl (by simp [ToL, lk]) (by simp [BoxL, lk, fillN])) ?_
      · rintro i S hi hS
        simp only [st39b] at hS
        subst hS
        have hw : IntKind.i64.wrap (↑i + 1) = ((i + 1 : Nat) : Int) := by rw [wrap_in (by omega) (by omega)]; rfl
        have hfl := fillN_len r g.nodes nn i
        repeat (first | refine AL.seq ?_ | refine AL.block ?_ | refine AL.skip ?_ | refine AL.blk ?_)
        refine AL.region follows_Try (Nat.le_refl _) (by kernel_rfl) ?_
        simp
        repeat (first | refine AL.seq ?_ | refine AL.block ?_ | refine AL.skip ?_ | refine AL.blk ?_)
        refine AL.cond ?_
        simp
        refine ⟨fun hlt => ?_, fun hge => ?_⟩
        · have hip : i < r.length := by omega
          obtain ⟨r1, r2⟩ := hrange i hip
          have r3 : r[i].toNat < nn := by omega
          repeat (first | refine AL.seq ?_ | refine AL.block ?_ | refine AL.skip ?_ | refine AL.blk ?_)
          refine AL.region follows_Try (Nat.le_refl _) (by kernel_rfl) ?_
          simp [hlt, hip, r1, r2, r3, hfl]
          repeat (first | refine AL.seq ?_ | refine AL.block ?_ | refine AL.skip ?_ | refine AL.blk ?_)
          refine AL.region follows_Try (Nat.le_refl _) (by kernel_rfl) ?_
          simp [hw]
          repeat (first | refine AL.seq ?_ | refine AL.block ?_ | refine AL.skip ?_ | refine AL.blk ?_)
          refine AL.nil ?_
          refine ⟨i + 1, hlt, by omega, Weaks.mk (Nat.le_refl _) rfl (by simp [ToL, lk]) (by simp [BoxL, lk, fillN, hip, hlt])⟩
        · repeat (first | refine AL.seq ?_ | refine AL.block ?_ | refine AL.skip ?_ | refine AL.blk ?_)
          refine AL.exit ?_
          simp only [AU, ↓reduceIte]
          have : i = g.nodes.length := by omega
          subst this
          have hN : fillN r g.nodes nn g.nodes.length = repG (fun j => g.nodes.getD j 0) p p.length := by rw [fillN_eq, ← hlen]; exact hfill
          rw [hN]
          rw [hN] at hfl
          have hmem : ∀ x ∈ repG (fun j => g.nodes.getD j 0) p p.length, x ∈ g.nodes := fun x hx => by
            obtain ⟨j, h1, rfl⟩ := repG_mem _ _ _ x hx
            exact getD_mem (by omega)
          generalize repG (fun j => g.nodes.getD j 0) p p.length = N at *
          refine AL.weak (Weaks.frz (l' := [(2, .ptr (nb + 2) 0 0), (4, .ptr (nb + 4) 0 0), (5, .ptr (nb + 5) 0 0), (6, .d (ints codes)), (10, .d (ints r)), (13, .ptr (nb + 13) 0 0), (14, .ptr (nb + 14) 0 0)])
            (loc' := [(13, [[.d (ints N), AV.osl 0 [] Own.full]]), (14, [[.d (ints r), AV.osl 0 [] Own.full]]), (2, [[AV.d (ints g.nodes), AV.d (edges g.edges)]]), (5, [[.bot, .bot]]), (4, [[.bot, .bot]])])
            70 1 (rI N) (Nat.le_refl _) rfl (by simp [lk, rowsI_eq]) (by simp [lk]) (by simp) (by simp [ToL, lk]) (by simp [BoxL, lk, hfl])) ?_
          repeat (first | refine AL.seq ?_ | refine AL.block ?_ | refine AL.skip ?_ | refine AL.blk ?_)
          refine AL.region follows_Try (Nat.le_refl _) (by kernel_rfl) ?_
          simp
          repeat (first | refine AL.seq ?_ | refine AL.block ?_ | refine AL.skip ?_ | refine AL.blk ?_)
          have hx := validG_edges hv
          refine AL.loopT (st39c g codes r N nb box) (fun x => x.i ≤ g.edges.length ∧ TK tok nt x.tok x.nt [x.o1, x.o2] ∧ ImE g r x.i x.es x.me) (fun x => g.edges.length - x.i) ⟨0, [], [], .full, .full, tok, nt⟩ ⟨Nat.zero_le _, (TK.start htok).full.full, rfl, Nat.le_refl _, by simp, fun j hj => absurd hj (Nat.not_lt_zero _)⟩ (Weaks.mk (Nat.le_refl _) rfl (by simp [ToL, lk]) (by simp [BoxL, lk])) ?_
          rintro ⟨i, es, me, o1, o2, tok', nt'⟩ S ⟨hi, htk, him⟩ hS
          simp only [st39c] at hS hi htk him
          subst hS
          have hw : IntKind.i64.wrap (↑i + 1) = ((i + 1 : Nat) : Int) := by rw [wrap_in (by omega) (by omega)]; rfl
          have htl := htk.le
          repeat (first | refine AL.seq ?_ | refine AL.block ?_ | refine AL.skip ?_ | refine AL.blk ?_)
          refine AL.region follows_Try (Nat.le_refl _) (by kernel_rfl) ?_
          simp
          repeat (first | refine AL.seq ?_ | refine AL.block ?_ | refine AL.skip ?_ | refine AL.blk ?_)
          refine AL.cond ?_
          simp
          refine ⟨fun hlt => ?_, fun hge => ?_⟩
          · obtain ⟨x1, x2, x3, x4⟩ := hx _ (List.getElem_mem hlt)
            have y1 : g.edges[i].fr.toNat < r.length := by omega
            have y2 : g.edges[i].to.toNat < r.length := by omega
            have hrl : r.length = g.nodes.length := by omega
            rw [← hrl] at x2 x4
            repeat (first | refine AL.seq ?_ | refine AL.block ?_ | refine AL.skip ?_ | refine AL.blk ?_)
            refine AL.region follows_Try (Nat.le_refl _) (by kernel_rfl) ?_
            simp [hlt, x1, x2, x3, x4, y1, y2]
            repeat (first | refine AL.seq ?_ | refine AL.block ?_ | refine AL.skip ?_ | refine AL.blk ?_)
            refine AL.region follows_Try (Nat.le_refl _) (by kernel_rfl) ?_
            simp
            repeat (first | refine AL.seq ?_ | refine AL.block ?_ | refine AL.skip ?_ | refine AL.blk ?_)
            refine AL.region follows_Try (Nat.le_refl _) (by kernel_rfl) ?_
            simp
            repeat (first | refine AL.seq ?_ | refine AL.block ?_ | refine AL.skip ?_ | refine AL.blk ?_)
            have hy : edgeAt g.edges r i = ⟨g.edges[i].ty, r[g.edges[i].fr.toNat], r[g.edges[i].to.toNat]⟩ := by simp [edgeAt, hlt, y1, y2]
            generalize g.edges[i].ty = ty at *
            generalize r[g.edges[i].fr.toNat] = fr at *
            generalize r[g.edges[i].to.toNat] = to' at *
            refine AL.loopT (st39d g codes r N ⟨ty, fr, to'⟩ i es me o1 o2 nb box tok' nt') (fun x => x.k ≤ es.length ∧ AtE es ⟨ty, fr, to'⟩ x.a) (fun x => es.length - x.k) ⟨0, -1⟩ ⟨Nat.zero_le _, .inl rfl⟩ (Weaks.mk htl rfl (by simp [ToL, lk]) (by simp [BoxL, lk])) ?_
            rintro ⟨k, at'⟩ S ⟨hk, hat⟩ hS
            simp only [st39d] at hS hk hat
            subst hS
            have hfew := him.few
            have hwk : IntKind.i64.wrap (↑k + 1) = ((k + 1 : Nat) : Int) := by rw [wrap_in (by omega) (by omega)]; rfl
            repeat (first | refine AL.seq ?_ | refine AL.block ?_ | refine AL.skip ?_ | refine AL.blk ?_)
            refine AL.region follows_Try (Nat.le_refl _) (by kernel_rfl) ?_
            simp
            repeat (first | refine AL.seq ?_ | refine AL.block ?_ | refine AL.skip ?_ | refine AL.blk ?_)
            refine AL.cond ?_
            simp
            refine ⟨fun hlk => ?_, fun hgk => ?_⟩
            · have hwik : IntKind.i64.wrap (↑i + ↑k) = ((i + k : Nat) : Int) := by rw [wrap_in (by omega) (by omega)]; rfl
              obtain ⟨q, hq⟩ : ∃ q, q = (i + k) % codes.length := ⟨_, rfl⟩
              have hm : q < codes.length := by rw [hq]; exact Nat.mod_lt _ h1
              have htm : ((i : Int) + (k : Int)).tmod (codes.length : Int) = (q : Int) := by rw [hq, Int.tmod_eq_emod_of_nonneg (by omega), Int.natCast_emod, Int.natCast_add]
              have hcu := hu _ (List.getElem_mem hm)
              have hne : ¬ codes.length = 0 := by omega
              repeat (first | refine AL.seq ?_ | refine AL.block ?_ | refine AL.skip ?_ | refine AL.blk ?_)
              refine AL.region follows_Try (Nat.le_refl _) (by kernel_rfl) ?_
              simp [hlk]
              have hd : (decide (es[k].ty = ty) && (decide (es[k].fr = fr) && decide (es[k].to = to'))) = decide (es[k] = ⟨ty, fr, to'⟩) := by
                generalize es[k] = e
                cases e
                simp [Bool.decide_and]
              rw [hd]
              by_cases he : es[k] = ⟨ty, fr, to'⟩
              · simp [he, hwik, hm, htm, hne]
                by_cases hev : codes[q].tmod 2 = 0
                · simp [hev]
                  repeat (first | refine AL.seq ?_ | refine AL.block ?_ | refine AL.skip ?_ | refine AL.blk ?_)
                  refine AL.cond ?_
                  simp
                  repeat (first | refine AL.seq ?_ | refine AL.block ?_ | refine AL.skip ?_ | refine AL.blk ?_)
                  refine AL.region follows_Try (Nat.le_refl _) (by kernel_rfl) ?_
                  simp
                  repeat (first | refine AL.seq ?_ | refine AL.block ?_ | refine AL.skip ?_ | refine AL.blk ?_)
                  refine AL.region follows_Try (Nat.le_refl _) (by kernel_rfl) ?_
                  simp [hwk]
                  repeat (first | refine AL.seq ?_ | refine AL.block ?_ | refine AL.skip ?_ | refine AL.blk ?_)
                  refine AL.nil ?_
                  exact ⟨⟨k + 1, k⟩, ⟨hlk, .inr ⟨by simp, by simp; omega, by simp [hlk, he]⟩⟩, by simp; omega, Weaks.mk htl rfl (by simp [ToL, lk]) (by simp [BoxL, lk])⟩
                · have hb : (codes[q].tmod 2 == 0) = false := by simp [hev]
                  simp [hb]
                  repeat (first | refine AL.seq ?_ | refine AL.block ?_ | refine AL.skip ?_ | refine AL.blk ?_)
                  refine AL.cond ?_
                  simp
                  repeat (first | refine AL.seq ?_ | refine AL.block ?_ | refine AL.skip ?_ | refine AL.blk ?_)
                  refine AL.region follows_Try (Nat.le_refl _) (by kernel_rfl) ?_
                  simp [hwk]
                  repeat (first | refine AL.seq ?_ | refine AL.block ?_ | refine AL.skip ?_ | refine AL.blk ?_)
                  refine AL.nil ?_
                  exact ⟨⟨k + 1, at'⟩, ⟨hlk, hat⟩, by simp; omega, Weaks.mk htl rfl (by simp [ToL, lk]) (by simp [BoxL, lk])⟩
              · simp [he]
                repeat (first | refine AL.seq ?_ | refine AL.block ?_ | refine AL.skip ?_ | refine AL.blk ?_)
                refine AL.cond ?_
                simp
                repeat (first | refine AL.seq ?_ | refine AL.block ?_ | refine AL.skip ?_ | refine AL.blk ?_)
                refine AL.region follows_Try (Nat.le_refl _) (by kernel_rfl) ?_
                simp [hwk]
                repeat (first | refine AL.seq ?_ | refine AL.block ?_ | refine AL.skip ?_ | refine AL.blk ?_)
                refine AL.nil ?_
                exact ⟨⟨k + 1, at'⟩, ⟨hlk, hat⟩, by simp; omega, Weaks.mk htl rfl (by simp [ToL, lk]) (by simp [BoxL, lk])⟩
            · repeat (first | refine AL.seq ?_ | refine AL.block ?_ | refine AL.skip ?_ | refine AL.blk ?_)
              refine AL.exit ?_
              simp only [AU, ↓reduceIte]
              repeat (first | refine AL.seq ?_ | refine AL.block ?_ | refine AL.skip ?_ | refine AL.blk ?_)
              refine AL.region follows_Try (Nat.le_refl _) (by kernel_rfl) ?_
              simp
              by_cases h0 : at' < 0
              · simp [h0]
                repeat (first | refine AL.seq ?_ | refine AL.block ?_ | refine AL.skip ?_ | refine AL.blk ?_)
                refine AL.cond ?_
                simp
                repeat (first | refine AL.seq ?_ | refine AL.block ?_ | refine AL.skip ?_ | refine AL.blk ?_)
                refine AL.region follows_Try (Nat.le_refl _) (by kernel_rfl) ?_
                simp
                repeat (first | refine AL.seq ?_ | refine AL.block ?_ | refine AL.skip ?_ | refine AL.blk ?_)
                refine AL.region follows_Try (Nat.le_refl _) (by kernel_rfl) ?_
                simp
                refine ⟨⟨by omega, htk.live⟩, ?_⟩
                repeat (first | refine AL.seq ?_ | refine AL.block ?_ | refine AL.skip ?_ | refine AL.blk ?_)
                refine AL.region follows_Try (Nat.le_refl _) (by kernel_rfl) ?_
                simp
                refine ⟨⟨by have := him.len; omega, htk.app.swap.live⟩, ?_⟩
                repeat (first | refine AL.seq ?_ | refine AL.block ?_ | refine AL.skip ?_ | refine AL.blk ?_)
                refine AL.region follows_Try (Nat.le_refl _) (by kernel_rfl) ?_
                simp [hw]
                repeat (first | refine AL.seq ?_ | refine AL.block ?_ | refine AL.skip ?_ | refine AL.blk ?_)
                refine AL.nil ?_
                exact ⟨⟨i + 1, es ++ [⟨ty, fr, to'⟩], me ++ [(es.length : Int)], _, _, _, _⟩, ⟨hlt, htk.app.swap.app.swap, him.new hy⟩, by simp; omega, Weaks.mk htk.app.swap.app.le rfl (by simp [ToL, lk]) (by simp [BoxL, lk])⟩
              · simp [h0]
                repeat (first | refine AL.seq ?_ | refine AL.block ?_ | refine AL.skip ?_ | refine AL.blk ?_)
                refine AL.cond ?_
                simp
                repeat (first | refine AL.seq ?_ | refine AL.block ?_ | refine AL.skip ?_ | refine AL.blk ?_)
                refine AL.region follows_Try (Nat.le_refl _) (by kernel_rfl) ?_
                simp
                refine ⟨⟨by have := him.len; omega, htk.swap.live⟩, ?_⟩
                repeat (first | refine AL.seq ?_ | refine AL.block ?_ | refine AL.skip ?_ | refine AL.blk ?_)
                refine AL.region follows_Try (Nat.le_refl _) (by kernel_rfl) ?_
                simp [hw]
                repeat (first | refine AL.seq ?_ | refine AL.block ?_ | refine AL.skip ?_ | refine AL.blk ?_)
                refine AL.nil ?_
                exact ⟨⟨i + 1, es, me ++ [at'], _, _, _, _⟩, ⟨hlt, htk.swap.app.swap, him.old hy hat h0⟩, by simp; omega, Weaks.mk htk.swap.app.le rfl (by simp [ToL, lk]) (by simp [BoxL, lk])⟩
          · repeat (first | refine AL.seq ?_ | refine AL.block ?_ | refine AL.skip ?_ | refine AL.blk ?_)
            refine AL.exit ?_
            simp only [AU, ↓reduceIte]
            have : i = g.edges.length := by omega
            subst this
            repeat (first | refine AL.seq ?_ | refine AL.block ?_ | refine AL.skip ?_ | refine AL.blk ?_)
            refine AL.region2 follows_Try (Nat.le_refl _) (by kernel_rfl) (Side.of (by simp)) ?_
            simp
            repeat (first | refine AL.seq ?_ | refine AL.block ?_ | refine AL.skip ?_ | refine AL.blk ?_)
            refine AL.ret ?_
            try simp only [AU]
            refine ⟨by simp, (Fin.data (av := .tup [Gr.av ⟨N, es⟩, Mo.av ⟨r, me⟩]) (by simp [resAs, resA]; rfl) hbox rfl htok htk.old htk.le (by simp [packA])).mono fun v m hq => ⟨⟨⟨N, es⟩, ⟨r, me⟩, hq.1, ?_⟩, hq.2⟩⟩
            exact image_VM hv (by omega) (by rw [hrep]; exact hrange) (fun j hj => hget j (by omega)) hmem (by omega) him
end Go.AM
namespace Go.AM
open Go Go.Proofs
set_option linter.unusedSimpArgs false
set_option linter.unusedVariables false

def st40a (a b : List Int) (nb : Nat) (box : Nat → Option (List (List AV))) (tok : Nat → Bool) (nt : Nat) (i : Nat) : AState :=
  ⟨tl [(0, .d (ints a)), (1, .d (ints b)), (12, .d (ints a)), (13, I a.length), (14, I i)], lb nb box [], tok, nt⟩

def st40b (a b : List Int) (i : Nat) (nb : Nat) (box : Nat → Option (List (List AV))) (tok : Nat → Bool) (nt : Nat) (k : Nat) : AState :=
  ⟨tl [(0, .d (ints a)), (1, .d (ints b)), (12, .d (ints a)), (13, I a.length), (14, I i), (5, I i), (17, I i), (18, I k)], lb nb box [], tok, nt⟩

theorem alike40_c (a b : List Int) (ha : a.length ≤ 1000000) (hb : b.length ≤ 1000000) (tok : Nat → Bool) (nt : Nat) : DCall Try.prog 40 [.d (ints a), .d (ints b)] tok nt (B (alikeL a b)) tok nt := by
  intro box nb
  refine ACalls.of_body Try.func40 rfl (by kernel_rfl) follows_Try (by kernel_rfl) (by simp [Try.ntmps40]) ?_
  intro hbox htok
  simp only at hbox htok
  apply AL.start
  repeat (first | refine AL.seq ?_ | refine AL.block ?_ | refine AL.skip ?_ | refine AL.blk ?_)
  refine AL.region follows_Try (Nat.le_refl _) (by kernel_rfl) ?_
  simp
  repeat (first | refine AL.seq ?_ | refine AL.block ?_ | refine AL.skip ?_ | refine AL.blk ?_)
  refine AL.region follows_Try (Nat.le_refl _) (by kernel_rfl) ?_
  simp
  by_cases hl : a.length = b.length
  · simp [hl]
    repeat (first | refine AL.seq ?_ | refine AL.block ?_ | refine AL.skip ?_ | refine AL.blk ?_)
    refine AL.cond ?_
    simp
    repeat (first | refine AL.seq ?_ | refine AL.block ?_ | refine AL.skip ?_ | refine AL.blk ?_)
    refine AL.region follows_Try (Nat.le_refl _) (by kernel_rfl) ?_
    simp
    repeat (first | refine AL.seq ?_ | refine AL.block ?_ | refine AL.skip ?_ | refine AL.blk ?_)
    refine AL.loopT (st40a a b nb box tok nt) (fun i => i ≤ a.length ∧ ∀ j k, j < i → k < j → sameAt a b j k = true) (fun i => a.length - i) 0 ⟨Nat.zero_le _, fun j k h _ => absurd h (Nat.not_lt_zero _)⟩ (Weaks.mk (Nat.le_refl _) rfl (by simp [ToL, hl]) trivial) ?_
    rintro i S ⟨hi, hall⟩ hS
    simp only [st40a] at hS
    subst hS
    have hw : IntKind.i64.wrap (↑i + 1) = ((i + 1 : Nat) : Int) := by rw [wrap_in (by omega) (by omega)]; rfl
    repeat (first | refine AL.seq ?_ | refine AL.block ?_ | refine AL.skip ?_ | refine AL.blk ?_)
    refine AL.region follows_Try (Nat.le_refl _) (by kernel_rfl) ?_
    simp
    repeat (first | refine AL.seq ?_ | refine AL.block ?_ | refine AL.skip ?_ | refine AL.blk ?_)
    refine AL.cond ?_
    simp
    refine ⟨fun hlt => ?_, fun hge => ?_⟩
    · repeat (first | refine AL.seq ?_ | refine AL.block ?_ | refine AL.skip ?_ | refine AL.blk ?_)
      refine AL.region follows_Try (Nat.le_refl _) (by kernel_rfl) ?_
      simp [hlt]
      repeat (first | refine AL.seq ?_ | refine AL.block ?_ | refine AL.skip ?_ | refine AL.blk ?_)
      refine AL.region follows_Try (Nat.le_refl _) (by kernel_rfl) ?_
      simp
      repeat (first | refine AL.seq ?_ | refine AL.block ?_ | refine AL.skip ?_ | refine AL.blk ?_)
      refine AL.loopT (st40b a b i nb box tok nt) (fun k => k ≤ i ∧ ∀ j, j < k → sameAt a b i j = true) (fun k => i - k) 0 ⟨Nat.zero_le _, fun j h => absurd h (Nat.not_lt_zero _)⟩ (Weaks.mk (Nat.le_refl _) rfl (by simp [ToL]) trivial) ?_
      rintro k S ⟨hk, hin⟩ hS
      simp only [st40b] at hS
      subst hS
      have hwk : IntKind.i64.wrap (↑k + 1) = ((k + 1 : Nat) : Int) := by rw [wrap_in (by omega) (by omega)]; rfl
      repeat (first | refine AL.seq ?_ | refine AL.block ?_ | refine AL.skip ?_ | refine AL.blk ?_)
      refine AL.region follows_Try (Nat.le_refl _) (by kernel_rfl) ?_
      simp
      repeat (first | refine AL.seq ?_ | refine AL.block ?_ | refine AL.skip ?_ | refine AL.blk ?_)
      refine AL.cond ?_
      simp
      refine ⟨fun hlk => ?_, fun hgk => ?_⟩
      · have hka : k < a.length := by omega
        have hkb : k < b.length := by omega
        have hib : i < b.length := by omega
        have q4 : ((a[i] == a[k]) == (b[i] == b[k])) = sameAt a b i k := by rw [beqD, beqD]; simp [sameAt, hlt, hka, hib, hkb]
        by_cases hs : sameAt a b i k = true
        · repeat (first | refine AL.seq ?_ | refine AL.block ?_ | refine AL.skip ?_ | refine AL.blk ?_)
          refine AL.region follows_Try (Nat.le_refl _) (by kernel_rfl) ?_
          simp
          repeat (first | refine AL.seq ?_ | refine AL.block ?_ | refine AL.skip ?_ | refine AL.blk ?_)
          refine AL.region follows_Try (Nat.le_refl _) (by kernel_rfl) ?_
          simp [hlk, hlt, hka, hkb, hib]
          rw [q4, hs]
          repeat (first | refine AL.seq ?_ | refine AL.block ?_ | refine AL.skip ?_ | refine AL.blk ?_)
          refine AL.cond ?_
          simp
          repeat (first | refine AL.seq ?_ | refine AL.block ?_ | refine AL.skip ?_ | refine AL.blk ?_)
          refine AL.region follows_Try (Nat.le_refl _) (by kernel_rfl) ?_
          simp [hwk]
          repeat (first | refine AL.seq ?_ | refine AL.block ?_ | refine AL.skip ?_ | refine AL.blk ?_)
          refine AL.nil ?_
          refine ⟨k + 1, ⟨hlk, fun j hj => ?_⟩, by omega, Weaks.mk (Nat.le_refl _) rfl (by simp [ToL]) trivial⟩
          by_cases e : j = k
          · subst e; exact hs
          · exact hin j (by omega)
        · have hR : alikeL a b = false := by
            simp only [alikeL, hl, decide_true, Bool.true_and]
            rw [← Bool.not_eq_true, List.all_eq_true]
            intro h
            have := List.all_eq_true.1 (h i (by simpa using hib)) k (by simpa using hlk)
            exact hs this
          repeat (first | refine AL.seq ?_ | refine AL.block ?_ | refine AL.skip ?_ | refine AL.blk ?_)
          refine AL.region follows_Try (Nat.le_refl _) (by kernel_rfl) ?_
          simp
          repeat (first | refine AL.seq ?_ | refine AL.block ?_ | refine AL.skip ?_ | refine AL.blk ?_)
          refine AL.region follows_Try (Nat.le_refl _) (by kernel_rfl) ?_
          simp [hlk, hlt, hka, hkb, hib]
          have hs' : sameAt a b i k = false := by simpa using hs
          rw [q4, hs']
          repeat (first | refine AL.seq ?_ | refine AL.block ?_ | refine AL.skip ?_ | refine AL.blk ?_)
          refine AL.cond ?_
          simp
          repeat (first | refine AL.seq ?_ | refine AL.block ?_ | refine AL.skip ?_ | refine AL.blk ?_)
          refine AL.region follows_Try (Nat.le_refl _) (by kernel_rfl) ?_
          simp
          repeat (first | refine AL.seq ?_ | refine AL.block ?_ | refine AL.skip ?_ | refine AL.blk ?_)
          refine AL.ret ?_
          try simp only [AU]
          refine ⟨by simp, Fin.data (by simp [resAs, resA]; rfl) hbox rfl htok (fun _ h => h) (Nat.le_refl _) ?_⟩
          simp [packA, hR]
      · repeat (first | refine AL.seq ?_ | refine AL.block ?_ | refine AL.skip ?_ | refine AL.blk ?_)
        refine AL.exit ?_
        simp only [AU, ↓reduceIte]
        have : k = i := by omega
        subst this
        repeat (first | refine AL.seq ?_ | refine AL.block ?_ | refine AL.skip ?_ | refine AL.blk ?_)
        refine AL.region follows_Try (Nat.le_refl _) (by kernel_rfl) ?_
        simp [hw]
        repeat (first | refine AL.seq ?_ | refine AL.block ?_ | refine AL.skip ?_ | refine AL.blk ?_)
        refine AL.nil ?_
        refine ⟨k + 1, ⟨hlt, fun j m hj hm => ?_⟩, by omega, Weaks.mk (Nat.le_refl _) rfl (by simp [ToL]) trivial⟩
        by_cases e : j = k
        · subst e; exact hin m hm
        · exact hall j m (by omega) hm
    · repeat (first | refine AL.seq ?_ | refine AL.block ?_ | refine AL.skip ?_ | refine AL.blk ?_)
      refine AL.exit ?_
      simp only [AU, ↓reduceIte]
      repeat (first | refine AL.seq ?_ | refine AL.block ?_ | refine AL.skip ?_ | refine AL.blk ?_)
      refine AL.region follows_Try (Nat.le_refl _) (by kernel_rfl) ?_
      simp
      have : i = a.length := by omega
      subst this
      have hR : alikeL a b = true := by
        simp only [alikeL, hl, decide_true, Bool.true_and, List.all_eq_true, List.mem_range]
        intro j hj k hk
        exact hall j k (by omega) hk
      repeat (first | refine AL.seq ?_ | refine AL.block ?_ | refine AL.skip ?_ | refine AL.blk ?_)
      refine AL.ret ?_
      try simp only [AU]
      refine ⟨by simp, Fin.data (by simp [resAs, resA]; rfl) hbox rfl htok (fun _ h => h) (Nat.le_refl _) ?_⟩
      simp [packA, hR]
  · have hb : ((a.length : Int) != (b.length : Int)) = true := by simp; omega
    simp [hb]
    repeat (first | refine AL.seq ?_ | refine AL.block ?_ | refine AL.skip ?_ | refine AL.blk ?_)
    refine AL.cond ?_
    simp
    repeat (first | refine AL.seq ?_ | refine AL.block ?_ | refine AL.skip ?_ | refine AL.blk ?_)
    refine AL.region follows_Try (Nat.le_refl _) (by kernel_rfl) ?_
    simp
    repeat (first | refine AL.seq ?_ | refine AL.block ?_ | refine AL.skip ?_ | refine AL.blk ?_)
    refine AL.ret ?_
    try simp only [AU]
    refine ⟨by simp, Fin.data (by simp [resAs, resA]; rfl) hbox rfl htok (fun _ h => h) (Nat.le_refl _) ?_⟩
    simp [packA, alikeL, hl]

def isQ (m : Mo) (q : Qu) : Bool := alikeL q.o.nodes m.nodes && alikeL q.o.edges m.edges
def cntQ (m : Mo) (L : List Qu) (i : Nat) : Nat := (L.take i).countP (isQ m)
theorem cntQ_zero (m : Mo) (L : List Qu) : cntQ m L 0 = 0 := by simp [cntQ]
theorem cntQ_le (m : Mo) (L : List Qu) (i : Nat) : cntQ m L i ≤ i := Nat.le_trans List.countP_le_length (by simp [List.length_take]; omega)
theorem cntQ_yes (m : Mo) (L : List Qu) {i : Nat} (h : i < L.length) (hq : isQ m L[i] = true) : cntQ m L (i + 1) = cntQ m L i + 1 := by
  unfold cntQ
  rw [List.take_succ_eq_append_getElem h, List.countP_append]
  simp [hq]
theorem cntQ_no (m : Mo) (L : List Qu) {i : Nat} (h : i < L.length) (hq : isQ m L[i] = false) : cntQ m L (i + 1) = cntQ m L i := by
  unfold cntQ
  rw [List.take_succ_eq_append_getElem h, List.countP_append]
  simp [hq]

def st10 (m : Mo) (L : List Qu) (nb : Nat) (box : Nat → Option (List (List AV))) (tok : Nat → Bool) (nt : Nat) (i : Nat) : AState :=
  ⟨tl [(69, .d (qus L)), (70, I L.length), (71, I i), (14, I (cntQ m L i)), (9, .ptr (nb + 9) 0 0)], lb nb box [(9, [[.d (ints m.nodes), .d (ints m.edges)]])], tok, nt⟩

theorem madeG_small2 {x : Dr} (h : smallD x 5 4 = true) : (madeG x).nodes.length ≤ 5 ∧ (madeG x).edges.length ≤ 4 := by
  simp only [smallD, Bool.and_eq_true, decide_eq_true_eq] at h
  refine ⟨by simp only [madeG, mN_len]; omega, ?_⟩
  simp only [madeG]
  split
  · simp
  · simp only [mE_len]; omega

theorem law10_c (x : Dr) (hx : x.U8) (codes : List Int) (hu : ∀ n ∈ codes, 0 ≤ n ∧ n < 256) (tok : Nat → Bool) (nt : Nat) : ∃ tok' nt', DCall Try.prog 10 [x.av, .d (.sl 1 (codes.map fun n => [u8 n]))] tok nt (B true) tok' nt' := by
  refine ⟨tok, nt, ?_⟩
  intro box nb
  refine ACalls.of_body Try.func10 rfl (by kernel_rfl) follows_Try (by kernel_rfl) (by simp [Try.ntmps10]) ?_
  intro hbox htok
  simp only at hbox htok
  apply AL.start
  repeat (first | refine AL.seq ?_ | refine AL.block ?_ | refine AL.skip ?_ | refine AL.blk ?_)
  refine AL.region follows_Try (Nat.le_refl _) (by kernel_rfl) ?_
  simp
  repeat (first | refine AL.seq ?_ | refine AL.block ?_ | refine AL.skip ?_ | refine AL.blk ?_)
  refine AL.region follows_Try (Nat.le_refl _) (by kernel_rfl) ?_
  simp
  refine Stop.of_d (awake_c _ _) ?_
  simp
  refine Stop.of_d (small24_c x 5 4 _ _) ?_
  simp
  by_cases h1 : smallD x 5 4 = true
  · simp [h1]
    by_cases h2 : codes.length = 0
    · have hb : ((codes.length : Int) == 0) = true := by rw [beqD]; exact decide_eq_true (by omega)
      simp [hb]
      repeat (first | refine AL.seq ?_ | refine AL.block ?_ | refine AL.skip ?_ | refine AL.blk ?_)
      refine AL.cond ?_
      simp
      repeat (first | refine AL.seq ?_ | refine AL.block ?_ | refine AL.skip ?_ | refine AL.blk ?_)
      refine AL.region follows_Try (Nat.le_refl _) (by kernel_rfl) ?_
      simp
      refine Stop.of_d (awake_c _ _) ?_
      simp
      repeat (first | refine AL.seq ?_ | refine AL.block ?_ | refine AL.skip ?_ | refine AL.blk ?_)
      refine AL.ret ?_
      try simp only [AU]
      refine ⟨by simp, Fin.data (by simp [resAs, resA]; rfl) hbox rfl htok (fun _ h => h) (Nat.le_refl _) ?_⟩
      simp [packA]
    · have hb : ((codes.length : Int) == 0) = false := by rw [beqD]; exact decide_eq_false (by omega)
      simp [hb]
      by_cases h3 : 10 < (codes.length : Int)
      · simp [h3]
        repeat (first | refine AL.seq ?_ | refine AL.block ?_ | refine AL.skip ?_ | refine AL.blk ?_)
        refine AL.cond ?_
        simp
        repeat (first | refine AL.seq ?_ | refine AL.block ?_ | refine AL.skip ?_ | refine AL.blk ?_)
        refine AL.region follows_Try (Nat.le_refl _) (by kernel_rfl) ?_
        simp
        refine Stop.of_d (awake_c _ _) ?_
        simp
        repeat (first | refine AL.seq ?_ | refine AL.block ?_ | refine AL.skip ?_ | refine AL.blk ?_)
        refine AL.ret ?_
        try simp only [AU]
        refine ⟨by simp, Fin.data (by simp [resAs, resA]; rfl) hbox rfl htok (fun _ h => h) (Nat.le_refl _) ?_⟩
        simp [packA]
      · simp [h3]
        repeat (first | refine AL.seq ?_ | refine AL.block ?_ | refine AL.skip ?_ | refine AL.blk ?_)
        refine AL.cond ?_
        simp
        have m1 := made25_c x hx tok nt
        have hva := madeG_valid hx
        have fa := madeG_fit x
        have sa := madeG_small2 h1
        generalize madeG x = a at *
        repeat (first | refine AL.seq ?_ | refine AL.block ?_ | refine AL.skip ?_ | refine AL.blk ?_)
        refine AL.region follows_Try (Nat.le_refl _) (by kernel_rfl) ?_
        simp
        refine Stop.of_d (m1) ?_
        simp
        repeat (first | refine AL.seq ?_ | refine AL.block ?_ | refine AL.skip ?_ | refine AL.blk ?_)
        refine AL.region follows_Try (Nat.le_refl _) (by kernel_rfl) ?_
        simp
        refine Stop.of_a (image39_c a codes hva fa (by omega) (by omega) hu _ _ _ _) ?_
        rintro v m' ⟨⟨b, m, rfl, hvm⟩, rfl⟩
        simp
        have fb : b.Fit := ⟨by have := (validG_types hvm.vb).1; omega, by have := (validG_types hvm.vb).1; omega⟩
        have fm : m.Fit := ⟨by rw [hvm.ln]; omega, by rw [hvm.le]; omega⟩
        have hfac := (fac_law (validM_of hvm)).1
        have hone := onto_law hvm
        have hfit := facR_fit (a := a) fb fm
        have cf := factor35_c a b m fa fb fm tok nt
        generalize facR a b m = F at *
        obtain ⟨fg, fo, fi⟩ := hfit
        rw [hfac] at cf
        have cq := quotientsF_c a fa tok nt
        have rl := quotientsR_list a hva (by omega)
        have hfq := quotientsR_fit a
        repeat (first | refine AL.seq ?_ | refine AL.block ?_ | refine AL.skip ?_ | refine AL.blk ?_)
        refine AL.region follows_Try (Nat.le_refl _) (by kernel_rfl) ?_
        simp
        refine Stop.of_d (cf) ?_
        simp
        by_cases hbig : 2000 < (listQ a).length
        · rw [if_pos hbig] at rl
          rw [rl] at cq
          repeat (first | refine AL.seq ?_ | refine AL.block ?_ | refine AL.skip ?_ | refine AL.blk ?_)
          refine AL.region follows_Try (Nat.le_refl _) (by kernel_rfl) ?_
          simp
          refine Stop.of_d (cq) ?_
          simp
          repeat (first | refine AL.seq ?_ | refine AL.block ?_ | refine AL.skip ?_ | refine AL.blk ?_)
          refine AL.region follows_Try (Nat.le_refl _) (by kernel_rfl) ?_
          simp
          repeat (first | refine AL.seq ?_ | refine AL.block ?_ | refine AL.skip ?_ | refine AL.blk ?_)
          refine AL.cond ?_
          simp
          repeat (first | refine AL.seq ?_ | refine AL.block ?_ | refine AL.skip ?_ | refine AL.blk ?_)
          refine AL.region follows_Try (Nat.le_refl _) (by kernel_rfl) ?_
          simp
          repeat (first | refine AL.seq ?_ | refine AL.block ?_ | refine AL.skip ?_ | refine AL.blk ?_)
          refine AL.ret ?_
          try simp only [AU]
          refine ⟨by simp, Fin.data (by simp [resAs, resA]; rfl) hbox rfl htok (fun _ h => h) (Nat.le_refl _) ?_⟩
          simp [packA]
        · rw [if_neg hbig] at rl
          rw [rl] at cq hfq
          simp only at hfq
          generalize listQ a = L at *
          repeat (first | refine AL.seq ?_ | refine AL.block ?_ | refine AL.skip ?_ | refine AL.blk ?_)
          refine AL.region follows_Try (Nat.le_refl _) (by kernel_rfl) ?_
          simp
          refine Stop.of_d (cq) ?_
          simp
          repeat (first | refine AL.seq ?_ | refine AL.block ?_ | refine AL.skip ?_ | refine AL.blk ?_)
          refine AL.region follows_Try (Nat.le_refl _) (by kernel_rfl) ?_
          simp
          repeat (first | refine AL.seq ?_ | refine AL.block ?_ | refine AL.skip ?_ | refine AL.blk ?_)
          refine AL.cond ?_
          simp
          repeat (first | refine AL.seq ?_ | refine AL.block ?_ | refine AL.skip ?_ | refine AL.blk ?_)
          refine AL.region follows_Try (Nat.le_refl _) (by kernel_rfl) ?_
          simp
          repeat (first | refine AL.seq ?_ | refine AL.block ?_ | refine AL.skip ?_ | refine AL.blk ?_)
          refine AL.region follows_Try (Nat.le_refl _) (by kernel_rfl) ?_
          simp
          repeat (first | refine AL.seq ?_ | refine AL.block ?_ | refine AL.skip ?_ | refine AL.blk ?_)
          refine AL.loopT (st10 F.onto L nb box tok nt) (fun i => i ≤ L.length) (fun i => L.length - i) 0 (Nat.zero_le _) (Weaks.mk (Nat.le_refl _) rfl (by simp [ToL, lk, cntQ_zero]) (by simp [BoxL, lk])) ?_
          rintro i S hi hS
          simp only [st10] at hS
          subst hS
          have hw : IntKind.i64.wrap (↑i + 1) = ((i + 1 : Nat) : Int) := by rw [wrap_in (by omega) (by omega)]; rfl
          have hcl := cntQ_le F.onto L i
          repeat (first | refine AL.seq ?_ | refine AL.block ?_ | refine AL.skip ?_ | refine AL.blk ?_)
          refine AL.region follows_Try (Nat.le_refl _) (by kernel_rfl) ?_
          simp
          repeat (first | refine AL.seq ?_ | refine AL.block ?_ | refine AL.skip ?_ | refine AL.blk ?_)
          refine AL.cond ?_
          simp
          refine ⟨fun hlt => ?_, fun hge => ?_⟩
          · have hqf := hfq.2 _ (List.getElem_mem hlt)
            have hyes := cntQ_yes F.onto L hlt
            have hno := cntQ_no F.onto L hlt
            have hwc : IntKind.i64.wrap (↑(cntQ F.onto L i) + 1) = ((cntQ F.onto L i + 1 : Nat) : Int) := by rw [wrap_in (by omega) (by omega)]; rfl
            repeat (first | refine AL.seq ?_ | refine AL.block ?_ | refine AL.skip ?_ | refine AL.blk ?_)
            refine AL.region follows_Try (Nat.le_refl _) (by kernel_rfl) ?_
            simp [hlt]
            generalize L[i] = q at *
            repeat (first | refine AL.seq ?_ | refine AL.block ?_ | refine AL.skip ?_ | refine AL.blk ?_)
            refine AL.region follows_Try (Nat.le_refl _) (by kernel_rfl) ?_
            simp
            refine Stop.of_d (alike40_c q.o.nodes F.onto.nodes hqf.o.n fo.n _ _) ?_
            simp
            by_cases g1 : alikeL q.o.nodes F.onto.nodes = true
            · simp [g1]
              refine Stop.of_d (alike40_c q.o.edges F.onto.edges hqf.o.e fo.e _ _) ?_
              simp [g1]
              by_cases g2 : alikeL q.o.edges F.onto.edges = true
              · simp [g2]
                repeat (first | refine AL.seq ?_ | refine AL.block ?_ | refine AL.skip ?_ | refine AL.blk ?_)
                refine AL.cond ?_
                simp
                repeat (first | refine AL.seq ?_ | refine AL.block ?_ | refine AL.skip ?_ | refine AL.blk ?_)
                refine AL.region follows_Try (Nat.le_refl _) (by kernel_rfl) ?_
                simp
                repeat (first | refine AL.seq ?_ | refine AL.block ?_ | refine AL.skip ?_ | refine AL.blk ?_)
                refine AL.region follows_Try (Nat.le_refl _) (by kernel_rfl) ?_
                simp [hw]
                repeat (first | refine AL.seq ?_ | refine AL.block ?_ | refine AL.skip ?_ | refine AL.blk ?_)
                refine AL.nil ?_
                refine ⟨i + 1, hlt, by omega, Weaks.mk (Nat.le_refl _) rfl (by simp [ToL, lk]; rw [hyes (by simp [isQ, g1, g2]), hwc]; simp) (by simp [BoxL, lk])⟩
              · simp [g2]
                repeat (first | refine AL.seq ?_ | refine AL.block ?_ | refine AL.skip ?_ | refine AL.blk ?_)
                refine AL.cond ?_
                simp
                repeat (first | refine AL.seq ?_ | refine AL.block ?_ | refine AL.skip ?_ | refine AL.blk ?_)
                refine AL.region follows_Try (Nat.le_refl _) (by kernel_rfl) ?_
                simp [hw]
                repeat (first | refine AL.seq ?_ | refine AL.block ?_ | refine AL.skip ?_ | refine AL.blk ?_)
                refine AL.nil ?_
                refine ⟨i + 1, hlt, by omega, Weaks.mk (Nat.le_refl _) rfl (by simp [ToL, lk]; rw [hno (by simp [isQ, g2])]; simp) (by simp [BoxL, lk])⟩
            · simp [g1]
              repeat (first | refine AL.seq ?_ | refine AL.block ?_ | refine AL.skip ?_ | refine AL.blk ?_)
              refine AL.cond ?_
              simp
              repeat (first | refine AL.seq ?_ | refine AL.block ?_ | refine AL.skip ?_ | refine AL.blk ?_)
              refine AL.region follows_Try (Nat.le_refl _) (by kernel_rfl) ?_
              simp [hw]
              repeat (first | refine AL.seq ?_ | refine AL.block ?_ | refine AL.skip ?_ | refine AL.blk ?_)
              refine AL.nil ?_
              refine ⟨i + 1, hlt, by omega, Weaks.mk (Nat.le_refl _) rfl (by simp [ToL, lk]; rw [hno (by simp [isQ, g1])]; simp) (by simp [BoxL, lk])⟩
          · repeat (first | refine AL.seq ?_ | refine AL.block ?_ | refine AL.skip ?_ | refine AL.blk ?_)
            refine AL.exit ?_
            simp only [AU, ↓reduceIte]
            have : i = L.length := by omega
            subst this
            have hc1 : cntQ F.onto L L.length = 1 := by simp only [cntQ, List.take_length]; exact hone
            rw [hc1]
            repeat (first | refine AL.seq ?_ | refine AL.block ?_ | refine AL.skip ?_ | refine AL.blk ?_)
            refine AL.region follows_Try (Nat.le_refl _) (by kernel_rfl) ?_
            simp
            repeat (first | refine AL.seq ?_ | refine AL.block ?_ | refine AL.skip ?_ | refine AL.blk ?_)
            refine AL.ret ?_
            try simp only [AU]
            refine ⟨by simp, Fin.data (by simp [resAs, resA]; rfl) hbox rfl htok (fun _ h => h) (Nat.le_refl _) ?_⟩
            simp [packA]
  · simp [h1]
    repeat (first | refine AL.seq ?_ | refine AL.block ?_ | refine AL.skip ?_ | refine AL.blk ?_)
    refine AL.cond ?_
    simp
    repeat (first | refine AL.seq ?_ | refine AL.block ?_ | refine AL.skip ?_ | refine AL.blk ?_)
    refine AL.region follows_Try (Nat.le_refl _) (by kernel_rfl) ?_
    simp
    refine Stop.of_d (awake_c _ _) ?_
    simp
    repeat (first | refine AL.seq ?_ | refine AL.block ?_ | refine AL.skip ?_ | refine AL.blk ?_)
    refine AL.ret ?_
    try simp only [AU]
    refine ⟨by simp, Fin.data (by simp [resAs, resA]; rfl) hbox rfl htok (fun _ h => h) (Nat.le_refl _) ?_⟩
    simp [packA]
end Go.AM
/-
  The abstract machine, twenty-second part: from a statement's reading of the arguments to slots, and from a contract to the statement.
-/
namespace Go.AM
open Go Go.ChangeShapes
set_option linter.unusedSimpArgs false
set_option linter.unusedVariables false

variable {P : Program}

/-- Cells that read as data. -/
def Rd (w : World) (cs : List Value) (ds : List D) : Prop := cs.length = ds.length ∧ ∀ i (h1 : i < cs.length) (h2 : i < ds.length), RVd w.cell? (fun _ => True) ds[i] cs[i]

theorem Rd.append {w : World} {cs cs' : List Value} {ds ds' : List D} (h : Rd w cs ds) (k : Rd w cs' ds') : Rd w (cs ++ cs') (ds ++ ds') := by
  refine ⟨by simp [h.1, k.1], fun i h1 h2 => ?_⟩
  by_cases hi : i < cs.length
  · rw [List.getElem_append_left hi, List.getElem_append_left (by rw [← h.1]; exact hi)]
    exact h.2 i hi _
  · have hl := h.1
    rw [List.getElem_append_right (by omega), List.getElem_append_right (by omega)]
    have := k.2 (i - cs.length) (by simp at h1; omega) (by have := k.1; simp at h1; omega)
    simpa [hl] using this
theorem Rd.one {w : World} {c : Value} {d : D} (h : RVd w.cell? (fun _ => True) d c) : Rd w [c] [d] := ⟨rfl, fun i h1 h2 => by
  have : i = 0 := by simpa using h1
  subst this
  exact h⟩

/-- What it takes is within reach. -/
def Light {H : Type} (P : Program) (T : TypeId) (d : DataW H) : Prop := (d.weights P T).all (· ≤ reachBytes) = true

/-- How the cells of a type read as data: as the images of values of a Lean type. -/
structure Rdr (P : Program) (T : TypeId) (α : Type) where
  enc : α → List D
  ok : α → Prop
  len : ∀ x, (enc x).length = P.cellsOf T
  sound : ∀ {H : Type} (e : TypeId × Value → H) (w : World) (base : Nat) (spare : Nat → Bool) (held : Bool) (fuel : Nat) (cs : List Value) (x : DataW H × List MemPlace),
    DataW.trod e P w base spare held fuel T cs = some x → ∃ y, Rd w cs (enc y) ∧ (Light P T x.1 → ok y)

def Rdr.int {T : TypeId} {k : IntKind} (h : P.underlying T = some (.int k)) (hc : P.cellsOf T = 1) : Rdr P T Int where
  enc n := [.raw (.int k n)]
  ok n := (Lit.int k n).wf = true
  len _ := by simp [hc]
  sound e w base spare held fuel cs x hx := by
    cases fuel with
    | zero => simp [DataW.trod] at hx
    | succ n =>
      unfold DataW.trod at hx
      rw [h] at hx
      split at hx <;> simp_all
      rename_i k' n' _
      exact ⟨n', Rd.one (.raw rfl), fun _ => hx.1.2⟩

theorem cells_spec {w : World} {base : Nat} {a : Addr} {n : Nat} {l : List Value} (h : w.cells? base a n = some l) : l.length = n ∧ ∀ i (hi : i < l.length), w.cell? (a.add i) = some l[i] := by
  unfold World.cells? at h
  split at h
  · have h1 : l.length = n := by have := mapM_some_length h; simpa using this
    refine ⟨h1, fun i hi => ?_⟩
    have hin : i < n := by omega
    have := mapM_some_get h i i (by simp [hin])
    rw [this]
    exact List.getElem?_eq_getElem hi
  · cases h

theorem light_slice {H : Type} {T E : TypeId} (h : P.underlying T = some (.slice E)) {elems rest : List (DataW H)} (hl : Light P T (.slice elems rest)) : elems.length * P.bytesOf E ≤ reachBytes ∧ ∀ d ∈ elems, Light P E d := by
  unfold Light at hl ⊢
  simp only [DataW.weights, h, List.all_cons, List.all_append, Bool.and_eq_true, decide_eq_true_eq] at hl
  refine ⟨Nat.le_trans (Nat.mul_le_mul_right _ (Nat.le_add_right _ _)) hl.1, ?_⟩
  have key : ∀ l : List (DataW H), (DataW.weightsAll P E l).all (· ≤ reachBytes) = true → ∀ d ∈ l, (d.weights P E).all (· ≤ reachBytes) = true := by
    intro l
    induction l with
    | nil => intro _ d hd; simp at hd
    | cons x l ih =>
      intro hx d hd
      simp only [DataW.weightsAll, List.all_append, Bool.and_eq_true] at hx
      rcases List.mem_cons.1 hd with rfl | hd
      · exact hx.1
      · exact ih hx.2 d hd
  exact key elems hl.2.1

def Rdr.slice {T E : TypeId} {α : Type} (r : Rdr P E α) (h : P.underlying T = some (.slice E)) (hc : P.cellsOf T = 1) : Rdr P T (List α) where
  enc l := [.sl (P.cellsOf E) (l.map r.enc)]
  ok l := (∀ x ∈ l, r.ok x) ∧ l.length * P.bytesOf E ≤ reachBytes
  len _ := by simp [hc]
  sound e w base spare held fuel cs x hx := by
    rcases DataW.trod_slice h hx with ⟨rfl, rfl⟩ | ⟨a, len, cap, elems, rest, n, rfl, rfl, rfl, hb, hl, hm, hel, hat, _⟩
    · exact ⟨[], Rd.one (.sl (es := []) (fun _ _ => default) (Nat.le_refl _) (by decide) (by simp) (by simp) (by simp) (by simp)), fun _ => ⟨by simp, by simp⟩⟩
    · have key : ∀ i (hi : i < elems.length), ∃ cs y, cs.length = P.cellsOf E ∧ (∀ j (hj : j < cs.length), w.cell? (a.add (i * P.cellsOf E + j)) = some cs[j]) ∧ Rd w cs (r.enc y) ∧ (Light P E elems[i].1 → r.ok y) := by
        intro i hi
        have h1 := hat i (by omega)
        have h2 : elems[i]? = some elems[i] := List.getElem?_eq_getElem hi
        rw [h2, Option.bind_eq_some_iff] at h1
        obtain ⟨cs, hcs, htr⟩ := h1
        obtain ⟨hcl, hcc⟩ := cells_spec hcs
        obtain ⟨y, hy, hok⟩ := r.sound e w base spare held n cs _ htr
        refine ⟨cs, y, hcl, fun j hj => ?_, hy, hok⟩
        rw [← Addr.add_add]
        exact hcc j hj
      have pick : ∀ m, m ≤ elems.length → ∃ ys : List α, ys.length = m ∧ (∀ i (hi : i < ys.length) (hi2 : i < elems.length), ∃ cs, cs.length = P.cellsOf E ∧ (∀ j (hj : j < cs.length), w.cell? (a.add (i * P.cellsOf E + j)) = some cs[j]) ∧ Rd w cs (r.enc ys[i]) ∧ (Light P E elems[i].1 → r.ok ys[i])) := by
        intro m
        induction m with
        | zero => intro _; exact ⟨[], rfl, fun i hi => by simp at hi⟩
        | succ m ih =>
          intro hm'
          obtain ⟨ys, hys, hall⟩ := ih (by omega)
          obtain ⟨cs, y, g1, g2, g3, g4⟩ := key m (by omega)
          refine ⟨ys ++ [y], by simp [hys], fun i hi hi2 => ?_⟩
          by_cases him : i < ys.length
          · rw [List.getElem_append_left him]
            exact hall i him hi2
          · have : i = m := by simp at hi; omega
            subst this
            have e1 : (ys ++ [y])[i] = y := by
              rw [List.getElem_append_right (by omega)]
              simp
            rw [e1]
            exact ⟨cs, g1, g2, g3, g4⟩
      obtain ⟨ys, hys, hall⟩ := pick elems.length (Nat.le_refl _)
      refine ⟨ys, Rd.one ?_, fun hli => ?_⟩
      · have hlen : len = ys.length := by omega
        subst hlen
        have hml : ys.length = (ys.map r.enc).length := by simp
        rw [hml]
        refine .sl (fun i j => (w.cell? (a.add (i * P.cellsOf E + j))).getD default) (by simpa using hl) hm (fun e he => ?_) (fun _ => ⟨a, rfl⟩) (fun a' ha' i j hi hj => ?_) (fun i j hi hj => ?_)
        · obtain ⟨y, _, rfl⟩ := List.mem_map.1 he
          exact r.len y
        · cases ha'
          obtain ⟨cs, g1, g2, _⟩ := hall i (by simpa using hi) (by simp at hi; omega)
          rw [g2 j (by omega)]
          exact ⟨trivial, rfl⟩
        · obtain ⟨cs, g1, g2, g3, _⟩ := hall i (by simpa using hi) (by simp at hi; omega)
          simp only [List.getElem_map] at hj ⊢
          have hjc : j < cs.length := by rw [g3.1]; exact hj
          rw [g2 j hjc]
          exact g3.2 j hjc hj
      · obtain ⟨w1, w2⟩ := light_slice h hli
        refine ⟨fun y hy => ?_, by simpa [hys] using w1⟩
        obtain ⟨i, hi, rfl⟩ := List.getElem_of_mem hy
        obtain ⟨_, _, _, _, h4⟩ := hall i hi (by omega)
        exact h4 (w2 _ (List.mem_map.2 ⟨_, List.getElem_mem _, rfl⟩))

def Rdr.map {T : TypeId} {α β : Type} (r : Rdr P T α) (f : α → β) (enc : β → List D) (ok : β → Prop) (he : ∀ x, enc (f x) = r.enc x) (hok : ∀ x, r.ok x → ok (f x)) (hl : ∀ y, (enc y).length = P.cellsOf T) : Rdr P T β where
  enc := enc
  ok := ok
  len := hl
  sound e w base spare held fuel cs x hx := by
    obtain ⟨y, h1, h2⟩ := r.sound e w base spare held fuel cs x hx
    exact ⟨f y, by rw [he]; exact h1, fun hl => hok y (h2 hl)⟩

/-- A slice, its elements' size named. -/
def Rdr.sliceN {T E : TypeId} {α : Type} (r : Rdr P E α) (n : Nat) (h : P.underlying T = some (.slice E)) (hc : P.cellsOf T = 1) (hn : P.cellsOf E = n) : Rdr P T (List α) where
  enc l := [.sl n (l.map r.enc)]
  ok l := (∀ x ∈ l, r.ok x) ∧ l.length * P.bytesOf E ≤ reachBytes
  len _ := by simp [hc]
  sound := by
    subst hn
    exact (Rdr.slice r h hc).sound

theorem list2 {α : Type} {l : List α} (h : l.length = 2) : l = [l[0]'(by omega), l[1]'(by omega)] := by
  match l, h with
  | [p, q], _ => rfl
theorem list3 {α : Type} {l : List α} (h : l.length = 3) : l = [l[0]'(by omega), l[1]'(by omega), l[2]'(by omega)] := by
  match l, h with
  | [p, q, r], _ => rfl

def Rdr.struct2 {T A B : TypeId} {α β : Type} (r : Rdr P A α) (s : Rdr P B β) {f0 f1 : Field} (h : P.underlying T = some (.struct #[f0, f1])) (hA : f0.type = A) (hB : f1.type = B) (h0 : f0.offset = 0) (h1 : f1.offset = P.cellsOf A)
    (hc : P.cellsOf T = P.cellsOf A + P.cellsOf B) : Rdr P T (α × β) where
  enc x := r.enc x.1 ++ s.enc x.2
  ok x := r.ok x.1 ∧ s.ok x.2
  len x := by simp [r.len, s.len, hc]
  sound e w base spare held fuel cs x hx := by
    obtain ⟨xs, n, rfl, rfl, hl, hxs, hat⟩ := DataW.trod_struct h hx
    have hxs' : xs.length = 2 := hxs
    have g0 := hat 0 f0 rfl
    have g1 := hat 1 f1 rfl
    have e0 : xs[0]? = some (xs[0]'(by omega)) := List.getElem?_eq_getElem (by omega)
    have e1 : xs[1]? = some (xs[1]'(by omega)) := List.getElem?_eq_getElem (by omega)
    rw [e0, h0, hA] at g0
    rw [e1, h1, hB] at g1
    obtain ⟨y, k1, k2⟩ := r.sound e w base spare held n _ _ g0
    obtain ⟨z, m1, m2⟩ := s.sound e w base spare held n _ _ g1
    refine ⟨(y, z), ?_, fun hli => ?_⟩
    rotate_left
    · unfold Light at hli k2 m2
      have e2 : xs = [xs[0]'(by omega), xs[1]'(by omega)] := list2 hxs'
      rw [e2] at hli
      simp only [List.map_cons, List.map_nil, DataW.weights, h, DataW.weightsEach, hA, hB, List.all_append, Bool.and_eq_true] at hli
      exact ⟨k2 hli.1, m2 hli.2.1⟩
    have hcs : cs = (cs.drop 0).take (P.cellsOf A) ++ (cs.drop (P.cellsOf A)).take (P.cellsOf B) := by
      have : (cs.drop (P.cellsOf A)).take (P.cellsOf B) = cs.drop (P.cellsOf A) := List.take_of_length_le (by simp; omega)
      rw [this, List.drop_zero, List.take_append_drop]
    rw [hcs]
    exact k1.append m1

def Rdr.struct3 {T A B C : TypeId} {α β γ : Type} (r : Rdr P A α) (s : Rdr P B β) (t : Rdr P C γ) {f0 f1 f2 : Field} (h : P.underlying T = some (.struct #[f0, f1, f2])) (hA : f0.type = A) (hB : f1.type = B) (hC : f2.type = C)
    (h0 : f0.offset = 0) (h1 : f1.offset = P.cellsOf A) (h2 : f2.offset = P.cellsOf A + P.cellsOf B) (hc : P.cellsOf T = P.cellsOf A + P.cellsOf B + P.cellsOf C) : Rdr P T (α × β × γ) where
  enc x := r.enc x.1 ++ (s.enc x.2.1 ++ t.enc x.2.2)
  ok x := r.ok x.1 ∧ s.ok x.2.1 ∧ t.ok x.2.2
  len x := by simp [r.len, s.len, t.len, hc]; omega
  sound e w base spare held fuel cs x hx := by
    obtain ⟨xs, n, rfl, rfl, hl, hxs, hat⟩ := DataW.trod_struct h hx
    have hxs' : xs.length = 3 := hxs
    have g0 := hat 0 f0 rfl
    have g1 := hat 1 f1 rfl
    have g2 := hat 2 f2 rfl
    have e0 : xs[0]? = some (xs[0]'(by omega)) := List.getElem?_eq_getElem (by omega)
    have e1 : xs[1]? = some (xs[1]'(by omega)) := List.getElem?_eq_getElem (by omega)
    have e2 : xs[2]? = some (xs[2]'(by omega)) := List.getElem?_eq_getElem (by omega)
    rw [e0, h0, hA] at g0
    rw [e1, h1, hB] at g1
    rw [e2, h2, hC] at g2
    obtain ⟨y, k1, k2⟩ := r.sound e w base spare held n _ _ g0
    obtain ⟨z, m1, m2⟩ := s.sound e w base spare held n _ _ g1
    obtain ⟨q, p1, p2⟩ := t.sound e w base spare held n _ _ g2
    refine ⟨(y, z, q), ?_, fun hli => ?_⟩
    rotate_left
    · unfold Light at hli k2 m2 p2
      have e2 : xs = [xs[0]'(by omega), xs[1]'(by omega), xs[2]'(by omega)] := list3 hxs'
      rw [e2] at hli
      simp only [List.map_cons, List.map_nil, DataW.weights, h, DataW.weightsEach, hA, hB, hC, List.all_append, Bool.and_eq_true] at hli
      exact ⟨k2 hli.1, m2 hli.2.1, p2 hli.2.2.1⟩
    have hcs : cs = (cs.drop 0).take (P.cellsOf A) ++ ((cs.drop (P.cellsOf A)).take (P.cellsOf B) ++ (cs.drop (P.cellsOf A + P.cellsOf B)).take (P.cellsOf C)) := by
      have : (cs.drop (P.cellsOf A + P.cellsOf B)).take (P.cellsOf C) = cs.drop (P.cellsOf A + P.cellsOf B) := List.take_of_length_le (by simp; omega)
      rw [this, ← List.drop_drop, List.take_append_drop, List.drop_zero, List.take_append_drop]
    rw [hcs]
    exact k1.append (m1.append p1)

/-! ### The start -/
def G0 : Gh := ⟨fun _ => none, fun _ => none, fun _ => .whole, 0⟩
def m0 : AMem := ⟨fun _ => none, 0, fun _ => false, 0⟩
theorem G0_ps (a : Addr) : G0.ps a := trivial
theorem relM_start (W : World) : RelM G0 m0 W := by
  constructor
  case box => intro k rows b sz h; cases h
  case nobox => intro k _; rfl
  case inj => intro k k' b sz sz' h; cases h
  case nb => intro k _; rfl
  case nt => rfl
  case toks => intro t h; cases h
  case tokb => intro t g h; cases h
  case tinj => intro t t' g h; cases h
  case tnt => intro t x h; cases h
  case fresh => intro b _; rfl

theorem RVd.start {W : World} {d : D} {v : Value} (h : RVd W.cell? (fun _ => True) d v) : RVd W.cell? G0.ps d v := h.mono fun a u _ hc => ⟨G0_ps a, hc⟩

/-- A struct that came in. -/
theorem Rdr.agg {T : TypeId} {α : Type} (r : Rdr P T α) {W : World} {base base' : Nat} {sp : Nat → Bool} {held : Bool} {H : Type} {enc : TypeId × Value → H} {v : Value} {d : DataW H} {p : List MemPlace}
    (hs : aggT P T = some true) (hv : Value.okWide P W .any base T v) (h : DataW.Trod enc P W base' sp held T v d p) (hli : Light P T d) : ∃ y, r.ok y ∧ RV G0 W (.agg ((r.enc y).map .d)) v := by
  have hcs : ∃ cs, v = .agg cs := by
    unfold aggT at hs
    unfold Value.okWide at hv
    cases hu : P.underlying T with
    | none => rw [hu] at hs; simp at hs
    | some u =>
      rw [hu] at hs hv
      cases u <;> simp at hs hv <;> exact ⟨_, hv.choose_spec.1⟩
  obtain ⟨cs, rfl⟩ := hcs
  obtain ⟨fuel, h⟩ := h
  obtain ⟨y, ⟨h1, h2⟩, hok⟩ := r.sound enc W base' sp held fuel _ _ h
  refine ⟨y, hok hli, ?_⟩
  simp only [Value.cells] at h1 h2
  have := RV.agg (G := G0) (w := W) (cs := (r.enc y).map .d) (vs := cs.toList) (by simp [h1]) (fun i g1 g2 => by
    simp only [List.getElem_map]
    exact .d (h2 i g2 (by simpa using g1)).start) (fun v hv => by
    obtain ⟨i, hi, rfl⟩ := List.getElem_of_mem hv
    exact (h2 i hi (by omega)).one)
  simpa using this

/-- A number or a slice that came in. -/
theorem Rdr.cell {T : TypeId} {α : Type} (r : Rdr P T α) {W : World} {base base' : Nat} {sp : Nat → Bool} {held : Bool} {H : Type} {enc : TypeId × Value → H} {v : Value} {d : DataW H} {p : List MemPlace} (f : α → D)
    (hs : aggT P T = some false) (hf : ∀ y, r.enc y = [f y]) (hv : Value.okWide P W .any base T v) (h : DataW.Trod enc P W base' sp held T v d p) (hli : Light P T d) : ∃ y, r.ok y ∧ RV G0 W (.d (f y)) v := by
  obtain ⟨fuel, h⟩ := h
  obtain ⟨y, ⟨h1, h2⟩, hok⟩ := r.sound enc W base' sp held fuel _ _ h
  refine ⟨y, hok hli, ?_⟩
  rw [hf] at h1
  have hcs : v.cells.toList = [v] := by
    cases v with
    | agg cs =>
      exfalso
      unfold aggT at hs
      unfold Value.okWide Cell.okWide Cell.ok at hv
      cases hu : P.underlying T with
      | none => rw [hu] at hs; simp at hs
      | some u =>
        rw [hu] at hs hv
        cases u <;> simp_all
    | _ => rfl
  have := h2 0 (by rw [h1]; simp) (by rw [hf]; simp)
  simp only [hf, List.getElem_cons_zero] at this
  have e : v.cells.toList[0]'(by rw [h1]; simp) = v := by simp [hcs]
  rw [e] at this
  exact .d this.start

theorem light_arg {H : Type} {ts : List TypeId} {ds : List (DataW H)} (hz : (DataW.weightsEach P ts ds).all (· ≤ reachBytes) = true) {j : Nat} {T : TypeId} {d : DataW H} (ht : ts[j]? = some T) (hd : ds[j]? = some d) : Light P T d :=
  List.all_eq_true.2 fun x hx => List.all_eq_true.1 hz x (DataW.weights_mem_each ht hd x hx)

theorem arg_agg {ps : Array TypeId} {args : Array Value} {W : World} {base base' : Nat} {sp : Nat → Bool} {held : Bool} {H : Type} {enc : TypeId × Value → H} (hval : ∀ (j : Nat) t v, ps[j]? = some t → args[j]? = some v → Value.okWide P W .any base t v)
    (j : Nat) (T : TypeId) (v : Value) (hp : ps[j]? = some T) (ha : args[j]? = some v) {α : Type} (r : Rdr P T α) {d : DataW H} {p : List MemPlace} (hs : aggT P T = some true) (h : DataW.Trod enc P W base' sp held T v d p) (hli : Light P T d) :
    ∃ y, r.ok y ∧ RV G0 W (.agg ((r.enc y).map .d)) v := r.agg hs (hval j T v hp ha) h hli
theorem arg_cell {ps : Array TypeId} {args : Array Value} {W : World} {base base' : Nat} {sp : Nat → Bool} {held : Bool} {H : Type} {enc : TypeId × Value → H} (hval : ∀ (j : Nat) t v, ps[j]? = some t → args[j]? = some v → Value.okWide P W .any base t v)
    (j : Nat) (T : TypeId) (v : Value) (hp : ps[j]? = some T) (ha : args[j]? = some v) {α : Type} (r : Rdr P T α) (f : α → D) {d : DataW H} {p : List MemPlace} (hs : aggT P T = some false) (hf : ∀ y, r.enc y = [f y]) (h : DataW.Trod enc P W base' sp held T v d p) (hli : Light P T d) :
    ∃ y, r.ok y ∧ RV G0 W (.d (f y)) v := r.cell f hs hf (hval j T v hp ha) h hli

/-! ### The end -/
theorem le_old {W W' : World} {G' : Gh} (h : Le G0 W G' W') (b : Nat) (hb : b < W.heap.size) : W'.heap[b]? = W.heap[b]? := (h.whole b hb rfl).2
theorem le_kept {W W' : World} {G' : Gh} (h : Le G0 W G' W') (may : MemPlace → Prop) : W.keptBut W' may := by
  refine ⟨h.os, h.output, fun i hi => ?_⟩
  rw [le_old h i hi]
  split
  · rename_i c t fr c' t' fr' e1 e2
    rw [e1] at e2
    cases e2
    exact ⟨rfl, rfl, rfl, fun _ _ => rfl⟩
  · rename_i e1 e2
    rw [e1] at e2
    cases e2
    exact .inr ⟨rfl, rfl⟩
  · rfl
theorem le_same {W W' : World} {G' : Gh} (h : Le G0 W G' W') {p : MemPlace} (hp : p.block < W.heap.size) : W.sameAt W' p := by
  cases p with
  | cell b off => exact World.cell?_of_block (w := W) (a := ⟨b, off, none⟩) (le_old h b hp)
  | map b => exact le_old h b hp
theorem le_frozen {W W' : World} {G' : Gh} (h : Le G0 W G' W') {a : Addr} (ha : a.block < W.heap.size) : W'.frozen? a = W.frozen? a := by
  simp only [World.frozen?, le_old h a.block ha]

theorem trodAll_stays {H : Type} {enc : TypeId × Value → H} {W W' : World} {T : TypeId → Prop} {sp' : Nat → Bool} (K : Kids P T) (hsz : ∀ {t e : TypeId}, T t → P.underlying t = some (.slice e) → 0 < P.cellsOf e) :
    ∀ {ts : List TypeId} {vs : List Value} {ds : List (DataW H)} {ps : List MemPlace}, (∀ t ∈ ts, T t) → DataW.TrodAll enc P W 0 (fun _ => true) true ts vs ds ps → (∀ p ∈ ps, W.sameAt W' p) → (∀ p ∈ ps, sp' p.block = true) →
    DataW.TrodAll enc P W' 0 sp' true ts vs ds ps
  | [], [], [], _, _, h, _, _ => h
  | t :: ts, v :: vs, d :: ds, _, hT, ⟨p, q, ⟨n, hn⟩, h2, e⟩, h3, h4 => by
    subst e
    exact ⟨p, q, ⟨n, DataW.trod_stays K hsz (fun h => by cases h) (hT t (by simp)) hn (fun x hx => h3 x (by simp [hx])) (fun x hx => h4 x (by simp [hx]))⟩,
      trodAll_stays K hsz (fun t ht => hT t (by simp [ht])) h2 (fun x hx => h3 x (by simp [hx])) (fun x hx => h4 x (by simp [hx])), rfl⟩

/-- A law: its contract says that it returns true. -/
theorem law_of {f : FuncId} {fn : Func} {s : ChangeSpec} {H : Type} {enc : TypeId × Value → H} {W : World} {args : Array Value} {ds : List (DataW H)} {before : List MemPlace} {avs : List AV} {tok' : Nat → Bool} {nt' : Nat}
    (hl : laidOutB P = true) (hm : mapsRowed P = true) (hz : ((List.range P.types.size).all fun t => match P.underlying t with | some (.slice e) => decide (0 < P.cellsOf e) | _ => true) = true)
    (hpar : fn.params.all (· < P.types.size) = true) {tb : TypeId} (hres : fn.resultTypes = #[tb]) (hb : P.underlying tb = some .bool)
    (hvars : s.vars = []) (hfn : s.fn H ds = { results := [.lit (.bool true)], args := ds })
    (hW : DataW.Whole enc P fn.params.toList s.vars false W args.toList ds [] before) (hr : RVs G0 W avs args.toList) (hc : DCall P f avs (fun _ => false) 0 (B true) tok' nt') :
    Calls P f args W fun e W' => ∃ v, e = .returned v ∧ s.post enc P fn false true false false W args v W' := by
  have hcall := (hc (fun _ => none) 0).2 G0 W args.toList (relM_start W) hr
  simp only [Array.toArray_toList] at hcall
  refine hcall.mono ?_
  rintro e W' ⟨v, av, m', G', rfl, ⟨rfl, rfl⟩, _, _, hv, hle, _⟩
  cases hv with
  | d hv =>
    cases hv with
    | raw =>
      refine ⟨_, rfl, ?_⟩
      have hlt := hW.lt
      have hWW := hW
      obtain ⟨p, q, hA, hV, rfl, hfz, hnd⟩ := hW
      rw [hvars] at hV
      obtain ⟨_, rfl⟩ := trodVars_none hV
      simp only [List.append_nil] at hlt hfz hWW ⊢
      have hT : ∀ t ∈ fn.params.toList, t < P.types.size := fun t ht => by
        have := Array.all_eq_true_iff_forall_mem.1 hpar t (by simpa using ht)
        simpa using this
      have hsz : ∀ {t e : TypeId}, t < P.types.size → P.underlying t = some (.slice e) → 0 < P.cellsOf e := by
        intro t e ht hu
        have := List.all_eq_true.1 hz t (List.mem_range.2 ht)
        rw [hu] at this
        simpa using this
      have hargs : ∀ sp : Nat → Bool, (∀ x ∈ p, sp x.block = true) → DataW.TrodAll enc P W' 0 sp true fn.params.toList args.toList ds p := fun sp hsp =>
        trodAll_stays (kids_rows hl hm) hsz hT hA (fun x hx => le_same hle (hlt x hx)) hsp
      have hnat : (Value.bool true).resultList fn.resultTypes.size = [.bool true] := by rw [hres]; rfl
      have hresb : ∀ (b : Nat) (sp : Nat → Bool) (hd : Bool), DataW.TrodAll enc P W' b sp hd fn.resultTypes.toList ((Value.bool true).resultList fn.resultTypes.size) [.lit (.bool true)] [] := fun b sp hd => by
        rw [hnat, hres]
        exact trodAll_mk1 ⟨1, by simp [DataW.trod, hb, Value.cells]⟩
      have hfn' : s.fn H (ds ++ []) = { results := [.lit (.bool true)], args := ds } := by rw [List.append_nil]; exact hfn
      refine ⟨ds, [], p, [], p, [], hWW, ?_, ?_, ?_, World.keptBut_mono (fun _ f => f.elim) (le_kept hle fun _ => False), fun h => by cases h⟩
      · rw [hfn']; exact hresb _ _ _
      · rw [hfn']; exact hargs _ fun x hx => by simpa using hlt x hx
      · rw [hfn', hvars]; exact rfl
end Go.AM
/-
  What the arguments of this chapter's statements read as: graphs, morphisms, overlaps.
-/
namespace Go.AM
open Go Go.Proofs

theorem own0 : ownKnob Try.prog.godebug = none := by kernel_rfl
theorem laidOut0 : laidOutB Try.prog = true := by kernel_rfl
theorem mapsRowed0 : mapsRowed Try.prog = true := by kernel_rfl
theorem slices0 : ((List.range Try.prog.types.size).all fun t => match Try.prog.underlying t with | some (.slice e) => decide (0 < Try.prog.cellsOf e) | _ => true) = true := by kernel_rfl

def rdInt : Rdr Try.prog 3 Int := Rdr.int (k := .i64) Try.underlying3 (by kernel_rfl)
def rdInts : Rdr Try.prog 22 (List Int) := rdInt.sliceN 1 Try.underlying22 (by kernel_rfl) (by kernel_rfl)
def rdEdge0 : Rdr Try.prog 78 (Int × Int × Int) := Rdr.struct3 rdInt rdInt rdInt Try.underlying78 rfl rfl rfl rfl (by kernel_rfl) (by kernel_rfl) (by kernel_rfl)
def rdEdge : Rdr Try.prog 78 E := rdEdge0.map (fun x => ⟨x.1, x.2.1, x.2.2⟩) E.cells (fun _ => True) (fun _ => rfl) (fun _ _ => trivial) (fun _ => by kernel_rfl)
def rdEdges : Rdr Try.prog 23 (List E) := rdEdge.sliceN 3 Try.underlying23 (by kernel_rfl) (by kernel_rfl)
def rdGraph0 : Rdr Try.prog 25 (List Int × List E) := Rdr.struct2 rdInts rdEdges Try.underlying25 rfl rfl rfl (by kernel_rfl) (by kernel_rfl)
def rdGraph : Rdr Try.prog 25 Gr := rdGraph0.map (fun x => ⟨x.1, x.2⟩) (fun g => [ints g.nodes, AM.edges g.edges]) (fun _ => True) (fun _ => rfl) (fun _ _ => trivial) (fun _ => by kernel_rfl)

theorem rdGraph_enc (g : Gr) : rdGraph.enc g = [ints g.nodes, AM.edges g.edges] := rfl

set_option maxRecDepth 100000 in
theorem arg_graph {ps : Array TypeId} {args : Array Value} {W : World} {base base' : Nat} {sp : Nat → Bool} {held : Bool} {H : Type} {enc : TypeId × Value → H} (hval : ∀ (j : Nat) t v, ps[j]? = some t → args[j]? = some v → Value.okWide Try.prog W .any base t v)
    (j : Nat) (v : Value) (hp : ps[j]? = some 25) (ha : args[j]? = some v) {d : DataW H} {p : List MemPlace} (h : DataW.Trod enc Try.prog W base' sp held 25 v d p) (hli : Light Try.prog 25 d) : ∃ g : Gr, RV G0 W g.av v := by
  refine Exists.elim (arg_agg hval j 25 v hp ha rdGraph aggT_25 h hli) fun g hg => ⟨g, ?_⟩
  exact hg.2
end Go.AM
