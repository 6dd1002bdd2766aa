/-
  The abstract machine, first part: data, ghost state, and what it means that a value in memory reads as data. No program in sight.
-/
import Derived.WalkKit
namespace Go.AM
open Go

/-- Data that never changes any more: a one-cell value, or a slice as the list of its elements, each a list of its cells. -/
inductive D where
  | raw (v : Value)
  | sl (sz : Nat) (es : List (List D))
  deriving Inhabited

/-- How a slice may be appended to: 'full': its capacity is its length; 'tok t': token t says that its block ends just where it ends, or that it is full. -/
inductive Own where
  | full
  | tok (t : Nat)

/-- What a slot of the abstract machine holds. -/
inductive AV where
  | bot
  | d (x : D)
  | osl (sz : Nat) (es : List (List D)) (o : Own)
  | ptr (k i off : Nat)
  | cptr (cs : List D) (off : Nat)
  | msl (k off n sz : Nat)
  | fn (f : Fn) (caps : List AV)
  | agg (cs : List AV)
  | tup (vs : List AV)

instance : Inhabited AV := ⟨.bot⟩

inductive BK where
  | whole
  | part (f c : Nat)
  | box

structure Gh where
  bx : Nat → Option (Nat × Nat)
  tk : Nat → Option (Option Nat)
  kind : Nat → BK
  nt : Nat

/-- The cells that never change. -/
def Gh.ps (G : Gh) (a : Addr) : Prop := match G.kind a.block with
  | .whole => True
  | .part f _ => a.off < f
  | .box => False

/-- A value reads as data, out of cells that never change. -/
inductive RVd (c : Addr → Option Value) (ps : Addr → Prop) : D → Value → Prop
  | raw {v : Value} (h : v.oneCell' = true) : RVd c ps (.raw v) v
  | sl {sz : Nat} {es : List (List D)} {A : Option Addr} {cap : Nat} (u : Nat → Nat → Value) (hcap : es.length ≤ cap) (hmax : cap ≤ maxLen)
      (hsz : ∀ e ∈ es, e.length = sz) (hA : es ≠ [] → ∃ a, A = some a)
      (hc : ∀ a, A = some a → ∀ i j, i < es.length → j < sz → ps (a.add (i * sz + j)) ∧ c (a.add (i * sz + j)) = some (u i j))
      (hr : ∀ i j (hi : i < es.length) (hj : j < es[i].length), RVd c ps es[i][j] (u i j)) :
      RVd c ps (.sl sz es) (.slice A es.length cap)

theorem RVd.mono {c c' : Addr → Option Value} {ps ps' : Addr → Prop} (h : ∀ a u, ps a → c a = some u → ps' a ∧ c' a = some u) {x : D} {v : Value}
    (r : RVd c ps x v) : RVd c' ps' x v := by
  induction r with
  | raw h1 => exact .raw h1
  | sl u hcap hmax hsz hA hc hr ih =>
    exact .sl u hcap hmax hsz hA (fun a ha i j hi hj => h _ _ (hc a ha i j hi hj).1 (hc a ha i j hi hj).2) ih

def OwnR (G : Gh) (sz : Nat) (n : Nat) (o : Own) (v : Value) : Prop := match o with
  | .full => ∃ A, v = .slice A n n
  | .tok t => t < G.nt ∧ ∀ x, G.tk t = some x → match x with
      | none => ∃ A, v = .slice A n n
      | some g => ∃ cap, v = .slice (some ⟨g, 0, none⟩) n cap ∧ G.kind g = .part (n * sz) (cap * sz)

inductive RV (G : Gh) (w : World) : AV → Value → Prop
  | bot {v : Value} : RV G w .bot v
  | d {x : D} {v : Value} (h : RVd w.cell? G.ps x v) : RV G w (.d x) v
  | osl {sz : Nat} {es : List (List D)} {o : Own} {v : Value} (h : RVd w.cell? G.ps (.sl sz es) v) (ho : OwnR G sz es.length o v) : RV G w (.osl sz es o) v
  | ptr {k i off b sz : Nat} (h : G.bx k = some (b, sz)) : RV G w (.ptr k i off) (.pointer (some ⟨b, i * sz + off, none⟩))
  | cptr {cs : List D} {off : Nat} (a : Addr) (u : Nat → Value) (hc : ∀ j, j < cs.length → G.ps (a.add j) ∧ w.cell? (a.add j) = some (u j))
      (hr : ∀ j (hj : j < cs.length), RVd w.cell? G.ps cs[j] (u j)) : RV G w (.cptr cs off) (.pointer (some (a.add off)))
  | msl {k off n b sz cap : Nat} (h : G.bx k = some (b, sz)) (hn : n ≤ cap) (hc : cap ≤ maxLen) : RV G w (.msl k off n sz) (.slice (some ⟨b, off * sz, none⟩) n cap)
  | fn {f : Fn} {caps : List AV} {vs : List Value} (hl : caps.length = vs.length) (h : ∀ i (h1 : i < caps.length) (h2 : i < vs.length), RV G w caps[i] vs[i]) :
      RV G w (.fn f caps) (.func f #[] vs.toArray)
  | agg {cs : List AV} {vs : List Value} (hl : cs.length = vs.length) (h : ∀ i (h1 : i < cs.length) (h2 : i < vs.length), RV G w cs[i] vs[i])
      (h1 : ∀ v ∈ vs, v.oneCell' = true) : RV G w (.agg cs) (.agg vs.toArray)
  | tup {cs : List AV} {vs : List Value} (hl : cs.length = vs.length) (h : ∀ i (h1 : i < cs.length) (h2 : i < vs.length), RV G w cs[i] vs[i]) :
      RV G w (.tup cs) (.tuple vs.toArray)

/-- From the one ghost and world to a later one: what never changes has not changed, boxes stay where they are, tokens may be spent. -/
structure Le (G : Gh) (w : World) (G' : Gh) (w' : World) : Prop where
  os : w'.os = w.os
  tape : w'.tape = w.tape
  output : w'.output = w.output
  size : w.heap.size ≤ w'.heap.size
  whole : ∀ b, b < w.heap.size → G.kind b = .whole → G'.kind b = .whole ∧ w'.heap[b]? = w.heap[b]?
  part : ∀ b f c, G.kind b = .part f c → (∃ f', f ≤ f' ∧ G'.kind b = .part f' c) ∧ ∀ a : Addr, a.block = b → a.off < f → w'.cell? a = w.cell? a
  bx : ∀ k x, G.bx k = some x → G'.bx k = some x
  nt : G.nt ≤ G'.nt
  tk : ∀ t, t < G.nt → G'.tk t = none ∨ (G'.tk t = G.tk t ∧ ∀ g, G.tk t = some (some g) → G'.kind g = G.kind g)

theorem Le.refl (G : Gh) (w : World) : Le G w G w :=
  ⟨rfl, rfl, rfl, Nat.le_refl _, fun _ _ h => ⟨h, rfl⟩, fun _ f _ h => ⟨⟨f, Nat.le_refl _, h⟩, fun _ _ _ => rfl⟩, fun _ _ h => h, Nat.le_refl _, fun _ _ => .inr ⟨rfl, fun _ _ => rfl⟩⟩

theorem Le.trans {G1 G2 G3 : Gh} {w1 w2 w3 : World} (h : Le G1 w1 G2 w2) (k : Le G2 w2 G3 w3) : Le G1 w1 G3 w3 where
  os := k.os.trans h.os
  tape := k.tape.trans h.tape
  output := k.output.trans h.output
  size := Nat.le_trans h.size k.size
  whole b hb hk := by
    obtain ⟨h1, h2⟩ := h.whole b hb hk
    obtain ⟨k1, k2⟩ := k.whole b (Nat.lt_of_lt_of_le hb h.size) h1
    exact ⟨k1, k2.trans h2⟩
  part b f c hk := by
    obtain ⟨⟨f1, hf1, h1⟩, h2⟩ := h.part b f c hk
    obtain ⟨⟨f2, hf2, k1⟩, k2⟩ := k.part b f1 c h1
    exact ⟨⟨f2, Nat.le_trans hf1 hf2, k1⟩, fun a ha ho => (k2 a ha (Nat.lt_of_lt_of_le ho hf1)).trans (h2 a ha ho)⟩
  bx j x hx := k.bx j x (h.bx j x hx)
  nt := Nat.le_trans h.nt k.nt
  tk t ht := by
    rcases k.tk t (Nat.lt_of_lt_of_le ht h.nt) with k1 | ⟨k1, k2⟩
    · exact .inl k1
    · rcases h.tk t ht with h1 | ⟨h1, h2⟩
      · exact .inl (k1.trans h1)
      · exact .inr ⟨k1.trans h1, fun g hg => (k2 g (h1.trans hg)).trans (h2 g hg)⟩

theorem lt_of_cell {w : World} {a : Addr} {u : Value} (h : w.cell? a = some u) : a.block < w.heap.size := World.block_lt_of_cell? w a h

theorem Le.cells {G G' : Gh} {w w' : World} (h : Le G w G' w') (a : Addr) (u : Value) (hp : G.ps a) (hc : w.cell? a = some u) : G'.ps a ∧ w'.cell? a = some u := by
  unfold Gh.ps at hp ⊢
  cases hk : G.kind a.block with
  | whole =>
    obtain ⟨h1, h2⟩ := h.whole a.block (lt_of_cell hc) hk
    rw [h1]
    exact ⟨trivial, by rw [World.cell?_of_block (w := w) h2]; exact hc⟩
  | part f c =>
    rw [hk] at hp
    obtain ⟨⟨f', hf, h1⟩, h2⟩ := h.part a.block f c hk
    rw [h1]
    exact ⟨Nat.lt_of_lt_of_le hp hf, (h2 a rfl hp).trans hc⟩
  | box => rw [hk] at hp; exact hp.elim

theorem OwnR.mono {G G' : Gh} {w w' : World} (h : Le G w G' w') {sz n : Nat} {o : Own} {v : Value} (r : OwnR G sz n o v) : OwnR G' sz n o v := by
  cases o with
  | full => exact r
  | tok t =>
    obtain ⟨r1, r2⟩ := r
    refine ⟨Nat.lt_of_lt_of_le r1 h.nt, fun x hx => ?_⟩
    rcases h.tk t r1 with k | ⟨k, k2⟩
    · rw [k] at hx; cases hx
    · have := r2 x (k ▸ hx)
      cases x with
      | none => exact this
      | some g =>
        obtain ⟨cap, hv, hg⟩ := this
        exact ⟨cap, hv, (k2 g (k ▸ hx)).trans hg⟩

theorem RV.mono {G G' : Gh} {w w' : World} (h : Le G w G' w') {x : AV} {v : Value} (r : RV G w x v) : RV G' w' x v := by
  induction r with
  | bot => exact .bot
  | d h1 => exact .d (h1.mono h.cells)
  | osl h1 h2 => exact .osl (h1.mono h.cells) (h2.mono h)
  | ptr h1 => exact .ptr (h.bx _ _ h1)
  | cptr a u hc hr => exact .cptr a u (fun j hj => h.cells _ _ (hc j hj).1 (hc j hj).2) (fun j hj => (hr j hj).mono h.cells)
  | msl h1 h2 h3 => exact .msl (h.bx _ _ h1) h2 h3
  | fn hl _ ih => exact .fn hl ih
  | agg hl _ h1 ih => exact .agg hl ih h1
  | tup hl _ ih => exact .tup hl ih

/-- Lists of slots, or of cells, read one by one. -/
def RVs (G : Gh) (w : World) (xs : List AV) (vs : List Value) : Prop := xs.length = vs.length ∧ ∀ i (h1 : i < xs.length) (h2 : i < vs.length), RV G w xs[i] vs[i]

theorem RVs.mono {G G' : Gh} {w w' : World} (h : Le G w G' w') {xs : List AV} {vs : List Value} (r : RVs G w xs vs) : RVs G' w' xs vs :=
  ⟨r.1, fun i h1 h2 => (r.2 i h1 h2).mono h⟩

theorem RVs.nil {G : Gh} {w : World} : RVs G w [] [] := ⟨rfl, fun _ h => by simp at h⟩
theorem RVs.cons {G : Gh} {w : World} {x : AV} {v : Value} {xs : List AV} {vs : List Value} (h : RV G w x v) (r : RVs G w xs vs) : RVs G w (x :: xs) (v :: vs) :=
  ⟨by simp [r.1], fun i h1 h2 => by
    cases i with
    | zero => exact h
    | succ i => exact r.2 i (by simpa using h1) (by simpa using h2)⟩
theorem RVs.append {G : Gh} {w : World} {xs ys : List AV} {vs us : List Value} (h : RVs G w xs vs) (k : RVs G w ys us) : RVs G w (xs ++ ys) (vs ++ us) := by
  refine ⟨by simp [h.1, k.1], fun i h1 h2 => ?_⟩
  by_cases hi : i < xs.length
  · rw [List.getElem_append_left hi, List.getElem_append_left (by rw [← h.1]; exact hi)]
    exact h.2 i hi _
  · have hl := h.1
    rw [List.getElem_append_right (by omega), List.getElem_append_right (by omega)]
    have := k.2 (i - xs.length) (by simp at h1; omega) (by have := k.1; simp at h1; omega)
    simpa [hl] using this
theorem RVs.take {G : Gh} {w : World} {xs : List AV} {vs : List Value} (h : RVs G w xs vs) (n : Nat) : RVs G w (xs.take n) (vs.take n) :=
  ⟨by simp [h.1], fun i h1 h2 => by
    simp only [List.getElem_take]
    exact h.2 i (by simp at h1; omega) (by simp at h2; omega)⟩
theorem RVs.drop {G : Gh} {w : World} {xs : List AV} {vs : List Value} (h : RVs G w xs vs) (n : Nat) : RVs G w (xs.drop n) (vs.drop n) :=
  ⟨by simp [h.1], fun i h1 h2 => by
    simp only [List.getElem_drop]
    exact h.2 (n + i) (by simp at h1; omega) (by simp at h2; omega)⟩
theorem RVs.get {G : Gh} {w : World} {xs : List AV} {vs : List Value} (h : RVs G w xs vs) {i : Nat} {x : AV} (hx : xs[i]? = some x) : ∃ v, vs[i]? = some v ∧ RV G w x v := by
  obtain ⟨hi, rfl⟩ := List.getElem?_eq_some_iff.1 hx
  have hv : i < vs.length := by rw [← h.1]; exact hi
  exact ⟨vs[i], List.getElem?_eq_getElem hv, h.2 i hi hv⟩

structure AMem where
  box : Nat → Option (List (List AV))
  nb : Nat
  tok : Nat → Bool
  nt : Nat

structure RelM (G : Gh) (m : AMem) (w : World) : Prop where
  box : ∀ k rows b sz, m.box k = some rows → G.bx k = some (b, sz) → G.kind b = .box ∧ ∃ cs e, w.heap[b]? = some (.cells cs e (0, 0)) ∧ (∀ r ∈ rows, r.length = sz) ∧ RVs G w rows.flatten cs.toList ∧ (∀ v ∈ cs.toList, v.oneCell' = true)
  nobox : ∀ k, m.box k = none → G.bx k = none
  inj : ∀ k k' b sz sz', G.bx k = some (b, sz) → G.bx k' = some (b, sz') → k = k'
  nb : ∀ k, m.nb ≤ k → m.box k = none
  nt : G.nt = m.nt
  toks : ∀ t, m.tok t = true → t < m.nt ∧ ∃ x, G.tk t = some x
  tokb : ∀ t g, G.tk t = some (some g) → ∃ f cur e, G.kind g = .part f cur.size ∧ w.heap[g]? = some (.cells cur e (0, 0))
  tinj : ∀ t t' g, G.tk t = some (some g) → G.tk t' = some (some g) → t = t'
  tnt : ∀ t x, G.tk t = some x → t < G.nt
  fresh : ∀ b, w.heap.size ≤ b → G.kind b = .whole

end Go.AM
