/-
 Parts of the proof, as merged from many texts: a machine over data, what the functions compute, plain laws.
-/
import Derived.WalkKit
import Derived.Laws.CopyRow
import Derived.Lib.AppendStr
set_option linter.unusedSimpArgs false
set_option linter.unusedVariables false
namespace Go.AM
open Go
inductive D where
 | raw (v : Value)
 | sl (sz : Nat) (es : List (List D))
 deriving Inhabited
inductive Own where
 | full
 | tok (t : Nat)
inductive AV where
 | bot
 | d (x : D)
 | osl (sz : Nat) (es : List (List D)) (o : Own)
 | ptr (k i off : Nat)
 | cptr (cs : List D) (off : Nat)
 | msl (k off n sz : Nat)
 | fn (f : Fn) (caps : List AV)
 | agg (cs : List AV)
 | tup (vs : List AV)
 | ex (t sz : Nat) (es : List (List D))
 | buf (E : TypeId) (t : Nat) (es : List (List D))
 | stk (t sz : Nat) (es : List (List D))
 | here (k : Nat) (T : TypeId)
instance : Inhabited AV := ⟨.bot⟩
inductive BK where
 | whole
 | part (f c : Nat)
 | box
 | ex
structure Gh where
 bx : Nat → Option (Nat × Nat)
 tk : Nat → Option (Option Nat)
 kind : Nat → BK
 nt : Nat
def Gh.ps (G : Gh) (a : Addr) : Prop := match G.kind a.block with
 | .whole => True
 | .part f _ => a.off < f
 | .box => False
 | .ex => False
inductive RVd (c : Addr → Option Value) (ps : Addr → Prop) : D → Value → Prop
 | raw {v : Value} (h : v.oneCell' = true) : RVd c ps (.raw v) v
 | sl {sz : Nat} {es : List (List D)} {A : Option Addr} {cap : Nat} (u : Nat → Nat → Value) (hcap : es.length ≤ cap) (hmax : cap ≤ maxLen)
   (hsz : ∀ e ∈ es, e.length = sz) (hA : es ≠ [] → ∃ a, A = some a)
   (hc : ∀ a, A = some a → ∀ i j, i < es.length → j < sz → ps (a.add (i * sz + j)) ∧ c (a.add (i * sz + j)) = some (u i j))
   (hr : ∀ i j (hi : i < es.length) (hj : j < es[i].length), RVd c ps es[i][j] (u i j)) :
   RVd c ps (.sl sz es) (.slice A es.length cap)
theorem RVd.mono {c c' : Addr → Option Value} {ps ps' : Addr → Prop} (h : ∀ a u, ps a → c a = some u → ps' a ∧ c' a = some u) {x : D} {v : Value}
  (r : RVd c ps x v) : RVd c' ps' x v := by
 induction r with
 | raw h1 => exact .raw h1
 | sl u hcap hmax hsz hA hc hr ih =>
  exact .sl u hcap hmax hsz hA (fun a ha i j hi hj => h _ _ (hc a ha i j hi hj).1 (hc a ha i j hi hj).2) ih
def OwnR (G : Gh) (sz : Nat) (n : Nat) (o : Own) (v : Value) : Prop := match o with
 | .full => ∃ A, v = .slice A n n ∧ (sz = 0 → A = none)
 | .tok t => t < G.nt ∧ ∀ x, G.tk t = some x → match x with
   | none => ∃ A, v = .slice A n n
   | some g => ∃ cap, v = .slice (some ⟨g, 0, none⟩) n cap ∧ G.kind g = .part (n * sz) (cap * sz)
def ExR (G : Gh) (w : World) (t sz : Nat) (es : List (List D)) (v : Value) : Prop := t < G.nt ∧ (∃ A n c, v = .slice A n c) ∧ ∀ x, G.tk t = some x → ∃ g cap cs e, x = some g ∧ v = .slice (some ⟨g, 0, none⟩) es.length cap ∧ es.length ≤ cap ∧ cap ≤ maxLen ∧ G.kind g = .ex ∧
 w.heap[g]? = some (.cells cs e (0, 0)) ∧ (∀ r ∈ es, r.length = sz) ∧ es.flatten.length = cs.toList.length ∧ (∀ i (h1 : i < es.flatten.length) (h2 : i < cs.toList.length), RVd w.cell? G.ps es.flatten[i] cs.toList[i]) ∧ ∀ v ∈ cs.toList, v.oneCell' = true
structure FlatV (c : Addr → Option Value) (ps : Addr → Prop) (sz : Nat) (es : List (List D)) (vs : List Value) : Prop where
 len : vs.length = es.length * sz
 one : ∀ u ∈ vs, u.oneCell' = true
 each : ∀ e ∈ es, e.length = sz
 read : ∀ i j (hi : i < es.length) (hj : j < es[i].length), ∃ u, vs[i * sz + j]? = some u ∧ RVd c ps es[i][j] u
theorem FlatV.mono {c c' : Addr → Option Value} {ps ps' : Addr → Prop} (h : ∀ a u, ps a → c a = some u → ps' a ∧ c' a = some u) {sz : Nat} {es : List (List D)} {vs : List Value} (r : FlatV c ps sz es vs) : FlatV c' ps' sz es vs where
 len := r.len
 one := r.one
 each := r.each
 read i j hi hj := let ⟨u, hu, hr⟩ := r.read i j hi hj; ⟨u, hu, hr.mono h⟩
def StkR (G : Gh) (w : World) (t sz : Nat) (es : List (List D)) (v : Value) : Prop := t < G.nt ∧ ∃ A cap, v = .slice A es.length cap ∧ es.length ≤ cap ∧ cap ≤ maxLen ∧ ∀ x, G.tk t = some x → match x with
 | none => cap = 0
 | some g => A = some ⟨g, 0, none⟩ ∧ ∃ vs sp e, G.kind g = .ex ∧ w.heap[g]? = some (.cells (vs ++ sp).toArray e (0, 0)) ∧ (vs ++ sp).length = cap * sz ∧ FlatV w.cell? G.ps sz es vs ∧ ∀ u ∈ sp, u.oneCell' = true
inductive RV (G : Gh) (w : World) : AV → Value → Prop
 | bot {v : Value} : RV G w .bot v
 | d {x : D} {v : Value} (h : RVd w.cell? G.ps x v) : RV G w (.d x) v
 | osl {sz : Nat} {es : List (List D)} {o : Own} {v : Value} (h : RVd w.cell? G.ps (.sl sz es) v) (ho : OwnR G sz es.length o v) : RV G w (.osl sz es o) v
 | ptr {k i off b sz : Nat} (h : G.bx k = some (b, sz)) : RV G w (.ptr k i off) (.pointer (some ⟨b, i * sz + off, none⟩))
 | cptr {cs : List D} {off : Nat} (a : Addr) (u : Nat → Value) (hc : ∀ j, j < cs.length → G.ps (a.add j) ∧ w.cell? (a.add j) = some (u j))
   (hr : ∀ j (hj : j < cs.length), RVd w.cell? G.ps cs[j] (u j)) : RV G w (.cptr cs off) (.pointer (some (a.add off)))
 | msl {k off n b sz cap : Nat} (h : G.bx k = some (b, sz)) (hn : n ≤ cap) (hc : cap ≤ maxLen) : RV G w (.msl k off n sz) (.slice (some ⟨b, off * sz, none⟩) n cap)
 | fn {f : Fn} {caps : List AV} {vs : List Value} (hl : caps.length = vs.length) (h : ∀ i (h1 : i < caps.length) (h2 : i < vs.length), RV G w caps[i] vs[i]) :
   RV G w (.fn f caps) (.func f #[] vs.toArray)
 | agg {cs : List AV} {vs : List Value} (hl : cs.length = vs.length) (h : ∀ i (h1 : i < cs.length) (h2 : i < vs.length), RV G w cs[i] vs[i])
   (h1 : ∀ v ∈ vs, v.oneCell' = true) : RV G w (.agg cs) (.agg vs.toArray)
 | tup {cs : List AV} {vs : List Value} (hl : cs.length = vs.length) (h : ∀ i (h1 : i < cs.length) (h2 : i < vs.length), RV G w cs[i] vs[i]) :
   RV G w (.tup cs) (.tuple vs.toArray)
 | ex {t sz : Nat} {es : List (List D)} {v : Value} (h : ExR G w t sz es v) : RV G w (.ex t sz es) v
 | buf {E : TypeId} {t : Nat} {es : List (List D)} {v : Value} (h : RVd w.cell? G.ps (.sl 1 es) v) (ho : OwnR G 1 es.length (.tok t) v) (hn : G.tk t ≠ some none)
   (he : ∀ g, G.tk t = some (some g) → ∃ cs f, w.heap[g]? = some (.cells cs E f)) : RV G w (.buf E t es) v
 | stk {t sz : Nat} {es : List (List D)} {v : Value} (h : StkR G w t sz es v) : RV G w (.stk t sz es) v
 | here {k b sz : Nat} {T : TypeId} {cs : Array Value} {f : Nat × Nat} (h : G.bx k = some (b, sz)) (ht : w.heap[b]? = some (.cells cs T f)) : RV G w (.here k T) (.pointer none)
structure Le (G : Gh) (w : World) (G' : Gh) (w' : World) : Prop where
 os : w'.os = w.os
 tape : w'.tape = w.tape
 output : w'.output = w.output
 size : w.heap.size ≤ w'.heap.size
 whole : ∀ b, b < w.heap.size → G.kind b = .whole → G'.kind b = .whole ∧ w'.heap[b]? = w.heap[b]?
 part : ∀ b f c, G.kind b = .part f c → (∃ f', f ≤ f' ∧ G'.kind b = .part f' c) ∧ ∀ a : Addr, a.block = b → a.off < f → w'.cell? a = w.cell? a
 bx : ∀ k x, G.bx k = some x → G'.bx k = some x
 nt : G.nt ≤ G'.nt
 tk : ∀ t, t < G.nt → G'.tk t = none ∨ (G'.tk t = G.tk t ∧ ∀ g, G.tk t = some (some g) → G'.kind g = G.kind g ∧ (G.kind g = .ex → w'.heap[g]? = w.heap[g]?))
 ty : ∀ (b : Nat) cs T f, w.heap[b]? = some (.cells cs T f) → ∃ cs' f', w'.heap[b]? = some (.cells cs' T f')
theorem Le.refl (G : Gh) (w : World) : Le G w G w :=
 ⟨rfl, rfl, rfl, Nat.le_refl _, fun _ _ h => ⟨h, rfl⟩, fun _ f _ h => ⟨⟨f, Nat.le_refl _, h⟩, fun _ _ _ => rfl⟩, fun _ _ h => h, Nat.le_refl _, fun _ _ => .inr ⟨rfl, fun _ _ => ⟨rfl, fun _ => rfl⟩⟩, fun _ _ _ _ h => ⟨_, _, h⟩⟩
theorem Le.trans {G1 G2 G3 : Gh} {w1 w2 w3 : World} (h : Le G1 w1 G2 w2) (k : Le G2 w2 G3 w3) : Le G1 w1 G3 w3 where
 os := k.os.trans h.os
 tape := k.tape.trans h.tape
 output := k.output.trans h.output
 size := Nat.le_trans h.size k.size
 whole b hb hk := by
  obtain ⟨h1, h2⟩ := h.whole b hb hk
  obtain ⟨k1, k2⟩ := k.whole b (Nat.lt_of_lt_of_le hb h.size) h1
  exact ⟨k1, k2.trans h2⟩
 part b f c hk := by
  obtain ⟨⟨f1, hf1, h1⟩, h2⟩ := h.part b f c hk
  obtain ⟨⟨f2, hf2, k1⟩, k2⟩ := k.part b f1 c h1
  exact ⟨⟨f2, Nat.le_trans hf1 hf2, k1⟩, fun a ha ho => (k2 a ha (Nat.lt_of_lt_of_le ho hf1)).trans (h2 a ha ho)⟩
 bx j x hx := k.bx j x (h.bx j x hx)
 nt := Nat.le_trans h.nt k.nt
 tk t ht := by
  rcases k.tk t (Nat.lt_of_lt_of_le ht h.nt) with k1 | ⟨k1, k2⟩
  ·exact .inl k1
  ·rcases h.tk t ht with h1 | ⟨h1, h2⟩
   ·exact .inl (k1.trans h1)
   ·exact .inr ⟨k1.trans h1, fun g hg => by
     obtain ⟨a1, a2⟩ := h2 g hg
     obtain ⟨b1, b2⟩ := k2 g (h1.trans hg)
     exact ⟨b1.trans a1, fun he => (b2 (a1.trans he)).trans (a2 he)⟩⟩
 ty b cs T f hb := by
  obtain ⟨_, _, h1⟩ := h.ty b cs T f hb
  exact k.ty b _ T _ h1
theorem lt_of_cell {w : World} {a : Addr} {u : Value} (h : w.cell? a = some u) : a.block < w.heap.size := World.block_lt_of_cell? w a h
theorem Le.cells {G G' : Gh} {w w' : World} (h : Le G w G' w') (a : Addr) (u : Value) (hp : G.ps a) (hc : w.cell? a = some u) : G'.ps a ∧ w'.cell? a = some u := by
 unfold Gh.ps at hp ⊢
 cases hk : G.kind a.block with
 | whole =>
  obtain ⟨h1, h2⟩ := h.whole a.block (lt_of_cell hc) hk
  rw [h1]
  exact ⟨trivial, by rw [World.cell?_of_block (w := w) h2]; exact hc⟩
 | part f c =>
  rw [hk] at hp
  obtain ⟨⟨f', hf, h1⟩, h2⟩ := h.part a.block f c hk
  rw [h1]
  exact ⟨Nat.lt_of_lt_of_le hp hf, (h2 a rfl hp).trans hc⟩
 | box => rw [hk] at hp; exact hp.elim
 | ex => rw [hk] at hp; exact hp.elim
theorem OwnR.mono {G G' : Gh} {w w' : World} (h : Le G w G' w') {sz n : Nat} {o : Own} {v : Value} (r : OwnR G sz n o v) : OwnR G' sz n o v := by
 cases o with
 | full => exact r
 | tok t =>
  obtain ⟨r1, r2⟩ := r
  refine ⟨Nat.lt_of_lt_of_le r1 h.nt, fun x hx => ?_⟩
  rcases h.tk t r1 with k | ⟨k, k2⟩
  ·rw [k] at hx; cases hx
  ·have := r2 x (k ▸ hx)
   cases x with
   | none => exact this
   | some g =>
    obtain ⟨cap, hv, hg⟩ := this
    exact ⟨cap, hv, (k2 g (k ▸ hx)).1.trans hg⟩
theorem ExR.mono {G G' : Gh} {w w' : World} (h : Le G w G' w') {t sz : Nat} {es : List (List D)} {v : Value} (r : ExR G w t sz es v) : ExR G' w' t sz es v := by
 obtain ⟨r1, r0, r2⟩ := r
 refine ⟨Nat.lt_of_lt_of_le r1 h.nt, r0, fun x hx => ?_⟩
 rcases h.tk t r1 with k | ⟨k, k2⟩
 ·rw [k] at hx; cases hx
 ·obtain ⟨g, cap, cs, e, rfl, h2, h3, h4, h5, h6, h7, h8, h9, h10⟩ := r2 x (k ▸ hx)
  obtain ⟨b1, b2⟩ := k2 g (k ▸ hx)
  exact ⟨g, cap, cs, e, rfl, h2, h3, h4, b1.trans h5, (b2 h5).trans h6, h7, h8, fun i g1 g2 => (h9 i g1 g2).mono h.cells, h10⟩
theorem StkR.mono {G G' : Gh} {w w' : World} (h : Le G w G' w') {t sz : Nat} {es : List (List D)} {v : Value} (r : StkR G w t sz es v) : StkR G' w' t sz es v := by
 obtain ⟨r1, A, cap, hv, hc, hm, r2⟩ := r
 refine ⟨Nat.lt_of_lt_of_le r1 h.nt, A, cap, hv, hc, hm, fun x hx => ?_⟩
 rcases h.tk t r1 with k | ⟨k, k2⟩
 ·rw [k] at hx; cases hx
 ·have h0 := r2 x (k ▸ hx)
  cases x with
  | none => exact h0
  | some g =>
   obtain ⟨hA, vs, sp, e, h5, h6, h7, h8, h9⟩ := h0
   obtain ⟨b1, b2⟩ := k2 g (k ▸ hx)
   exact ⟨hA, vs, sp, e, b1.trans h5, (b2 h5).trans h6, h7, h8.mono h.cells, h9⟩
theorem RV.mono {G G' : Gh} {w w' : World} (h : Le G w G' w') {x : AV} {v : Value} (r : RV G w x v) : RV G' w' x v := by
 induction r with
 | bot => exact .bot
 | d h1 => exact .d (h1.mono h.cells)
 | osl h1 h2 => exact .osl (h1.mono h.cells) (h2.mono h)
 | ptr h1 => exact .ptr (h.bx _ _ h1)
 | cptr a u hc hr => exact .cptr a u (fun j hj => h.cells _ _ (hc j hj).1 (hc j hj).2) (fun j hj => (hr j hj).mono h.cells)
 | msl h1 h2 h3 => exact .msl (h.bx _ _ h1) h2 h3
 | fn hl _ ih => exact .fn hl ih
 | agg hl _ h1 ih => exact .agg hl ih h1
 | tup hl _ ih => exact .tup hl ih
 | ex h1 => exact .ex (h1.mono h)
 | stk h1 => exact .stk (h1.mono h)
 | buf h1 h2 h3 h4 =>
  refine .buf (h1.mono h.cells) (h2.mono h) (fun e => ?_) fun g e => ?_
  ·rcases h.tk _ h2.1 with k | ⟨k, _⟩
   ·rw [k] at e; cases e
   ·exact h3 (k ▸ e)
  ·rcases h.tk _ h2.1 with k | ⟨k, _⟩
   ·rw [k] at e; cases e
   ·obtain ⟨_, _, h5⟩ := h4 g (k ▸ e)
    exact h.ty _ _ _ _ h5
 | here h1 h2 =>
  obtain ⟨_, _, h3⟩ := h.ty _ _ _ _ h2
  exact .here (h.bx _ _ h1) h3
def RVs (G : Gh) (w : World) (xs : List AV) (vs : List Value) : Prop := xs.length = vs.length ∧ ∀ i (h1 : i < xs.length) (h2 : i < vs.length), RV G w xs[i] vs[i]
theorem RVs.mono {G G' : Gh} {w w' : World} (h : Le G w G' w') {xs : List AV} {vs : List Value} (r : RVs G w xs vs) : RVs G' w' xs vs :=
 ⟨r.1, fun i h1 h2 => (r.2 i h1 h2).mono h⟩
theorem RVs.nil {G : Gh} {w : World} : RVs G w [] [] := ⟨rfl, fun _ h => by simp at h⟩
theorem RVs.cons {G : Gh} {w : World} {x : AV} {v : Value} {xs : List AV} {vs : List Value} (h : RV G w x v) (r : RVs G w xs vs) : RVs G w (x :: xs) (v :: vs) :=
 ⟨by simp [r.1], fun i h1 h2 => by
  cases i with
  | zero => exact h
  | succ i => exact r.2 i (by simpa using h1) (by simpa using h2)⟩
theorem RVs.append {G : Gh} {w : World} {xs ys : List AV} {vs us : List Value} (h : RVs G w xs vs) (k : RVs G w ys us) : RVs G w (xs ++ ys) (vs ++ us) := by
 refine ⟨by simp [h.1, k.1], fun i h1 h2 => ?_⟩
 by_cases hi : i < xs.length
 ·rw [List.getElem_append_left hi, List.getElem_append_left (by rw [← h.1]; exact hi)]
  exact h.2 i hi _
 ·have hl := h.1
  rw [List.getElem_append_right (by omega), List.getElem_append_right (by omega)]
  have := k.2 (i - xs.length) (by simp at h1; omega) (by have := k.1; simp at h1; omega)
  simpa [hl] using this
theorem RVs.take {G : Gh} {w : World} {xs : List AV} {vs : List Value} (h : RVs G w xs vs) (n : Nat) : RVs G w (xs.take n) (vs.take n) :=
 ⟨by simp [h.1], fun i h1 h2 => by
  simp only [List.getElem_take]
  exact h.2 i (by simp at h1; omega) (by simp at h2; omega)⟩
theorem RVs.drop {G : Gh} {w : World} {xs : List AV} {vs : List Value} (h : RVs G w xs vs) (n : Nat) : RVs G w (xs.drop n) (vs.drop n) :=
 ⟨by simp [h.1], fun i h1 h2 => by
  simp only [List.getElem_drop]
  exact h.2 (n + i) (by simp at h1; omega) (by simp at h2; omega)⟩
theorem RVs.get {G : Gh} {w : World} {xs : List AV} {vs : List Value} (h : RVs G w xs vs) {i : Nat} {x : AV} (hx : xs[i]? = some x) : ∃ v, vs[i]? = some v ∧ RV G w x v := by
 obtain ⟨hi, rfl⟩ := List.getElem?_eq_some_iff.1 hx
 have hv : i < vs.length := by rw [← h.1]; exact hi
 exact ⟨vs[i], List.getElem?_eq_getElem hv, h.2 i hi hv⟩
structure AMem where
 box : Nat → Option (List (List AV))
 nb : Nat
 tok : Nat → Bool
 nt : Nat
structure RelM (G : Gh) (m : AMem) (w : World) : Prop where
 box : ∀ k rows b sz, m.box k = some rows → G.bx k = some (b, sz) → G.kind b = .box ∧ ∃ cs e, w.heap[b]? = some (.cells cs e (0, 0)) ∧ (∀ r ∈ rows, r.length = sz) ∧ RVs G w rows.flatten cs.toList ∧ (∀ v ∈ cs.toList, v.oneCell' = true)
 nobox : ∀ k, m.box k = none → G.bx k = none
 inj : ∀ k k' b sz sz', G.bx k = some (b, sz) → G.bx k' = some (b, sz') → k = k'
 nb : ∀ k, m.nb ≤ k → m.box k = none
 nt : G.nt = m.nt
 toks : ∀ t, m.tok t = true → t < m.nt ∧ ∃ x, G.tk t = some x
 tokb : ∀ t g, G.tk t = some (some g) → ∃ f cur e, (G.kind g = .part f cur.size ∨ G.kind g = .ex) ∧ w.heap[g]? = some (.cells cur e (0, 0))
 tinj : ∀ t t' g, G.tk t = some (some g) → G.tk t' = some (some g) → t = t'
 tnt : ∀ t x, G.tk t = some x → t < G.nt
 fresh : ∀ b, w.heap.size ≤ b → G.kind b = .whole
end Go.AM
namespace Go.AM
open Go
def szOf (P : Program) (T : TypeId) : Option Nat := (P.info? T).map (·.size)
def bytesOf (P : Program) (T : TypeId) : Option Nat := (P.info? T).map (·.bytes)
def aggT (P : Program) (T : TypeId) : Option Bool := (P.underlying T).map fun | .struct _ => true | .array .. => true | _ => false
def elemT (P : Program) (T : TypeId) : Option TypeId := match P.underlying T with | some (.slice e) => some e | _ => none
def arrT (P : Program) (T : TypeId) : Option (Nat × TypeId) := match P.underlying T with | some (.array n e) => some (n, e) | _ => none
def fieldT (P : Program) (T : TypeId) (f : Nat) : Option (TypeId × Nat) := match P.underlying T with | some (.struct fs) => (fs[f]?).map fun x => (x.type, x.offset) | _ => none
def strT (P : Program) (T : TypeId) : Bool := match P.underlying T with | some .string => true | _ => false
def ofVal1 (v : Value) : AV := match v with
 | .slice none 0 0 => .osl 0 [] .full
 | .agg _ => .bot
 | .tuple _ => .bot
 | v => .d (.raw v)
def ofVal (v : Value) : AV := match v with
 | .agg cs => if cs.toList.all (·.oneCell') then .agg (cs.toList.map ofVal1) else .bot
 | v => ofVal1 v
def AV.cells? : AV → Option (List AV)
 | .bot => none
 | .tup _ => none
 | .agg cs => some cs
 | v => some [v]
def AV.toD : AV → Option D
 | .d x => some x
 | .osl sz es _ => some (.sl sz es)
 | _ => none
def toDs : List AV → Option (List D)
 | [] => some []
 | x :: r => match x.toD, toDs r with | some d, some ds => some (d :: ds) | _, _ => none
def rawsOf : List AV → Option (List Value)
 | [] => some []
 | .d (.raw v) :: r => (rawsOf r).map (v :: ·)
 | _ :: _ => none
def rawOf : AV → Option Value
 | .d (.raw v) => some v
 | .agg cs => (rawsOf cs).map fun l => .agg l.toArray
 | _ => none
def setCells {α : Type} (r : List α) (off : Nat) : List α → List α
 | [] => r
 | c :: cs => setCells (r.set off c) (off + 1) cs
def upd {α : Type} (f : Nat → α) (k : Nat) (v : α) : Nat → α := fun j => if j = k then v else f j
theorem upd_same {α : Type} (f : Nat → α) (k : Nat) (v : α) : upd f k v k = v := by simp [upd]
theorem upd_other {α : Type} (f : Nat → α) {k j : Nat} (v : α) (h : j ≠ k) : upd f k v j = f j := by simp [upd, h]
def AV.elems? : AV → Option (Nat × List (List D))
 | .d (.sl sz es) => some (sz, es)
 | .osl sz es _ => some (sz, es)
 | _ => none
theorem RV.elems {G : Gh} {w : World} {x : AV} {v : Value} {sz : Nat} {es : List (List D)} (h : RV G w x v) (he : x.elems? = some (sz, es)) : RVd w.cell? G.ps (.sl sz es) v := by
 cases h with
 | d h1 =>
  rename_i x
  cases x with
  | raw v => simp [AV.elems?] at he
  | sl s e => simp [AV.elems?] at he; obtain ⟨rfl, rfl⟩ := he; exact h1
 | osl h1 h2 => simp [AV.elems?] at he; obtain ⟨rfl, rfl⟩ := he; exact h1
 | bot => simp [AV.elems?] at he
 | ptr h => simp [AV.elems?] at he
 | here h _ => simp [AV.elems?] at he
 | buf h _ _ _ => simp [AV.elems?] at he
 | cptr a u hc hr => simp [AV.elems?] at he
 | msl h1 h2 h3 => simp [AV.elems?] at he
 | fn hl h => simp [AV.elems?] at he
 | agg hl h h1 => simp [AV.elems?] at he
 | tup hl h => simp [AV.elems?] at he
 | ex h => simp [AV.elems?] at he
 | stk h => simp [AV.elems?] at he
theorem RV.of_ofVal1 {G : Gh} {w : World} (v : Value) : RV G w (ofVal1 v) v := by
 unfold ofVal1
 split
 ·exact .osl (.sl (fun _ _ => default) (Nat.zero_le _) (by decide) (by simp) (by simp) (by simp) (by simp)) ⟨none, rfl, fun _ => rfl⟩
 ·exact .bot
 ·exact .bot
 ·rename_i h1 h2 h3
  refine .d (.raw ?_)
  cases v <;> simp_all [Value.oneCell']
theorem RV.of_ofVal {G : Gh} {w : World} (v : Value) : RV G w (ofVal v) v := by
 unfold ofVal
 split
 ·rename_i cs
  split
  ·rename_i h
   have := RV.agg (G := G) (w := w) (cs := cs.toList.map ofVal1) (vs := cs.toList) (by simp) (fun i h1 h2 => by simp only [List.getElem_map]; exact RV.of_ofVal1 _) (fun u hu => List.all_eq_true.1 h u hu)
   simpa using this
  ·exact .bot
 ·exact RV.of_ofVal1 v
theorem RV.raw {G : Gh} {w : World} {v : Value} (h : v.oneCell' = true) : RV G w (.d (.raw v)) v := .d (.raw h)
theorem rawsOf_spec {G : Gh} {w : World} : ∀ {cs : List AV} {l : List Value} {vs : List Value}, rawsOf cs = some l → RVs G w cs vs → vs = l
 | [], l, vs, h, r => by
  simp [rawsOf] at h
  subst h
  exact List.eq_nil_of_length_eq_zero (by simpa using r.1.symm)
 | c :: cs, l, vs, h, r => by
  cases vs with
  | nil => simp [RVs] at r
  | cons v vs =>
   have r0 : RV G w c v := r.2 0 (by simp) (by simp)
   have r1 : RVs G w cs vs := ⟨by simpa using r.1, fun i h1 h2 => r.2 (i + 1) (by simpa using h1) (by simpa using h2)⟩
   cases c with
   | d x =>
    cases x with
    | raw u =>
     simp [rawsOf] at h
     obtain ⟨l', hl, rfl⟩ := h
     have := rawsOf_spec hl r1
     cases r0 with
     | d h1 => cases h1; rw [this]
    | sl _ _ => simp [rawsOf] at h
   | _ => simp [rawsOf] at h
theorem rawOf_spec {G : Gh} {w : World} {x : AV} {u v : Value} (h : rawOf x = some u) (r : RV G w x v) : v = u := by
 cases x with
 | d x =>
  cases x with
  | raw y => simp [rawOf] at h; subst h; cases r with | d h1 => cases h1; rfl
  | sl _ _ => simp [rawOf] at h
 | agg cs =>
  simp [rawOf] at h
  obtain ⟨l, hl, rfl⟩ := h
  cases r with
  | agg hl' h1 h2 => rw [rawsOf_spec hl ⟨hl', h1⟩]
 | _ => simp [rawOf] at h
theorem RV.cells {G : Gh} {w : World} {x : AV} {v : Value} {cs : List AV} (h : RV G w x v) (hc : x.cells? = some cs) : RVs G w cs v.cells.toList ∧ ∀ u ∈ v.cells.toList, u.oneCell' = true := by
 cases h with
 | bot => simp [AV.cells?] at hc
 | tup hl h => simp [AV.cells?] at hc
 | agg hl h h1 => simp [AV.cells?] at hc; subst hc; exact ⟨⟨hl, h⟩, h1⟩
 | d h1 =>
  simp [AV.cells?] at hc
  subst hc
  have ho : v.oneCell' = true := by cases h1 with | raw h => exact h | sl => rfl
  have hv : v.cells = #[v] := by cases v <;> simp_all [Value.cells, Value.oneCell']
  rw [hv]
  exact ⟨RVs.cons (.d h1) RVs.nil, by simp [ho]⟩
 | osl h1 h2 =>
  simp [AV.cells?] at hc
  subst hc
  have ho : v.oneCell' = true := by cases h1 with | sl => rfl
  have hv : v.cells = #[v] := by cases v <;> simp_all [Value.cells, Value.oneCell']
  rw [hv]
  exact ⟨RVs.cons (.osl h1 h2) RVs.nil, by simp [ho]⟩
 | ptr h1 => simp [AV.cells?] at hc; subst hc; exact ⟨RVs.cons (.ptr h1) RVs.nil, by simp [Value.cells, Value.oneCell']⟩
 | buf h1 h2 h3 h4 =>
  simp [AV.cells?] at hc
  subst hc
  have ho : v.oneCell' = true := by cases h1 with | sl => rfl
  have hv : v.cells = #[v] := by cases v <;> simp_all [Value.cells, Value.oneCell']
  rw [hv]
  exact ⟨RVs.cons (.buf h1 h2 h3 h4) RVs.nil, by simp [ho]⟩
 | here h1 h2 => simp [AV.cells?] at hc; subst hc; exact ⟨RVs.cons (.here h1 h2) RVs.nil, by simp [Value.cells, Value.oneCell']⟩
 | cptr a u h1 h2 => simp [AV.cells?] at hc; subst hc; exact ⟨RVs.cons (.cptr a u h1 h2) RVs.nil, by simp [Value.cells, Value.oneCell']⟩
 | msl h1 h2 h3 => simp [AV.cells?] at hc; subst hc; exact ⟨RVs.cons (.msl h1 h2 h3) RVs.nil, by simp [Value.cells, Value.oneCell']⟩
 | fn hl h => simp [AV.cells?] at hc; subst hc; exact ⟨RVs.cons (.fn hl h) RVs.nil, by simp [Value.cells, Value.oneCell']⟩
 | ex h1 =>
  simp [AV.cells?] at hc; subst hc
  obtain ⟨A, n, c, rfl⟩ := h1.2.1
  exact ⟨RVs.cons (.ex h1) RVs.nil, by simp [Value.cells, Value.oneCell']⟩
 | stk h1 =>
  simp [AV.cells?] at hc; subst hc
  obtain ⟨A, c, rfl, _⟩ := h1.2
  exact ⟨RVs.cons (.stk h1) RVs.nil, by simp [Value.cells, Value.oneCell']⟩
theorem toD_spec {G : Gh} {w : World} {x : AV} {v : Value} {y : D} (h : RV G w x v) (hd : x.toD = some y) : RVd w.cell? G.ps y v := by
 cases h with
 | d h1 => simp [AV.toD] at hd; subst hd; exact h1
 | osl h1 h2 => simp [AV.toD] at hd; subst hd; exact h1
 | _ => simp [AV.toD] at hd
theorem toDs_spec {G : Gh} {w : World} : ∀ {xs : List AV} {vs : List Value} {ds : List D}, RVs G w xs vs → toDs xs = some ds →
  ds.length = vs.length ∧ ∀ i (h1 : i < ds.length) (h2 : i < vs.length), RVd w.cell? G.ps ds[i] vs[i]
 | [], vs, ds, r, h => by
  simp [toDs] at h
  subst h
  exact ⟨r.1, fun i h1 => by simp at h1⟩
 | x :: xs, vs, ds, r, h => by
  cases vs with
  | nil => simp [RVs] at r
  | cons v vs =>
   simp only [toDs] at h
   split at h
   ·rename_i d ds' h1 h2
    simp at h
    subst h
    have r0 : RV G w x v := r.2 0 (by simp) (by simp)
    have r1 : RVs G w xs vs := ⟨by simpa using r.1, fun i h1 h2 => r.2 (i + 1) (by simpa using h1) (by simpa using h2)⟩
    obtain ⟨k1, k2⟩ := toDs_spec r1 h2
    refine ⟨by simp [k1], fun i g1 g2 => ?_⟩
    cases i with
    | zero => exact toD_spec r0 h1
    | succ i => exact k2 i (by simpa using g1) (by simpa using g2)
   ·cases h
theorem Le.alloc {G : Gh} {w : World} (hf : ∀ b, w.heap.size ≤ b → G.kind b = .whole) (o : Obj) : Le G w G (w.alloc o) where
 os := rfl
 tape := rfl
 output := rfl
 size := by simp
 whole b hb hk := ⟨hk, Go.RowKit.Below.heap_alloc w o b hb⟩
 part b f c hk := ⟨⟨f, Nat.le_refl _, hk⟩, fun a ha ho => World.cell?_alloc_old w o a (fun h => by
  have := hf b (by omega)
  rw [hk] at this; cases this)⟩
 bx _ _ h := h
 nt := Nat.le_refl _
 tk _ _ := .inr ⟨rfl, fun g _ => ⟨rfl, fun hk => Go.RowKit.Below.heap_alloc w o g (Nat.lt_of_not_le fun h => by
  have := hf g h
  rw [hk] at this; cases this)⟩⟩
 ty b cs T f hb := ⟨cs, f, (Go.RowKit.Below.heap_alloc w o b (Array.getElem?_eq_some_iff.1 hb).1).trans hb⟩
theorem heap_lt {w : World} {b : Nat} {o : Obj} (h : w.heap[b]? = some o) : b < w.heap.size := (Array.getElem?_eq_some_iff.1 h).1
theorem RelM.alloc {G : Gh} {m : AMem} {w : World} (h : RelM G m w) (o : Obj) : RelM G m (w.alloc o) where
 box k rows b sz hk hb := by
  obtain ⟨h1, cs, e, h2, h3, h4, h5⟩ := h.box k rows b sz hk hb
  exact ⟨h1, cs, e, (Go.RowKit.Below.heap_alloc w o b (heap_lt h2)).trans h2, h3, h4.mono (Le.alloc h.fresh o), h5⟩
 nobox := h.nobox
 inj := h.inj
 nb := h.nb
 nt := h.nt
 toks := h.toks
 tokb t g ht := by
  obtain ⟨f, cur, e, h1, h2⟩ := h.tokb t g ht
  exact ⟨f, cur, e, h1, (Go.RowKit.Below.heap_alloc w o g (heap_lt h2)).trans h2⟩
 tinj := h.tinj
 tnt := h.tnt
 fresh b hb := h.fresh b (by simp at hb; omega)
theorem Le.drew {G : Gh} {w : World} : Le G w G w.drew :=
 ⟨rfl, rfl, rfl, Nat.le_refl _, fun _ _ h => ⟨h, rfl⟩, fun _ f _ h => ⟨⟨f, Nat.le_refl _, h⟩, fun _ _ _ => rfl⟩, fun _ _ h => h, Nat.le_refl _, fun _ _ => .inr ⟨rfl, fun _ _ => ⟨rfl, fun _ => rfl⟩⟩, fun _ _ _ _ h => ⟨_, _, h⟩⟩
theorem RelM.drew {G : Gh} {m : AMem} {w : World} (h : RelM G m w) : RelM G m w.drew where
 box k rows b sz hk hb := by
  obtain ⟨h1, cs, e, h2, h3, h4, h5⟩ := h.box k rows b sz hk hb
  exact ⟨h1, cs, e, h2, h3, h4.mono Le.drew, h5⟩
 nobox := h.nobox
 inj := h.inj
 nb := h.nb
 nt := h.nt
 toks := h.toks
 tokb := h.tokb
 tinj := h.tinj
 tnt := h.tnt
 fresh := h.fresh
def Gh.mkbox (G : Gh) (k b sz : Nat) : Gh := { G with bx := upd G.bx k (some (b, sz)), kind := upd G.kind b .box }
theorem Le.mkbox {G : Gh} {w : World} (hf : ∀ b, w.heap.size ≤ b → G.kind b = .whole) (hb : ∀ t g, G.tk t = some (some g) → g < w.heap.size) {k : Nat} (hk : G.bx k = none) (sz : Nat) (o : Obj) : Le G w (G.mkbox k w.heap.size sz) (w.alloc o) where
 os := rfl
 tape := rfl
 output := rfl
 size := by simp
 whole b hb hk := ⟨by simp only [Gh.mkbox]; rw [upd_other _ _ (by omega)]; exact hk, Go.RowKit.Below.heap_alloc w o b hb⟩
 part b f c hk := by
  have hne : b ≠ w.heap.size := fun h => by
   have := hf b (by omega)
   rw [hk] at this; cases this
  exact ⟨⟨f, Nat.le_refl _, by simp only [Gh.mkbox]; rw [upd_other _ _ hne]; exact hk⟩, fun a ha ho => World.cell?_alloc_old w o a (by omega)⟩
 bx j x hj := by
  simp only [Gh.mkbox]
  rw [upd_other _ _ (fun e => by subst e; rw [hk] at hj; cases hj)]
  exact hj
 nt := Nat.le_refl _
 tk t ht := .inr ⟨rfl, fun g hg => by
  have hlt := hb t g hg
  simp only [Gh.mkbox]
  rw [upd_other _ _ (by omega)]
  exact ⟨rfl, fun _ => Go.RowKit.Below.heap_alloc w o g hlt⟩⟩
 ty b cs T f hb := ⟨cs, f, (Go.RowKit.Below.heap_alloc w o b (Array.getElem?_eq_some_iff.1 hb).1).trans hb⟩
theorem RelM.tlt {G : Gh} {m : AMem} {w : World} (h : RelM G m w) (t g : Nat) (hg : G.tk t = some (some g)) : g < w.heap.size := by
 obtain ⟨_, _, _, _, h2⟩ := h.tokb t g hg
 exact heap_lt h2
theorem RelM.blt {G : Gh} {m : AMem} {w : World} (h : RelM G m w) {k b sz : Nat} (hb : G.bx k = some (b, sz)) : b < w.heap.size ∧ G.kind b = .box := by
 cases hm : m.box k with
 | none => rw [h.nobox k hm] at hb; cases hb
 | some rows =>
  obtain ⟨h1, _, _, h2, _⟩ := h.box k rows b sz hm hb
  exact ⟨heap_lt h2, h1⟩
theorem RelM.mkbox' {G : Gh} {m : AMem} {w : World} (h : RelM G m w) {k : Nat} (hk : G.bx k = none) (hnb : k < m.nb) {sz : Nat} {rows : List (List AV)} (hs : ∀ r ∈ rows, r.length = sz)
  {cs : Array Value} (e : TypeId) (hR : RVs (G.mkbox k w.heap.size sz) (w.alloc (.cells cs e)) rows.flatten cs.toList) (h1 : ∀ v ∈ cs.toList, v.oneCell' = true) :
  RelM (G.mkbox k w.heap.size sz) { m with box := upd m.box k (some rows) } (w.alloc (.cells cs e)) := by
 have hle := Le.mkbox (k := k) h.fresh h.tlt hk sz (.cells cs e)
 constructor
 case box =>
  intro j rs b s hj hb
  by_cases e1 : j = k
  ·subst e1
   simp only [upd_same, Gh.mkbox] at hj hb
   simp only [Option.some.injEq, Prod.mk.injEq] at hj hb
   obtain ⟨rfl, rfl⟩ := hb
   subst hj
   exact ⟨by simp [Gh.mkbox, upd_same], cs, e, heap_alloc_new w _, hs, hR, h1⟩
  ·simp only [Gh.mkbox] at hj hb
   rw [upd_other _ _ e1] at hj hb
   obtain ⟨g1, cs', e', g2, g3, g4, g5⟩ := h.box j rs b s hj hb
   refine ⟨?_, cs', e', (Go.RowKit.Below.heap_alloc w _ b (heap_lt g2)).trans g2, g3, g4.mono hle, g5⟩
   simp only [Gh.mkbox]
   rw [upd_other _ _ (by have := heap_lt g2; omega)]
   exact g1
 case nobox =>
  intro j hj
  by_cases e1 : j = k
  ·subst e1; simp [upd_same] at hj
  ·simp only [Gh.mkbox] at hj ⊢
   rw [upd_other _ _ e1] at hj ⊢
   exact h.nobox j hj
 case inj =>
  intro j j' b s s' hj hj'
  simp only [Gh.mkbox] at hj hj'
  by_cases e1 : j = k <;> by_cases e2 : j' = k
  ·exact e1.trans e2.symm
  ·subst e1
   rw [upd_same] at hj; rw [upd_other _ _ e2] at hj'
   simp only [Option.some.injEq, Prod.mk.injEq] at hj
   have := (h.blt hj').1
   omega
  ·subst e2
   rw [upd_same] at hj'; rw [upd_other _ _ e1] at hj
   simp only [Option.some.injEq, Prod.mk.injEq] at hj'
   have := (h.blt hj).1
   omega
  ·rw [upd_other _ _ e1] at hj; rw [upd_other _ _ e2] at hj'
   exact h.inj j j' b s s' hj hj'
 case nb =>
  intro j hj
  simp only at hj ⊢
  rw [upd_other _ _ (by omega)]
  exact h.nb j hj
 case nt => exact h.nt
 case toks => exact h.toks
 case tokb =>
  intro t g ht
  obtain ⟨f, cur, e', g1, g2⟩ := h.tokb t g ht
  refine ⟨f, cur, e', ?_, (Go.RowKit.Below.heap_alloc w _ g (heap_lt g2)).trans g2⟩
  simp only [Gh.mkbox]
  rw [upd_other _ _ (by have := heap_lt g2; omega)]
  exact g1
 case tinj => exact h.tinj
 case tnt => exact h.tnt
 case fresh =>
  intro b hb
  simp at hb
  simp only [Gh.mkbox]
  rw [upd_other _ _ (by omega)]
  exact h.fresh b (by omega)
theorem RelM.mkbox {G : Gh} {m : AMem} {w : World} (h : RelM G m w) {k : Nat} (hk : G.bx k = none) (hnb : k < m.nb) {sz : Nat} {rows : List (List AV)} (hs : ∀ r ∈ rows, r.length = sz)
  {cs : Array Value} (e : TypeId) (hR : RVs G w rows.flatten cs.toList) (h1 : ∀ v ∈ cs.toList, v.oneCell' = true) :
  RelM (G.mkbox k w.heap.size sz) { m with box := upd m.box k (some rows) } (w.alloc (.cells cs e)) :=
 h.mkbox' hk hnb hs e (hR.mono (Le.mkbox (k := k) h.fresh h.tlt hk sz (.cells cs e))) h1
theorem setRow_ty (w : World) (b j : Nat) (cs c0 : Array Value) (T : TypeId) (f : Nat × Nat) (hj : w.heap[j]? = some (.cells c0 T f)) : ∃ cs' f', (w.setRow b cs).heap[j]? = some (.cells cs' T f') := by
 by_cases e : j = b
 ·subst e
  exact ⟨cs, f, setRow_heap w j c0 cs T f hj⟩
 ·exact ⟨c0, f, (setRow_other w b j cs e).trans hj⟩
theorem Le.setRow {G : Gh} {w : World} {b : Nat} (hk : G.kind b = .box) (cs : Array Value) : Le G w G (w.setRow b cs) where
 os := rfl
 tape := rfl
 output := rfl
 size := by simp [World.setRow]
 whole j hj h := ⟨h, setRow_other w b j cs (fun e => by subst e; rw [hk] at h; cases h)⟩
 part j f c h := ⟨⟨f, Nat.le_refl _, h⟩, fun a ha _ => cell_setRow_other w b cs a (fun e => by subst ha; subst e; rw [hk] at h; cases h)⟩
 bx _ _ h := h
 nt := Nat.le_refl _
 tk _ _ := .inr ⟨rfl, fun g _ => ⟨rfl, fun he => setRow_other w b g cs (fun e => by subst e; rw [hk] at he; cases he)⟩⟩
 ty j c0 T f hj := setRow_ty w b j cs c0 T f hj
theorem RelM.setRow {G : Gh} {m : AMem} {w : World} (h : RelM G m w) {k b sz : Nat} (hb : G.bx k = some (b, sz)) {rows : List (List AV)} (hs : ∀ r ∈ rows, r.length = sz)
  {cs cs0 : Array Value} {e : TypeId} (h0 : w.heap[b]? = some (.cells cs0 e (0, 0))) (hR : RVs G w rows.flatten cs.toList) (h1 : ∀ v ∈ cs.toList, v.oneCell' = true) :
  RelM G { m with box := upd m.box k (some rows) } (w.setRow b cs) := by
 have hk := (h.blt hb).2
 have hle := Le.setRow (w := w) hk cs
 constructor
 case box =>
  intro j rs b' s hj hb'
  by_cases e1 : j = k
  ·subst e1
   rw [hb] at hb'
   simp only [Option.some.injEq, Prod.mk.injEq] at hb'
   obtain ⟨rfl, rfl⟩ := hb'
   simp only [upd_same, Option.some.injEq] at hj
   subst hj
   exact ⟨hk, cs, e, setRow_heap w b cs0 cs e (0, 0) h0, hs, hR.mono hle, h1⟩
  ·simp only at hj
   rw [upd_other _ _ e1] at hj
   obtain ⟨g1, cs', e', g2, g3, g4, g5⟩ := h.box j rs b' s hj hb'
   have hne : b' ≠ b := fun e2 => by subst e2; exact e1 (h.inj j k b' s sz hb' hb)
   exact ⟨g1, cs', e', (setRow_other w b b' cs hne).trans g2, g3, g4.mono hle, g5⟩
 case nobox =>
  intro j hj
  by_cases e1 : j = k
  ·subst e1; simp [upd_same] at hj
  ·simp only at hj
   rw [upd_other _ _ e1] at hj
   exact h.nobox j hj
 case inj => exact h.inj
 case nb =>
  intro j hj
  simp only at hj ⊢
  have hne : j ≠ k := fun e1 => by
   subst e1
   have := h.nobox j (h.nb j hj)
   rw [hb] at this; cases this
  rw [upd_other _ _ hne]
  exact h.nb j hj
 case nt => exact h.nt
 case toks => exact h.toks
 case tokb =>
  intro t g ht
  obtain ⟨f, cur, e', g1, g2⟩ := h.tokb t g ht
  exact ⟨f, cur, e', g1, (setRow_other w b g cs (fun e2 => by subst e2; rw [hk] at g1; rcases g1 with g1 | g1 <;> cases g1)).trans g2⟩
 case tinj => exact h.tinj
 case tnt => exact h.tnt
 case fresh =>
  intro j hj
  exact h.fresh j (by simpa [World.setRow] using hj)
end Go.AM
namespace Go.AM
open Go
theorem length_setCells {α : Type} : ∀ (cs r : List α) (off : Nat), (setCells r off cs).length = r.length
 | [], r, off => rfl
 | c :: cs, r, off => by rw [setCells, length_setCells]; simp
theorem setCells_eq {α : Type} : ∀ (cs r : List α) (off : Nat), off + cs.length ≤ r.length → setCells r off cs = r.take off ++ cs ++ r.drop (off + cs.length)
 | [], r, off, h => by simp [setCells]
 | c :: cs, r, off, h => by
  simp only [List.length_cons] at h
  rw [setCells, setCells_eq cs (r.set off c) (off + 1) (by simp; omega)]
  have h1 : (r.set off c).take (off + 1) = r.take off ++ [c] := by
   rw [List.take_succ_eq_append_getElem (by simp; omega)]
   simp [List.take_set_of_le]
  have h2 : (r.set off c).drop (off + 1 + cs.length) = r.drop (off + (c :: cs).length) := by
   rw [List.drop_set_of_lt (by omega)]
   congr 1
   simp only [List.length_cons]; omega
  rw [h1, h2]
  simp
theorem RVs.set {G : Gh} {w : World} {xs : List AV} {vs : List Value} (h : RVs G w xs vs) (i : Nat) {x : AV} {v : Value} (hx : RV G w x v) : RVs G w (xs.set i x) (vs.set i v) :=
 ⟨by simp [h.1], fun j h1 h2 => by
  simp only [List.getElem_set]
  by_cases hij : i = j
  ·simp [hij, hx]
  ·simp only [hij, ↓reduceIte]
   exact h.2 j (by simpa using h1) (by simpa using h2)⟩
theorem RVs.uncons {G : Gh} {w : World} {x : AV} {xs : List AV} {vs : List Value} (h : RVs G w (x :: xs) vs) : ∃ v us, vs = v :: us ∧ RV G w x v ∧ RVs G w xs us := by
 cases vs with
 | nil => simp [RVs] at h
 | cons v us => exact ⟨v, us, rfl, h.2 0 (by simp) (by simp), ⟨by simpa using h.1, fun i h1 h2 => h.2 (i + 1) (by simpa using h1) (by simpa using h2)⟩⟩
theorem RVs.setCells {G : Gh} {w : World} : ∀ {cs : List AV} {us : List Value} {xs : List AV} {vs : List Value} {off : Nat}, RVs G w xs vs → RVs G w cs us → RVs G w (setCells xs off cs) (setCells vs off us)
 | [], us, xs, vs, off, h, k => by
  have : us = [] := List.eq_nil_of_length_eq_zero (by simpa using k.1.symm)
  subst this
  exact h
 | c :: cs, us, xs, vs, off, h, k => by
  obtain ⟨v, us', rfl, h1, h2⟩ := k.uncons
  rw [AM.setCells, AM.setCells]
  exact RVs.setCells (cs := cs) (us := us') (xs := xs.set off c) (vs := vs.set off v) (off := off + 1) (h.set off h1) h2
theorem mem_setCells {α : Type} {p : α → Prop} : ∀ (cs r : List α) (off : Nat), (∀ v ∈ r, p v) → (∀ v ∈ cs, p v) → ∀ v ∈ AM.setCells r off cs, p v
 | [], r, off, h, k => h
 | c :: cs, r, off, h, k => by
  rw [AM.setCells]
  refine mem_setCells cs (r.set off c) (off + 1) (fun v hv => ?_) (fun v hv => k v (by simp [hv]))
  rcases List.mem_or_eq_of_mem_set hv with h1 | h1
  ·exact h v h1
  ·subst h1; exact k v (by simp)
theorem flat_len {α : Type} {sz : Nat} : ∀ {rows : List (List α)}, (∀ r ∈ rows, r.length = sz) → rows.flatten.length = rows.length * sz
 | [], _ => by simp
 | r :: rows, h => by
  rw [List.flatten_cons, List.length_append, flat_len (fun r hr => h r (by simp [hr])), h r (by simp), List.length_cons, Nat.add_mul]
  omega
theorem flat_at {α : Type} {sz : Nat} : ∀ {rows : List (List α)} {i : Nat} {r : List α}, (∀ r ∈ rows, r.length = sz) → rows[i]? = some r →
  rows.flatten = (rows.flatten).take (i * sz) ++ r ++ (rows.flatten).drop (i * sz + sz)
 | [], i, r, _, h => by simp at h
 | r0 :: rows, 0, r, hs, h => by
  simp at h
  subst h
  have hl := hs r0 (by simp)
  simp only [Nat.zero_mul, List.take_zero, List.nil_append, Nat.zero_add, List.flatten_cons]
  rw [← hl]
  simp
 | r0 :: rows, i + 1, r, hs, h => by
  have hl := hs r0 (by simp)
  have ih := flat_at (sz := sz) (rows := rows) (i := i) (r := r) (fun r hr => hs r (by simp [hr])) (by simpa using h)
  have e1 : (i + 1) * sz = r0.length + i * sz := by rw [hl, Nat.add_mul]; omega
  rw [List.flatten_cons, e1]
  rw [List.take_length_add_append, Nat.add_assoc, List.drop_length_add_append]
  rw [List.append_assoc, List.append_assoc, ← List.append_assoc (List.take _ _), ← ih]
theorem flat_get {α : Type} {sz : Nat} {rows : List (List α)} {i : Nat} {r : List α} (hs : ∀ r ∈ rows, r.length = sz) (h : rows[i]? = some r) {j : Nat} (hj : j < sz) : rows.flatten[i * sz + j]? = r[j]? := by
 have hi : i < rows.length := (List.getElem?_eq_some_iff.1 h).1
 have hr : r.length = sz := hs r (List.mem_of_getElem? h)
 have hle : i * sz ≤ rows.flatten.length := by rw [flat_len hs]; exact Nat.mul_le_mul_right _ (by omega)
 have l1 : (List.take (i * sz) rows.flatten).length = i * sz := by rw [List.length_take]; omega
 rw [flat_at hs h, List.append_assoc, List.getElem?_append_right (by rw [l1]; omega), l1, Nat.add_sub_cancel_left, List.getElem?_append_left (by omega)]
theorem flat_set {α : Type} {sz : Nat} : ∀ {rows : List (List α)} {i : Nat} {r : List α} (r' : List α), (∀ r ∈ rows, r.length = sz) → r'.length = sz → rows[i]? = some r →
  (rows.set i r').flatten = (rows.flatten).take (i * sz) ++ r' ++ (rows.flatten).drop (i * sz + sz)
 | [], i, r, r', _, _, h => by simp at h
 | r0 :: rows, 0, r, r', hs, h', h => by
  have hl := hs r0 (by simp)
  simp only [List.set_cons_zero, Nat.zero_mul, List.take_zero, List.nil_append, Nat.zero_add, List.flatten_cons]
  rw [← hl]
  simp
 | r0 :: rows, i + 1, r, r', hs, h', h => by
  have hl := hs r0 (by simp)
  have ih := flat_set (sz := sz) (rows := rows) (i := i) (r := r) r' (fun r hr => hs r (by simp [hr])) h' (by simpa using h)
  have e1 : (i + 1) * sz = r0.length + i * sz := by rw [hl, Nat.add_mul]; omega
  rw [List.set_cons_succ, List.flatten_cons, List.flatten_cons, e1]
  rw [List.take_length_add_append, Nat.add_assoc, List.drop_length_add_append, ih]
  simp
theorem flat_store {α : Type} {sz : Nat} {rows : List (List α)} {i off : Nat} {r : List α} (cs : List α) (hs : ∀ r ∈ rows, r.length = sz) (h : rows[i]? = some r) (hoff : off + cs.length ≤ sz) :
  (rows.set i (setCells r off cs)).flatten = setCells rows.flatten (i * sz + off) cs := by
 have hi : i < rows.length := (List.getElem?_eq_some_iff.1 h).1
 have hr : r.length = sz := hs r (List.mem_of_getElem? h)
 have hle : i * sz + sz ≤ rows.flatten.length := by
  rw [flat_len hs, ← Nat.succ_mul]
  exact Nat.mul_le_mul_right _ (by omega)
 rw [flat_set _ hs (by rw [length_setCells, hr]) h, setCells_eq _ _ _ (by omega), setCells_eq _ _ _ (by omega)]
 have e := flat_at hs h
 have t1 : List.take (i * sz + off) rows.flatten = List.take (i * sz) rows.flatten ++ r.take off := by
  conv => lhs; rw [e]
  rw [List.append_assoc, List.take_append]
  have l1 : (List.take (i * sz) rows.flatten).length = i * sz := by rw [List.length_take]; omega
  rw [l1, List.take_of_length_le (by rw [l1]; omega), Nat.add_sub_cancel_left, List.take_append_of_le_length (by omega)]
 have t2 : List.drop (i * sz + off + cs.length) rows.flatten = r.drop (off + cs.length) ++ List.drop (i * sz + sz) rows.flatten := by
  conv => lhs; rw [e]
  have l1 : (List.take (i * sz) rows.flatten).length = i * sz := by rw [List.length_take]; omega
  rw [List.append_assoc, List.drop_append, l1, List.drop_of_length_le (by rw [l1]; omega), List.nil_append, List.drop_append_of_le_length (by omega)]
  congr 2
  omega
 rw [t1, t2]
 simp
end Go.AM
namespace Go.AM
open Go
variable {P : Program}
theorem run_sizeOf {T n : Nat} (h : szOf P T = some n) (w : World) : (sizeOf T).run P w = .ok n w := by
 unfold szOf at h
 obtain ⟨i, hi, rfl⟩ := Option.map_eq_some_iff.1 h
 simp [sizeOf, typeInfo, hi]
theorem run_isAgg {T : Nat} {t : Bool} (h : aggT P T = some t) (w : World) : (isAgg T).run P w = .ok t w := by
 unfold aggT at h
 obtain ⟨d, hd, rfl⟩ := Option.map_eq_some_iff.1 h
 simp only [isAgg, Sem.run_bind, run_underlying hd, Result.andThen_ok]
 cases d <;> rfl
theorem add_add (a : Addr) (i j : Nat) : (a.add i).add j = a.add (i + j) := by
 unfold Addr.add
 by_cases hi : i = 0 <;> by_cases hj : j = 0 <;> simp [hi, hj, Nat.add_assoc]
theorem add_none (b o j : Nat) : (⟨b, o, none⟩ : Addr).add j = ⟨b, o + j, none⟩ := by
 unfold Addr.add
 split <;> simp_all
theorem RVd.one {c : Addr → Option Value} {ps : Addr → Prop} {x : D} {v : Value} (h : RVd c ps x v) : v.oneCell' = true := by
 cases h with
 | raw h => exact h
 | sl => rfl
def loadA (ag : Bool) (n : Nat) (r : List AV) (off : Nat) : Option AV := if ag then (if off + n ≤ r.length then some (.agg ((r.drop off).take n)) else none) else r[off]?
def loadD (ag : Bool) (n : Nat) (cs : List D) (off : Nat) : Option AV := if ag then (if off + n ≤ cs.length then some (.agg (((cs.drop off).take n).map .d)) else none) else (cs[off]?).map .d
def EffR (P : Program) (o : Oper) (ρ : Operand → AV) (box : Nat → Option (List (List AV))) (v : AV) : Prop := match o.op with
 | .load T p => match aggT P T, szOf P T with
  | some ag, some n => match ρ p with
   | .cptr cs off => loadD ag n cs off = some v
   | .ptr k i off => match box k with
    | some rows => match rows[i]? with
     | some r => loadA ag n r off = some v
     | none => False
    | none => False
   | _ => False
  | _, _ => False
 | _ => False
theorem run_loadVar_one {T : Nat} {a : Addr} {u : Value} {w : World} (hag : aggT P T = some false) (hc : w.cell? a = some u) : (loadVar T a).run P w = .ok u w := by
 simp [loadVar, run_isAgg hag, load, Sem.run, hc]
theorem run_loadVar_agg {T n : Nat} {a : Addr} {us : List Value} {w : World} (hag : aggT P T = some true) (hn : szOf P T = some n) (hl : us.length = n) (hc : ∀ j u, us[j]? = some u → w.cell? (a.add j) = some u) :
  (loadVar T a).run P w = .ok (.agg us.toArray) w := by
 simp only [loadVar, Sem.run_bind, run_isAgg hag, Result.andThen_ok, ↓reduceIte, run_sizeOf hn]
 rw [← hl, run_loadCells_list w a us hc]
 rfl
theorem effR_sound {o : Oper} {ρ : Operand → AV} {ρv : Operand → Value} {G : Gh} {m : AMem} {w : World} {v : AV} (h : EffR P o ρ m.box v)
  (hρ : ∀ x ∈ o.op.operands, RV G w (ρ x) (ρv x)) (hm : RelM G m w) : ∃ u, (execOp ρv o).run P w = .ok (.value u) w ∧ RV G w v u := by
 unfold EffR at h
 split at h
 ·rename_i T p ho
  have hp := hρ p (by rw [ho]; simp [Op.operands])
  split at h
  ·rename_i ag n hag hn
   have fin : ∀ (a : Addr) (u : Value), ρv p = .pointer (some a) → (loadVar T a).run P w = .ok u w → RV G w v u → ∃ u, (execOp ρv o).run P w = .ok (.value u) w ∧ RV G w v u := by
    intro a u ha hr hv
    refine ⟨u, ?_, hv⟩
    simp only [execOp, ho, Instr.loadAt, ha, Instr.sureAddr, Sem.run_bind, Sem.run_pure, Result.andThen_ok, hr]
   split at h
   ·rename_i cs off hx
    rw [hx] at hp
    generalize hpv : ρv p = pv at hp
    cases hp with
    | cptr a u hc hr =>
     unfold loadD at h
     cases ag with
     | false =>
      simp only [Bool.false_eq_true, ↓reduceIte] at h
      obtain ⟨d, hd, rfl⟩ := Option.map_eq_some_iff.1 h
      obtain ⟨hlt, rfl⟩ := List.getElem?_eq_some_iff.1 hd
      exact fin _ _ hpv (run_loadVar_one hag (hc off hlt).2) (.d (hr off hlt))
     | true =>
      simp only [↓reduceIte] at h
      split at h
      ·rename_i hle
       simp only [Option.some.injEq] at h
       subst h
       refine fin _ _ hpv (run_loadVar_agg (us := (List.range n).map fun j => u (off + j)) hag hn (by simp) ?_) (.agg (by simp; omega) ?_ ?_)
       ·intro j x hj
        simp only [List.getElem?_map] at hj
        obtain ⟨j', hj', rfl⟩ := Option.map_eq_some_iff.1 hj
        obtain ⟨hlt, rfl⟩ := List.getElem?_eq_some_iff.1 hj'
        simp at hlt
        rw [add_add]
        simpa using (hc (off + j) (by omega)).2
       ·intro i h1 h2
        simp at h1 h2
        simp only [List.getElem_map, List.getElem_take, List.getElem_drop, List.getElem_range]
        exact .d (hr (off + i) (by omega))
       ·intro x hx
        simp at hx
        obtain ⟨j, hj, rfl⟩ := hx
        exact (hr (off + j) (by omega)).one
      ·cases h
   ·rename_i k i off hx
    rw [hx] at hp
    generalize hpv : ρv p = pv at hp
    cases hp with
    | ptr hb =>
     rename_i b sz
     split at h
     ·rename_i rows hbox
      split at h
      ·rename_i r hrow
       obtain ⟨_, cells, e, hh, hs, hR, h1⟩ := hm.box k rows b sz hbox hb
       have hrl : r.length = sz := hs r (List.mem_of_getElem? hrow)
       have hcell : ∀ j x, off + j < sz → r[off + j]? = some x → ∃ u, w.cell? ⟨b, i * sz + off + j, none⟩ = some u ∧ RV G w x u ∧ u.oneCell' = true := by
        intro j x hlt hx
        have hfl := flat_get hs hrow hlt
        rw [hx] at hfl
        obtain ⟨u, hu, hru⟩ := hR.get hfl
        refine ⟨u, ?_, hru, h1 u (List.mem_of_getElem? hu)⟩
        rw [cell_of_row w b _ cells e (0, 0) hh, Nat.add_assoc]
        simpa using hu
       unfold loadA at h
       cases ag with
       | false =>
        simp only [Bool.false_eq_true, ↓reduceIte] at h
        have hlt : off < sz := by rw [← hrl]; exact (List.getElem?_eq_some_iff.1 h).1
        obtain ⟨u, hu, hru, _⟩ := hcell 0 v hlt h
        exact fin _ _ hpv (run_loadVar_one hag hu) hru
       | true =>
        simp only [↓reduceIte] at h
        split at h
        ·rename_i hle
         simp only [Option.some.injEq] at h
         subst h
         have hex : ∀ j, ∃ u, j < n → w.cell? ⟨b, i * sz + off + j, none⟩ = some u ∧ (∀ x, r[off + j]? = some x → RV G w x u) ∧ u.oneCell' = true := by
          intro j
          by_cases hj : j < n
          ·have hg : r[off + j]? = some (r[off + j]'(by omega)) := List.getElem?_eq_getElem _
           obtain ⟨u, h2, h3, h4⟩ := hcell j _ (by omega) hg
           exact ⟨u, fun _ => ⟨h2, fun x hx => by rw [hg] at hx; cases hx; exact h3, h4⟩⟩
          ·exact ⟨default, fun h => absurd h hj⟩
         obtain ⟨u, hu⟩ := Classical.axiomOfChoice hex
         refine fin _ _ hpv (run_loadVar_agg (us := (List.range n).map u) hag hn (by simp) ?_) (.agg (by simp; omega) ?_ ?_)
         ·intro j x hj
          simp only [List.getElem?_map] at hj
          obtain ⟨j', hj', rfl⟩ := Option.map_eq_some_iff.1 hj
          obtain ⟨hlt, rfl⟩ := List.getElem?_eq_some_iff.1 hj'
          simp at hlt
          rw [add_none]
          simpa using (hu j hlt).1
         ·intro j h1 h2
          simp at h1 h2
          simp only [List.getElem_map, List.getElem_take, List.getElem_drop, List.getElem_range]
          exact (hu j (by omega)).2.1 _ (List.getElem?_eq_getElem _)
         ·intro x hx
          simp at hx
          obtain ⟨j, hj, rfl⟩ := hx
          exact (hu j (by omega)).2.2
        ·cases h
      ·exact h.elim
     ·exact h.elim
   ·exact h.elim
  ·exact h.elim
 ·exact h.elim
end Go.AM
namespace Go.AM
open Go
variable {P : Program}
def makeT (P : Program) (T : TypeId) : Option (Nat × Nat × List Value) := match P.underlying T with
 | some (.slice E) => match P.info? E with
  | some i => match i.zero with
   | some z => if z.cells.size = i.size ∧ 0 < i.size ∧ 0 < i.bytes ∧ z.cells.toList.all (·.oneCell') = true then some (i.size, i.bytes, z.cells.toList) else none
   | none => none
  | none => none
 | _ => none
theorem makeT_spec {T sz by' : Nat} {zs : List Value} (h : makeT P T = some (sz, by', zs)) : ∃ E i z, P.underlying T = some (.slice E) ∧ P.info? E = some i ∧ i.zero = some z ∧ z.cells.toList = zs ∧ zs.length = sz ∧ i.size = sz ∧ i.bytes = by' ∧ 0 < sz ∧ 0 < by' ∧ ∀ u ∈ zs, u.oneCell' = true := by
 unfold makeT at h
 split at h
 ·rename_i E hE
  split at h
  ·rename_i i hi
   split at h
   ·rename_i z hz
    split at h
    ·rename_i hc
     simp only [Option.some.injEq, Prod.mk.injEq] at h
     obtain ⟨rfl, rfl, rfl⟩ := h
     exact ⟨E, i, z, hE, hi, hz, rfl, by simpa using hc.1, rfl, rfl, hc.2.1, hc.2.2.1, fun u hu => List.all_eq_true.1 hc.2.2.2 u hu⟩
    ·cases h
   ·cases h
  ·cases h
 ·cases h
theorem getElem?_flat_rep {α : Type} (l : List α) : ∀ (n j : Nat), j < n * l.length → (List.replicate n l).flatten[j]? = l[j % l.length]?
 | 0, j, h => by simp at h
 | n + 1, j, h => by
  rw [List.replicate_succ, List.flatten_cons]
  by_cases hj : j < l.length
  ·rw [List.getElem?_append_left hj, Nat.mod_eq_of_lt hj]
  ·rw [List.getElem?_append_right (by omega), getElem?_flat_rep l n (j - l.length) (by rw [Nat.add_mul, Nat.one_mul] at h; omega)]
   rw [← Nat.mod_eq_sub_mod (by omega)]
theorem made_flat (z : Array Value) (n : Nat) (h : 0 < z.size) : (madeCells z (n * z.size)).toList = (List.replicate n z.toList).flatten := by
 apply List.ext_getElem?
 intro j
 by_cases hj : j < n * z.size
 ·have h1 := getElem?_flat_rep z.toList n j (by simpa using hj)
  rw [h1]
  have hm : j % z.size < z.size := Nat.mod_lt _ h
  have h2 : j < (madeCells z (n * z.size)).toList.length := by simp [madeCells]; exact hj
  rw [List.getElem?_eq_getElem h2]
  simp [madeCells, hm]
 ·rw [List.getElem?_eq_none (by simp [madeCells]; omega), List.getElem?_eq_none (by simp [List.length_flatten]; omega)]
def copySrc (y : AV) (box : Nat → Option (List (List AV))) : Option (Prop × List (List AV)) := match y with
 | .msl k off n sz => match box k with
  | some rows => some (sz = 1 ∧ off + n ≤ rows.length, (rows.drop off).take n)
  | none => none
 | .d (.sl sz es) => some (sz = 1 ∧ es ≠ [], es.map fun e => e.map AV.d)
 | .osl sz es _ => some (sz = 1 ∧ es ≠ [], es.map fun e => e.map AV.d)
 | _ => none
theorem flat_drop1 {α : Type} : ∀ {rows : List (List α)} (_ : ∀ r ∈ rows, r.length = 1) (m : Nat), (rows.drop m).flatten = rows.flatten.drop m
 | [], _, m => by simp
 | r :: rows, h, 0 => by simp
 | r :: rows, h, m + 1 => by
  have h1 := h r (by simp)
  rw [List.drop_succ_cons, flat_drop1 (fun q hq => h q (by simp [hq])) m, List.flatten_cons]
  match r, h1 with
  | [x], _ => rfl
theorem flat_take1 {α : Type} : ∀ {rows : List (List α)} (_ : ∀ r ∈ rows, r.length = 1) (m : Nat), (rows.take m).flatten = rows.flatten.take m
 | [], _, m => by simp
 | r :: rows, h, 0 => by simp
 | r :: rows, h, m + 1 => by
  have h1 := h r (by simp)
  rw [List.take_succ_cons, List.flatten_cons, flat_take1 (fun q hq => h q (by simp [hq])) m, List.flatten_cons]
  match r, h1 with
  | [x], _ => rfl
theorem list_two {α : Type} {l : List α} (h : l.length = 2) : ∃ x y, l = [x, y] := by
 match l, h with
 | [x, y], _ => exact ⟨x, y, rfl⟩
theorem copySrc_sound {y : AV} {yv : Value} {G : Gh} {m : AMem} {w : World} {φ : Prop} {src : List (List AV)} (h : copySrc y m.box = some (φ, src)) (hφ : φ) (hy : RV G w y yv) (hm : RelM G m w) :
  ∃ a cap cs, yv = .slice (some a) src.length cap ∧ cs.length = src.length ∧ (∀ j v, cs[j]? = some v → w.cell? (a.add j) = some v) ∧ (∀ r ∈ src, r.length = 1) ∧ RVs G w src.flatten cs ∧ ∀ v ∈ cs, v.oneCell' = true := by
 have data : ∀ {es : List (List D)} {v : Value}, es ≠ [] → RVd w.cell? G.ps (.sl 1 es) v → ∃ a cap cs, v = .slice (some a) (es.map fun e => e.map AV.d).length cap ∧ cs.length = (es.map fun e => e.map AV.d).length ∧
   (∀ j v, cs[j]? = some v → w.cell? (a.add j) = some v) ∧ (∀ r ∈ (es.map fun e => e.map AV.d), r.length = 1) ∧ RVs G w (es.map fun e => e.map AV.d).flatten cs ∧ ∀ v ∈ cs, v.oneCell' = true := by
  intro es v hne h
  cases h with
  | sl u hcap hmax hsz hA hc hr =>
   obtain ⟨a, rfl⟩ := hA hne
   have hone : ∀ r ∈ es.map (fun e => e.map AV.d), r.length = 1 := fun r hr' => by
    obtain ⟨e, he, rfl⟩ := List.mem_map.1 hr'
    simpa using hsz e he
   refine ⟨a, _, (List.range es.length).map fun i => u i 0, by rw [List.length_map], by simp, fun j v hj => ?_, hone, ⟨?_, fun i h1 h2 => ?_⟩, fun v hv => ?_⟩
   ·obtain ⟨h1, rfl⟩ := List.getElem?_eq_some_iff.1 hj
    simp only [List.length_map, List.length_range] at h1
    have := (hc a rfl j 0 h1 (by decide)).2
    simpa using this
   ·rw [flat_len hone]; simp
   ·have hi : i < es.length := by simpa using h2
    have hlen : es[i].length = 1 := hsz _ (List.getElem_mem hi)
    have hrow : (es.map fun e => e.map AV.d)[i]? = some (es[i].map AV.d) := by simp [hi]
    have hfl := flat_get hone hrow (j := 0) (by decide)
    simp only [Nat.mul_one, Nat.add_zero] at hfl
    rw [List.getElem?_eq_getElem h1] at hfl
    have h0 : 0 < es[i].length := by omega
    have e2 : (es[i].map AV.d)[0]? = some (.d es[i][0]) := by simp [h0]
    rw [e2] at hfl
    rw [Option.some.inj hfl]
    simp only [List.getElem_map, List.getElem_range]
    exact .d (hr i 0 hi h0)
   ·obtain ⟨i, hi, rfl⟩ := List.mem_map.1 hv
    have hi' : i < es.length := by simpa using hi
    have hlen : es[i].length = 1 := hsz _ (List.getElem_mem hi')
    exact (hr i 0 hi' (by omega)).one
 unfold copySrc at h
 split at h
 ·rename_i k off n sz
  split at h
  ·rename_i rows hk
   simp only [Option.some.injEq, Prod.mk.injEq] at h
   obtain ⟨rfl, rfl⟩ := h
   obtain ⟨rfl, hfit⟩ := hφ
   cases hy with
   | msl hb hn hc =>
    rename_i b cap
    obtain ⟨_, cells, e, hh, hs, hR, h1⟩ := hm.box k rows b 1 hk hb
    have hlen : ((rows.drop off).take n).length = n := by simp; omega
    have hcl : rows.length = cells.toList.length := by have := hR.1; rw [flat_len hs] at this; simpa using this
    refine ⟨⟨b, off * 1, none⟩, cap, (cells.toList.drop off).take n, by rw [hlen], by simp at hcl ⊢; omega, fun j v hj => ?_, fun r hr => hs r (List.mem_of_mem_drop (List.mem_of_mem_take hr)), ?_, fun v hv => h1 v (List.mem_of_mem_drop (List.mem_of_mem_take hv))⟩
    ·rw [add_none, Nat.mul_one, cell_of_row w b _ cells e (0, 0) hh]
     have hjn : j < n := by
      have := (List.getElem?_eq_some_iff.1 hj).1
      simp at this; omega
     rw [List.getElem?_take_of_lt hjn, List.getElem?_drop] at hj
     simpa using hj
    ·rw [flat_take1 (fun r hr => hs r (List.mem_of_mem_drop hr)), flat_drop1 hs]
     exact (hR.drop off).take n
  ·cases h
 ·simp only [Option.some.injEq, Prod.mk.injEq] at h
  obtain ⟨rfl, rfl⟩ := h
  obtain ⟨rfl, hne⟩ := hφ
  cases hy with
  | d hd => exact data hne hd
 ·simp only [Option.some.injEq, Prod.mk.injEq] at h
  obtain ⟨rfl, rfl⟩ := h
  obtain ⟨rfl, hne⟩ := hφ
  cases hy with
  | osl hd _ => exact data hne hd
 ·cases h
def EffW (P : Program) (base : Nat) (o : Oper) (ρ : Operand → AV) (box : Nat → Option (List (List AV))) (v : AV) (box' : Nat → Option (List (List AV))) : Prop := match o.op with
 | .store T p x => match szOf P T, (ρ x).cells?, ρ p with
  | some n, some cs, .ptr k i off => match box k with
   | some rows => match rows[i]? with
    | some r => cs.length = n ∧ off + n ≤ r.length ∧ v = .bot ∧ box' = upd box k (some (rows.set i (setCells r off cs)))
    | none => False
   | none => False
  | _, _, _ => False
 | .box _ x => match o.dst, (ρ x).cells? with
  | some s, some cs => box (base + s) = none ∧ v = .ptr (base + s) 0 0 ∧ box' = upd box (base + s) (some [cs])
  | _, _ => False
 | .makeSlice T l c => match makeT P T, o.dst, ρ l, ρ c with
  | some (sz, by', zs), some s, .d (.raw (.int _ n)), .d (.raw (.int _ n')) => n' = n ∧ 0 ≤ n ∧ n.toNat * by' ≤ 281474976710656 ∧ box (base + s) = none ∧ v = .msl (base + s) 0 n.toNat sz ∧
    box' = upd box (base + s) (some (List.replicate n.toNat (zs.map ofVal1)))
  | _, _, _, _ => False
 | .call c => match c.callee, c.args.toList.map ρ, c.argTypes.toList with
  | .builtin .copy, [.msl k off n sz, y], [T, _] => match (elemT P T).bind (szOf P), box k, copySrc y box with
   | some 1, some rows, some (φ, src) => φ ∧ sz = 1 ∧ off + n ≤ rows.length ∧ v = .d (.raw (.int .i64 ((min src.length n : Nat) : Int))) ∧
     box' = upd box k (some (rows.take off ++ src.take (min src.length n) ++ rows.drop (off + min src.length n)))
   | _, _, _ => False
  | .builtin .clear, [.msl k off n sz], [T] => match makeT P T, box k with
   | some (sz', _, zs), some rows => sz' = sz ∧ off + n ≤ rows.length ∧ v = .tup [] ∧ box' = upd box k (some (rows.take off ++ List.replicate n (zs.map ofVal1) ++ rows.drop (off + n)))
   | _, _ => False
  | _, _, _ => False
 | _ => False
theorem flat_dropN {α : Type} {sz : Nat} : ∀ {rows : List (List α)} (_ : ∀ r ∈ rows, r.length = sz) (m : Nat), (rows.drop m).flatten = rows.flatten.drop (m * sz)
 | [], _, m => by simp
 | r :: rows, h, 0 => by simp
 | r :: rows, h, m + 1 => by
  have h1 := h r (by simp)
  have h2 : (m + 1) * sz = m * sz + sz := by rw [Nat.add_mul]; omega
  have h3 : r.drop ((m + 1) * sz) = [] := List.drop_eq_nil_of_le (by omega)
  have h4 : (m + 1) * sz - r.length = m * sz := by omega
  rw [List.drop_succ_cons, flat_dropN (fun q hq => h q (by simp [hq])) m, List.flatten_cons, List.drop_append, h3, h4, List.nil_append]
theorem flat_takeN {α : Type} {sz : Nat} : ∀ {rows : List (List α)} (_ : ∀ r ∈ rows, r.length = sz) (m : Nat), (rows.take m).flatten = rows.flatten.take (m * sz)
 | [], _, m => by simp
 | r :: rows, h, 0 => by simp
 | r :: rows, h, m + 1 => by
  have h1 := h r (by simp)
  have h2 : (m + 1) * sz = m * sz + sz := by rw [Nat.add_mul]; omega
  have h3 : r.take ((m + 1) * sz) = r := List.take_of_length_le (by omega)
  have h4 : (m + 1) * sz - r.length = m * sz := by omega
  rw [List.take_succ_cons, List.flatten_cons, flat_takeN (fun q hq => h q (by simp [hq])) m, List.flatten_cons, List.take_append, h3, h4]
theorem flat_lenN {α : Type} {sz : Nat} : ∀ {rows : List (List α)} (_ : ∀ r ∈ rows, r.length = sz), rows.flatten.length = rows.length * sz
 | [], _ => by simp
 | r :: rows, h => by
  rw [List.flatten_cons, List.length_append, h r (by simp), flat_lenN (fun q hq => h q (by simp [hq])), List.length_cons, Nat.add_mul]; omega
theorem zero_flat (z : Array Value) (n : Nat) (h : 0 < z.size) : (Builtin.zeroCells z n).toList = (List.replicate n z.toList).flatten := made_flat z n h
theorem run_storeVar {T b off : Nat} {v : Value} {w : World} {cur : Array Value} {e : TypeId} (hn : szOf P T = some v.cells.size) (hg : w.heap[b]? = some (.cells cur e (0, 0))) (hl : off + v.cells.size ≤ cur.size)
  (h1 : ∀ u ∈ v.cells.toList, u.oneCell' = true) : (storeVar T ⟨b, off, none⟩ v).run P w = .ok () (w.setRow b (setCells cur.toList off v.cells.toList).toArray) := by
 have hr := run_storeCells_at P b off e v.cells.toList 0 cur w hg (by simpa using hl) h1
 simp only [Nat.add_zero] at hr
 rw [setCells_eq _ _ _ (by simpa using hl)]
 simp only [storeVar, Sem.run_bind, run_sizeOf hn, Result.andThen_ok, ne_eq, not_true_eq_false, ↓reduceIte]
 exact hr
def After (P : Program) (o : Oper) (ρv : Operand → Value) (G : Gh) (w : World) (R : Value → Gh → World → Prop) : Prop :=
 ∃ nx u G' w', (execOp ρv o).run P w = .ok nx w' ∧ (nx = .value u ∨ nx = .skip ∧ u = undef) ∧ Le G w G' w' ∧ R u G' w'
theorem effW_sound {base : Nat} {o : Oper} {ρ : Operand → AV} {ρv : Operand → Value} {G : Gh} {m : AMem} {w : World} {v : AV} {box' : Nat → Option (List (List AV))} (h : EffW P base o ρ m.box v box')
  (hρ : ∀ x ∈ o.op.operands, RV G w (ρ x) (ρv x)) (hm : RelM G m w) (hd : ∀ s, o.dst = some s → base + s < m.nb) :
  After P o ρv G w fun u G' w' => RV G' w' v u ∧ RelM G' { m with box := box' } w' ∧ ∀ k, some k ≠ o.dst.map (base + ·) → G.bx k = none → G'.bx k = none ∧ box' k = m.box k := by
 unfold EffW at h
 split at h
 ·rename_i T p x ho
  have hp := hρ p (by rw [ho]; simp [Op.operands])
  have hx := hρ x (by rw [ho]; simp [Op.operands])
  split at h
  ·rename_i n cs k i off hn hcs hpk
   rw [hpk] at hp
   generalize hpv : ρv p = pv at hp
   cases hp with
   | ptr hb =>
    rename_i b sz
    split at h
    ·rename_i rows hbox
     split at h
     ·rename_i r hrow
      obtain ⟨rfl, h2, rfl, rfl⟩ := h
      obtain ⟨_, cells, e, hh, hs, hR, h1⟩ := hm.box k rows b sz hbox hb
      have hrl : r.length = sz := hs r (List.mem_of_getElem? hrow)
      have hi : i < rows.length := (List.getElem?_eq_some_iff.1 hrow).1
      obtain ⟨hcR, hc1⟩ := hx.cells hcs
      have hcl : (ρv x).cells.size = cs.length := by have := hcR.1; simpa using this.symm
      have hfl : rows.flatten.length = cells.toList.length := hR.1
      rw [flat_len hs] at hfl
      have hle : i * sz + sz ≤ cells.size := by
       have : (i + 1) * sz ≤ rows.length * sz := Nat.mul_le_mul_right _ (by omega)
       rw [Nat.add_mul] at this
       simp at hfl
       omega
      have hrun : (storeVar T ⟨b, i * sz + off, none⟩ (ρv x)).run P w = .ok () (w.setRow b (setCells cells.toList (i * sz + off) (ρv x).cells.toList).toArray) :=
       run_storeVar (by rw [hcl]; exact hn) hh (by omega) hc1
      have hrow' : ∀ r' ∈ rows.set i (setCells r off cs), r'.length = sz := by
       intro r' hr'
       rcases List.mem_or_eq_of_mem_set hr' with h3 | h3
       ·exact hs r' h3
       ·rw [h3, length_setCells, hrl]
      have hflat : (rows.set i (setCells r off cs)).flatten = setCells rows.flatten (i * sz + off) cs := flat_store cs hs hrow (by omega)
      refine ⟨.skip, undef, G, w.setRow b (setCells cells.toList (i * sz + off) (ρv x).cells.toList).toArray, ?_, .inr ⟨rfl, rfl⟩, Le.setRow (hm.blt hb).2 _, .bot, hm.setRow hb hrow' hh ?_ ?_, ?_⟩
      ·simp only [execOp, ho, Instr.storeAt, hpv, Instr.sureAddr, Sem.run_bind, Sem.run_pure, Result.andThen_ok, hrun]
      ·rw [hflat]
       simpa using hR.setCells hcR
      ·simpa using mem_setCells (p := fun u => Value.oneCell' u = true) (ρv x).cells.toList cells.toList (i * sz + off) h1 hc1
      ·intro j _ hj
       refine ⟨hj, upd_other _ _ (fun e => ?_)⟩
       subst e
       rw [hb] at hj
       cases hj
     ·exact h.elim
    ·exact h.elim
  ·exact h.elim
 ·rename_i T x ho
  have hx := hρ x (by rw [ho]; simp [Op.operands])
  split at h
  ·rename_i s cs hs hcs
   obtain ⟨h1, rfl, rfl⟩ := h
   obtain ⟨hcR, hc1⟩ := hx.cells hcs
   have hbx := hm.nobox _ h1
   have hrel := hm.mkbox (k := base + s) hbx (hd s hs) (sz := cs.length) (rows := [cs]) (by simp) (cs := (ρv x).cells) T (by simpa using hcR) hc1
   refine ⟨.value (.pointer (some ⟨w.heap.size, 0, none⟩)), _, G.mkbox (base + s) w.heap.size cs.length, w.alloc (.cells (ρv x).cells T), ?_, .inl rfl, Le.mkbox hm.fresh hm.tlt hbx _ _, ?_, hrel, ?_⟩
   ·simp only [execOp, ho, Instr.box, newVar, newRow, Sem.run_bind, Sem.run_pure, Result.andThen_ok]
    rfl
   ·have : (⟨w.heap.size, 0, none⟩ : Addr) = ⟨w.heap.size, 0 * cs.length + 0, none⟩ := by simp
    rw [this]
    exact .ptr (by simp [Gh.mkbox, upd_same])
   ·intro k hk hg
    have hne : k ≠ base + s := fun e => hk (by rw [hs, e]; rfl)
    exact ⟨by simp only [Gh.mkbox]; rw [upd_other _ _ hne]; exact hg, upd_other _ _ hne⟩
  ·exact h.elim
 ·rename_i T l c ho
  have hl := hρ l (by rw [ho]; simp [Op.operands])
  have hc := hρ c (by rw [ho]; simp [Op.operands])
  split at h
  ·rename_i sz by' zs s k1 n k2 n' hT hs hlv hcv
   obtain ⟨rfl, h0, hb, h1, rfl, rfl⟩ := h
   obtain ⟨E, i, z, hE, hi, hz, rfl, hlen, hsz, hby, hpos, hbpos, hone⟩ := makeT_spec hT
   rw [hlv] at hl
   rw [hcv] at hc
   have hl' : ρv l = .int k1 n' := by generalize ρv l = x at hl; cases hl with | d h => cases h with | raw => rfl
   have hc' : ρv c = .int k2 n' := by generalize ρv c = x at hc; cases hc with | d h => cases h with | raw => rfl
   have hbx := hm.nobox _ h1
   have hnb : n'.toNat ≤ 281474976710656 := Nat.le_trans (Nat.le_mul_of_pos_right _ hbpos) hb
   have hrun := run_make (P := P) w T E i z hE hi hz k1 k2 n' n' h0 (Int.le_refl _) (by
    have : ((n'.toNat * by' : Nat) : Int) ≤ 281474976710656 := by omega
    rw [Int.natCast_mul] at this
    rw [hby, Int.mul_comm]
    have e : ((n'.toNat : Nat) : Int) = n' := by omega
    rw [e] at this
    exact this) (by omega)
   have hzs : z.cells.size = sz := by simpa using hlen
   have hflat : (madeCells z.cells (n'.toNat * i.size)).toList = (List.replicate n'.toNat z.cells.toList).flatten := by
    rw [hsz, ← hzs]
    exact made_flat _ _ (by omega)
   have hrel := hm.mkbox (k := base + s) hbx (hd s hs) (sz := sz) (rows := List.replicate n'.toNat (z.cells.toList.map ofVal1)) (by
    intro r hr
    rw [List.eq_of_mem_replicate hr]
    simpa using hzs) (cs := madeCells z.cells (n'.toNat * i.size)) E (by
    rw [hflat]
    have e : (List.replicate n'.toNat (z.cells.toList.map ofVal1)).flatten = ((List.replicate n'.toNat z.cells.toList).flatten).map ofVal1 := by
     rw [List.map_flatten, List.map_replicate]
    rw [e]
    exact ⟨by simp, fun i h1 h2 => by simp only [List.getElem_map]; exact RV.of_ofVal1 _⟩) (by
    rw [hflat]
    intro u hu
    obtain ⟨l', hl1, hl2⟩ := List.mem_flatten.1 hu
    rw [List.eq_of_mem_replicate hl1] at hl2
    exact hone u hl2)
   refine ⟨.value (.slice (some ⟨w.heap.size, 0, none⟩) n'.toNat n'.toNat), _, G.mkbox (base + s) w.heap.size sz, w.alloc (.cells (madeCells z.cells (n'.toNat * i.size)) E), ?_, .inl rfl, Le.mkbox hm.fresh hm.tlt hbx _ _, ?_, hrel, ?_⟩
   ·simp only [execOp, ho, hl', hc', Sem.run_bind, hrun, Result.andThen_ok, Sem.run_pure]
   ·have : (⟨w.heap.size, 0, none⟩ : Addr) = ⟨w.heap.size, 0 * sz, none⟩ := by simp
    rw [this]
    exact .msl (by simp [Gh.mkbox, upd_same]) (Nat.le_refl _) (by unfold maxLen; omega)
   ·intro k hk hg
    have hne : k ≠ base + s := fun e => hk (by rw [hs, e]; rfl)
    exact ⟨by simp only [Gh.mkbox]; rw [upd_other _ _ hne]; exact hg, upd_other _ _ hne⟩
  ·exact h.elim
 ·rename_i c ho
  split at h
  ·rename_i k off n sz y T T' hcal hargs htys
   split at h
   ·rename_i rows φ src hT hk hsrc
    obtain ⟨hφ, rfl, hfit, rfl, rfl⟩ := h
    obtain ⟨x0, y0, ha⟩ : ∃ x0 y0, c.args.toList = [x0, y0] := list_two (by
     have hl := congrArg List.length hargs
     rw [List.length_map] at hl
     exact hl)
    rw [ha] at hargs
    simp only [List.map_cons, List.map_nil, List.cons.injEq, and_true] at hargs
    obtain ⟨hx0, rfl⟩ := hargs
    have hop : ∀ z ∈ c.args.toList, z ∈ o.op.operands := fun z hz => by rw [ho]; simp only [Op.operands, Call.operands]; rw [← Array.mem_toList_iff]; simp; exact .inr (by simpa using hz)
    have hx := hρ x0 (hop _ (by rw [ha]; simp))
    have hy := hρ y0 (hop _ (by rw [ha]; simp))
    rw [hx0] at hx
    obtain ⟨E, hE, hs1⟩ := Option.bind_eq_some_iff.1 hT
    have hun : P.underlying T = some (.slice E) := by
     unfold elemT at hE
     split at hE
     ·simp only [Option.some.injEq] at hE; subst hE; assumption
     ·cases hE
    obtain ⟨a, cap', cs, hyv, hcl, hcell, hs', hRs, hone⟩ := copySrc_sound hsrc hφ hy hm
    generalize hxv : ρv x0 = xv at hx
    cases hx with
    | msl hb hn hc =>
     rename_i b cap
     obtain ⟨hkb, cells, e, hh, hs, hR, h1⟩ := hm.box k rows b 1 hk hb
     have hrl : rows.length = cells.toList.length := by have := hR.1; rw [flat_len hs] at this; simpa using this
     have hml : (cs.take (min src.length n)).length = min src.length n := by rw [List.length_take]; omega
     have hrun := run_copy_row (P := P) w T T' o.type E b (off * 1) n cap a src.length cap' cells e (cs.take (min src.length n)) hun hs1 hh hml
      (fun j v hj => hcell j v (by
       have := (List.getElem?_eq_some_iff.1 hj).1
       rw [List.getElem?_take_of_lt (by omega)] at hj
       exact hj)) (by rw [hml]; simp at hrl; omega) (fun v hv => hone v (List.mem_of_mem_take hv))
     rw [hml, Nat.mul_one] at hrun
     have hrow' : ∀ r ∈ rows.take off ++ src.take (min src.length n) ++ rows.drop (off + min src.length n), r.length = 1 := by
      intro r hr
      rcases List.mem_append.1 hr with hr | hr
      ·rcases List.mem_append.1 hr with hr | hr
       ·exact hs r (List.mem_of_mem_take hr)
       ·exact hs' r (List.mem_of_mem_take hr)
      ·exact hs r (List.mem_of_mem_drop hr)
     refine ⟨.value (.int .i64 ((min src.length n : Nat) : Int)), _, G, w.setRow b (cells.toList.take off ++ cs.take (min src.length n) ++ cells.toList.drop (off + min src.length n)).toArray, ?_, .inl rfl, Le.setRow (hm.blt hb).2 _, .d (.raw rfl), hm.setRow hb hrow' hh ?_ ?_, ?_⟩
     ·have hca : c.args = #[x0, y0] := Array.ext' (by simpa using ha)
      have htyv : c.argTypes = #[T, T'] := Array.ext' (by simpa using htys)
      rw [Nat.mul_one] at hxv
      simp only [execOp, ho, resolve, hcal, hca, htyv, List.map_toArray, List.map_cons, List.map_nil, hxv, hyv, Sem.run_bind, Sem.run_pure, Result.andThen_ok, invoke, builtin, hrun]
      rfl
     ·rw [List.flatten_append, List.flatten_append, flat_take1 hs, flat_take1 hs', flat_drop1 hs]
      simpa using ((hR.take off).append (hRs.take (min src.length n))).append (hR.drop (off + min src.length n))
     ·intro v hv
      simp only [List.mem_append] at hv
      rcases hv with (hv | hv) | hv
      ·exact h1 v (List.mem_of_mem_take hv)
      ·exact hone v (List.mem_of_mem_take hv)
      ·exact h1 v (List.mem_of_mem_drop hv)
     ·intro j _ hj
      refine ⟨hj, upd_other _ _ (fun e => ?_)⟩
      subst e
      rw [hb] at hj
      cases hj
   ·exact h.elim
  ·rename_i k off n sz T hcal hargs htys
   split at h
   ·rename_i sz' by' zs rows hT hk
    obtain ⟨rfl, hfit, rfl, rfl⟩ := h
    obtain ⟨x0, ha⟩ : ∃ x0, c.args.toList = [x0] := by
     have hl := congrArg List.length hargs
     rw [List.length_map] at hl
     exact List.length_eq_one_iff.1 hl
    rw [ha] at hargs
    simp only [List.map_cons, List.map_nil, List.cons.injEq, and_true] at hargs
    have hop : ∀ z ∈ c.args.toList, z ∈ o.op.operands := fun z hz => by rw [ho]; simp only [Op.operands, Call.operands]; rw [← Array.mem_toList_iff]; simp; exact .inr (by simpa using hz)
    have hx := hρ x0 (hop _ (by rw [ha]; simp))
    rw [hargs] at hx
    obtain ⟨E, i, z, hE, hi, hz, rfl, hlen, hsz, hby, hpos, hbpos, hone⟩ := makeT_spec hT
    generalize hxv : ρv x0 = xv at hx
    have hca : c.args = #[x0] := Array.ext' (by simpa using ha)
    have htyv : c.argTypes = #[T] := Array.ext' (by simpa using htys)
    have hexec : ∀ w', (Builtin.clear_ #[T] o.type #[xv]).run P w = .ok (.tuple #[]) w' → (execOp ρv o).run P w = .ok (.value (.tuple #[])) w' := by
     intro w' hr
     simp only [execOp, ho, resolve, hcal, hca, htyv, List.map_toArray, List.map_cons, List.map_nil, hxv, Sem.run_bind, Sem.run_pure, Result.andThen_ok, invoke, builtin, hr]
    have htup : RV G w (.tup []) (.tuple #[]) := .tup (vs := []) rfl fun i h => by simp at h
    have hzs : z.cells.size = sz' := by simpa using hlen
    cases hx with
    | msl hb hn hc =>
     rename_i b cap
     have hkeep : ∀ (rows' : List (List AV)) (j : Nat), some j ≠ o.dst.map (base + ·) → G.bx j = none → G.bx j = none ∧ upd m.box k (some rows') j = m.box j := fun rows' j _ hj => ⟨hj, upd_other _ _ (fun e => by
      subst e
      rw [hb] at hj
      cases hj)⟩
     by_cases hn0 : n = 0
     ·subst hn0
      refine ⟨_, _, G, w, hexec w ?_, .inl rfl, Le.refl G w, htup, ?_, hkeep _⟩
      ·simp [Builtin.clear_, run_underlying hE]
      ·have e : rows.take off ++ List.replicate 0 (z.cells.toList.map ofVal1) ++ rows.drop (off + 0) = rows := by simp
       rw [e]
       have e2 : upd m.box k (some rows) = m.box := by
        funext j
        by_cases h : j = k
        ·subst h; rw [upd_same, hk]
        ·exact upd_other _ _ h
       rw [e2]
       exact hm
     ·obtain ⟨hkb, cells, e, hh, hs, hR, h1⟩ := hm.box k rows b sz' hk hb
      have hcl : cells.size = rows.length * sz' := by have := hR.1; rw [flat_lenN hs] at this; simpa using this.symm
      have hzl : (Builtin.zeroCells z.cells n).toList.length = n * sz' := by rw [zero_flat _ _ (by omega)]; simp [List.length_flatten, hzs]
      have hz1 : ∀ u ∈ (Builtin.zeroCells z.cells n).toList, u.oneCell' = true := by
       rw [zero_flat _ _ (by omega)]
       intro u hu
       obtain ⟨l', hl1, hl2⟩ := List.mem_flatten.1 hu
       rw [List.eq_of_mem_replicate hl1] at hl2
       exact hone u hl2
      have hle2 : off * sz' + n * sz' ≤ rows.length * sz' := by rw [← Nat.add_mul]; exact Nat.mul_le_mul_right _ hfit
      have hst := run_storeCells_at P b (off * sz') e (Builtin.zeroCells z.cells n).toList 0 cells w hh (by rw [hzl]; omega) hz1
      simp only [Nat.add_zero, hzl] at hst
      have hzr : ∀ w, (zeroValue E).run P w = .ok z w := fun w => by simp [zeroValue, typeInfo, hi, hz]
      have hrun : (Builtin.clear_ #[T] o.type #[.slice (some ⟨b, off * sz', none⟩) n cap]).run P w = .ok (.tuple #[]) (w.setRow b (cells.toList.take (off * sz') ++ (Builtin.zeroCells z.cells n).toList ++ cells.toList.drop (off * sz' + n * sz')).toArray) := by
       obtain ⟨n', rfl⟩ := Nat.exists_eq_succ_of_ne_zero hn0
       simp [Builtin.clear_, run_underlying hE, hzr, hst]
      have hrow' : ∀ r ∈ rows.take off ++ List.replicate n (z.cells.toList.map ofVal1) ++ rows.drop (off + n), r.length = sz' := by
       intro r hr
       rcases List.mem_append.1 hr with hr | hr
       ·rcases List.mem_append.1 hr with hr | hr
        ·exact hs r (List.mem_of_mem_take hr)
        ·rw [List.eq_of_mem_replicate hr]; simpa using hzs
       ·exact hs r (List.mem_of_mem_drop hr)
      refine ⟨_, _, G, _, hexec _ hrun, .inl rfl, Le.setRow (hm.blt hb).2 _, htup.mono (Le.setRow (hm.blt hb).2 _), hm.setRow hb hrow' hh ?_ ?_, hkeep _⟩
      ·rw [List.flatten_append, List.flatten_append, flat_takeN hs, flat_dropN hs, Nat.add_mul]
       have hmid : RVs G w (List.replicate n (z.cells.toList.map ofVal1)).flatten (Builtin.zeroCells z.cells n).toList := by
        rw [zero_flat _ _ (by omega)]
        have e : (List.replicate n (z.cells.toList.map ofVal1)).flatten = ((List.replicate n z.cells.toList).flatten).map ofVal1 := by
         rw [List.map_flatten, List.map_replicate]
        rw [e]
        exact ⟨by simp, fun i h1 h2 => by simp only [List.getElem_map]; exact RV.of_ofVal1 _⟩
       simpa using ((hR.take (off * sz')).append hmid).append (hR.drop (off * sz' + n * sz'))
      ·intro v hv
       simp only [List.mem_append] at hv
       rcases hv with (hv | hv) | hv
       ·exact h1 v (List.mem_of_mem_take hv)
       ·exact hz1 v hv
       ·exact h1 v (List.mem_of_mem_drop hv)
   ·exact h.elim
  ·exact h.elim
 ·exact h.elim
def Own.live (tok : Nat → Bool) : Own → Bool
 | .full => true
 | .tok t => tok t
def Own.kill (tok : Nat → Bool) : Own → (Nat → Bool)
 | .full => tok
 | .tok t => upd tok t false
def Gh.kill (G : Gh) : Own → Gh
 | .full => G
 | .tok t => { G with tk := upd G.tk t none }
theorem Le.kill {G : Gh} {w : World} (o : Own) : Le G w (G.kill o) w := by
 cases o with
 | full => exact Le.refl G w
 | tok t =>
  exact ⟨rfl, rfl, rfl, Nat.le_refl _, fun _ _ h => ⟨h, rfl⟩, fun _ f _ h => ⟨⟨f, Nat.le_refl _, h⟩, fun _ _ _ => rfl⟩, fun _ _ h => h, Nat.le_refl _, fun s _ => by
   by_cases e : s = t
   ·exact .inl (by subst e; simp [Gh.kill, upd_same])
   ·exact .inr ⟨by simp only [Gh.kill]; exact upd_other _ _ e, fun _ _ => ⟨rfl, fun _ => rfl⟩⟩, fun _ _ _ _ h => ⟨_, _, h⟩⟩
theorem RelM.kill {G : Gh} {m : AMem} {w : World} (h : RelM G m w) (o : Own) : RelM (G.kill o) { m with tok := o.kill m.tok } w := by
 cases o with
 | full => exact h
 | tok t =>
  have tk' : ∀ s x, (upd G.tk t none) s = some x → s ≠ t ∧ G.tk s = some x := by
   intro s x hs
   by_cases e : s = t
   ·subst e; simp [upd_same] at hs
   ·exact ⟨e, by rw [upd_other _ _ e] at hs; exact hs⟩
  constructor
  case box =>
   intro k rows b sz hk hb
   obtain ⟨h1, cs, e, h2, h3, h4, h5⟩ := h.box k rows b sz hk hb
   exact ⟨h1, cs, e, h2, h3, h4.mono (Le.kill (.tok t)), h5⟩
  case nobox => exact h.nobox
  case inj => exact h.inj
  case nb => exact h.nb
  case nt => exact h.nt
  case toks =>
   intro s hs
   simp only [Own.kill] at hs
   by_cases e : s = t
   ·subst e; simp [upd_same] at hs
   ·rw [upd_other _ _ e] at hs
    obtain ⟨h1, x, h2⟩ := h.toks s hs
    exact ⟨h1, x, by simp only [Gh.kill]; rw [upd_other _ _ e]; exact h2⟩
  case tokb => intro s g hs; exact h.tokb s g (tk' s _ hs).2
  case tinj => intro s s' g hs hs'; exact h.tinj s s' g (tk' s _ hs).2 (tk' s' _ hs').2
  case tnt => intro s x hs; exact h.tnt s x (tk' s _ hs).2
  case fresh => exact h.fresh
def Gh.newtok (G : Gh) (x : Option Nat) : Gh := { G with tk := upd G.tk G.nt (some x), nt := G.nt + 1 }
theorem Le.newtok {G : Gh} {w : World} (x : Option Nat) : Le G w (G.newtok x) w :=
 ⟨rfl, rfl, rfl, Nat.le_refl _, fun _ _ h => ⟨h, rfl⟩, fun _ f _ h => ⟨⟨f, Nat.le_refl _, h⟩, fun _ _ _ => rfl⟩, fun _ _ h => h, Nat.le_succ _, fun s hs => .inr ⟨by
  simp only [Gh.newtok]; exact upd_other _ _ (by omega), fun _ _ => ⟨rfl, fun _ => rfl⟩⟩, fun _ _ _ _ h => ⟨_, _, h⟩⟩
theorem RelM.newtok {G : Gh} {m : AMem} {w : World} (h : RelM G m w) (x : Option Nat)
  (hx : ∀ g, x = some g → (∀ t, G.tk t ≠ some (some g)) ∧ ∃ f cur e, (G.kind g = .part f cur.size ∨ G.kind g = .ex) ∧ w.heap[g]? = some (.cells cur e (0, 0))) :
  RelM (G.newtok x) { m with tok := upd m.tok m.nt true, nt := m.nt + 1 } w := by
 have tk' : ∀ s y, (upd G.tk G.nt (some x)) s = some y → (s = G.nt ∧ y = x) ∨ (s ≠ G.nt ∧ G.tk s = some y) := by
  intro s y hs
  by_cases e : s = G.nt
  ·subst e
   rw [upd_same] at hs
   cases hs
   exact .inl ⟨rfl, rfl⟩
  ·exact .inr ⟨e, by rw [upd_other _ _ e] at hs; exact hs⟩
 constructor
 case box =>
  intro k rows b sz hk hb
  obtain ⟨h1, cs, e, h2, h3, h4, h5⟩ := h.box k rows b sz hk hb
  exact ⟨h1, cs, e, h2, h3, h4.mono (Le.newtok x), h5⟩
 case nobox => exact h.nobox
 case inj => exact h.inj
 case nb => exact h.nb
 case nt => simp only [Gh.newtok]; rw [h.nt]
 case toks =>
  intro s hs
  simp only at hs
  by_cases e : s = m.nt
  ·subst e
   exact ⟨Nat.lt_succ_self _, x, by simp only [Gh.newtok]; rw [h.nt, upd_same]⟩
  ·rw [upd_other _ _ e] at hs
   obtain ⟨h1, y, h2⟩ := h.toks s hs
   exact ⟨Nat.lt_succ_of_lt h1, y, by simp only [Gh.newtok]; rw [h.nt, upd_other _ _ e]; exact h2⟩
 case tokb =>
  intro s g hs
  rcases tk' s _ hs with ⟨_, e⟩ | ⟨_, e⟩
  ·exact (hx g e.symm).2
  ·exact h.tokb s g e
 case tinj =>
  intro s s' g hs hs'
  rcases tk' s _ hs with ⟨e1, e⟩ | ⟨e1, e⟩ <;> rcases tk' s' _ hs' with ⟨e2, e'⟩ | ⟨e2, e'⟩
  ·exact e1.trans e2.symm
  ·exact absurd e' ((hx g e.symm).1 s')
  ·exact absurd e ((hx g e'.symm).1 s)
  ·exact h.tinj s s' g e e'
 case tnt =>
  intro s y hs
  simp only [Gh.newtok]
  rcases tk' s _ hs with ⟨e1, _⟩ | ⟨_, e⟩
  ·omega
  ·have := h.tnt s y e; omega
 case fresh => exact h.fresh
def Gh.setKind (G : Gh) (g : Nat) (k : BK) : Gh := { G with kind := upd G.kind g k }
theorem Le.newpart {G : Gh} {m : AMem} {w : World} (h : RelM G m w) (f c : Nat) (o : Obj) : Le G w (G.setKind w.heap.size (.part f c)) (w.alloc o) where
 os := rfl
 tape := rfl
 output := rfl
 size := by simp
 whole b hb hk := ⟨by simp only [Gh.setKind]; rw [upd_other _ _ (by omega)]; exact hk, Go.RowKit.Below.heap_alloc w o b hb⟩
 part b f c hk := by
  have hne : b ≠ w.heap.size := fun e => by
   have := h.fresh b (by omega)
   rw [hk] at this; cases this
  exact ⟨⟨f, Nat.le_refl _, by simp only [Gh.setKind]; rw [upd_other _ _ hne]; exact hk⟩, fun a ha _ => World.cell?_alloc_old w o a (by omega)⟩
 bx _ _ h := h
 nt := Nat.le_refl _
 tk t _ := .inr ⟨rfl, fun g hg => by
  have hlt := h.tlt t g hg
  simp only [Gh.setKind]
  rw [upd_other _ _ (by omega)]
  exact ⟨rfl, fun _ => Go.RowKit.Below.heap_alloc w o g hlt⟩⟩
 ty b cs T f hb := ⟨cs, f, (Go.RowKit.Below.heap_alloc w o b (Array.getElem?_eq_some_iff.1 hb).1).trans hb⟩
theorem RelM.newpart {G : Gh} {m : AMem} {w : World} (h : RelM G m w) (f c : Nat) (o : Obj) : RelM (G.setKind w.heap.size (.part f c)) m (w.alloc o) := by
 have hle := Le.newpart h f c o
 constructor
 case box =>
  intro k rows b sz hk hb
  obtain ⟨h1, cs, e, h2, h3, h4, h5⟩ := h.box k rows b sz hk hb
  refine ⟨?_, cs, e, (Go.RowKit.Below.heap_alloc w o b (heap_lt h2)).trans h2, h3, h4.mono hle, h5⟩
  simp only [Gh.setKind]
  rw [upd_other _ _ (by have := heap_lt h2; omega)]
  exact h1
 case nobox => exact h.nobox
 case inj => exact h.inj
 case nb => exact h.nb
 case nt => exact h.nt
 case toks => exact h.toks
 case tokb =>
  intro t g ht
  obtain ⟨f', cur, e, h1, h2⟩ := h.tokb t g ht
  refine ⟨f', cur, e, ?_, (Go.RowKit.Below.heap_alloc w o g (heap_lt h2)).trans h2⟩
  simp only [Gh.setKind]
  rw [upd_other _ _ (by have := heap_lt h2; omega)]
  exact h1
 case tinj => exact h.tinj
 case tnt => exact h.tnt
 case fresh =>
  intro b hb
  simp at hb
  simp only [Gh.setKind]
  rw [upd_other _ _ (by omega)]
  exact h.fresh b (by omega)
theorem Le.fill {G : Gh} {w : World} {g f f' c : Nat} (hk : G.kind g = .part f c) (hf : f ≤ f') (ht : ∀ t, G.tk t ≠ some (some g)) {cur new : Array Value} {e : TypeId} {fr : Nat × Nat} (hg : w.heap[g]? = some (.cells cur e fr))
  (hsame : ∀ o, o < f → new[o]? = cur[o]?) : Le G w (G.setKind g (.part f' c)) (w.setRow g new) where
 os := rfl
 tape := rfl
 output := rfl
 size := by simp [World.setRow]
 whole b hb h := by
  have hne : b ≠ g := fun e => by subst e; rw [hk] at h; cases h
  exact ⟨by simp only [Gh.setKind]; rw [upd_other _ _ hne]; exact h, setRow_other w g b new hne⟩
 part b f0 c0 h := by
  by_cases e : b = g
  ·subst e
   rw [hk] at h
   cases h
   refine ⟨⟨f', hf, by simp [Gh.setKind, upd_same]⟩, fun a ha ho => ?_⟩
   subst ha
   simp only [World.cell?, hg, setRow_heap w a.block cur new _ _ hg]
   split
   ·rfl
   ·exact hsame a.off ho
  ·exact ⟨⟨f0, Nat.le_refl _, by simp only [Gh.setKind]; rw [upd_other _ _ e]; exact h⟩, fun a ha _ => cell_setRow_other w g new a (by omega)⟩
 bx _ _ h := h
 nt := Nat.le_refl _
 tk t _ := .inr ⟨rfl, fun j hj => by
  have hne : j ≠ g := fun e => by subst e; exact ht t hj
  simp only [Gh.setKind]
  exact ⟨upd_other _ _ hne, fun _ => setRow_other w g j new hne⟩⟩
 ty b c0 T f0 hb := setRow_ty w g b new c0 T f0 hb
theorem RelM.fill {G : Gh} {m : AMem} {w : World} (h : RelM G m w) {g f f' c : Nat} (hk : G.kind g = .part f c) (hf : f ≤ f') (ht : ∀ t, G.tk t ≠ some (some g)) {cur new : Array Value} {e : TypeId}
  (hg : w.heap[g]? = some (.cells cur e (0, 0))) (hsame : ∀ o, o < f → new[o]? = cur[o]?) : RelM (G.setKind g (.part f' c)) m (w.setRow g new) := by
 have hle := Le.fill hk hf ht hg hsame
 constructor
 case box =>
  intro k rows b sz hkk hb
  obtain ⟨h1, cs, e', h2, h3, h4, h5⟩ := h.box k rows b sz hkk hb
  have hne : b ≠ g := fun e => by subst e; rw [hk] at h1; cases h1
  refine ⟨?_, cs, e', (setRow_other w g b new hne).trans h2, h3, h4.mono hle, h5⟩
  simp only [Gh.setKind]
  rw [upd_other _ _ hne]
  exact h1
 case nobox => exact h.nobox
 case inj => exact h.inj
 case nb => exact h.nb
 case nt => exact h.nt
 case toks => exact h.toks
 case tokb =>
  intro t j hj
  obtain ⟨f0, cur0, e0, h1, h2⟩ := h.tokb t j hj
  have hne : j ≠ g := fun e => by subst e; exact ht t hj
  refine ⟨f0, cur0, e0, ?_, (setRow_other w g j new hne).trans h2⟩
  simp only [Gh.setKind]
  rw [upd_other _ _ hne]
  exact h1
 case tinj => exact h.tinj
 case tnt => exact h.tnt
 case fresh =>
  intro b hb
  have hb' : w.heap.size ≤ b := by simpa [World.setRow] using hb
  simp only [Gh.setKind]
  rw [upd_other _ _ (by have := heap_lt hg; omega)]
  exact h.fresh b hb'
theorem Le.newkind {G : Gh} {m : AMem} {w : World} (h : RelM G m w) (k : BK) (o : Obj) : Le G w (G.setKind w.heap.size k) (w.alloc o) where
 os := rfl
 tape := rfl
 output := rfl
 size := by simp
 whole b hb hk := ⟨by simp only [Gh.setKind]; rw [upd_other _ _ (by omega)]; exact hk, Go.RowKit.Below.heap_alloc w o b hb⟩
 part b f c hk := by
  have hne : b ≠ w.heap.size := fun e => by
   have := h.fresh b (by omega)
   rw [hk] at this; cases this
  exact ⟨⟨f, Nat.le_refl _, by simp only [Gh.setKind]; rw [upd_other _ _ hne]; exact hk⟩, fun a ha _ => World.cell?_alloc_old w o a (by omega)⟩
 bx _ _ h := h
 nt := Nat.le_refl _
 tk t _ := .inr ⟨rfl, fun g hg => by
  have hlt := h.tlt t g hg
  simp only [Gh.setKind]
  rw [upd_other _ _ (by omega)]
  exact ⟨rfl, fun _ => Go.RowKit.Below.heap_alloc w o g hlt⟩⟩
 ty b cs T f hb := ⟨cs, f, (Go.RowKit.Below.heap_alloc w o b (Array.getElem?_eq_some_iff.1 hb).1).trans hb⟩
theorem RelM.newkind {G : Gh} {m : AMem} {w : World} (h : RelM G m w) (kd : BK) (o : Obj) : RelM (G.setKind w.heap.size kd) m (w.alloc o) := by
 have hle := Le.newkind h kd o
 constructor
 case box =>
  intro k rows b sz hk hb
  obtain ⟨h1, cs, e, h2, h3, h4, h5⟩ := h.box k rows b sz hk hb
  refine ⟨?_, cs, e, (Go.RowKit.Below.heap_alloc w o b (heap_lt h2)).trans h2, h3, h4.mono hle, h5⟩
  simp only [Gh.setKind]
  rw [upd_other _ _ (by have := heap_lt h2; omega)]
  exact h1
 case nobox => exact h.nobox
 case inj => exact h.inj
 case nb => exact h.nb
 case nt => exact h.nt
 case toks => exact h.toks
 case tokb =>
  intro t g ht
  obtain ⟨f', cur, e, h1, h2⟩ := h.tokb t g ht
  refine ⟨f', cur, e, ?_, (Go.RowKit.Below.heap_alloc w o g (heap_lt h2)).trans h2⟩
  simp only [Gh.setKind]
  rw [upd_other _ _ (by have := heap_lt h2; omega)]
  exact h1
 case tinj => exact h.tinj
 case tnt => exact h.tnt
 case fresh =>
  intro b hb
  simp at hb
  simp only [Gh.setKind]
  rw [upd_other _ _ (by omega)]
  exact h.fresh b (by omega)
theorem Le.fillx {G : Gh} {w : World} {g : Nat} (hk : G.kind g = .ex) (ht : ∀ t, G.tk t ≠ some (some g)) {cur new : Array Value} {e : TypeId} {fr : Nat × Nat} (hg : w.heap[g]? = some (.cells cur e fr)) : Le G w G (w.setRow g new) where
 os := rfl
 tape := rfl
 output := rfl
 size := by simp [World.setRow]
 whole b hb h := ⟨h, setRow_other w g b new (fun e => by subst e; rw [hk] at h; cases h)⟩
 part b f0 c0 h := ⟨⟨f0, Nat.le_refl _, h⟩, fun a ha _ => cell_setRow_other w g new a (fun e => by
  have : G.kind g = .part f0 c0 := by rw [← e, ha]; exact h
  rw [hk] at this; cases this)⟩
 bx _ _ h := h
 nt := Nat.le_refl _
 tk t _ := .inr ⟨rfl, fun j hj => ⟨rfl, fun _ => setRow_other w g j new (fun e => by subst e; exact ht t hj)⟩⟩
 ty b c0 T f0 hb := setRow_ty w g b new c0 T f0 hb
theorem RelM.fillx {G : Gh} {m : AMem} {w : World} (h : RelM G m w) {g : Nat} (hk : G.kind g = .ex) (ht : ∀ t, G.tk t ≠ some (some g)) {cur new : Array Value} {e : TypeId}
  (hg : w.heap[g]? = some (.cells cur e (0, 0))) : RelM G m (w.setRow g new) := by
 have hle := Le.fillx (new := new) hk ht hg
 constructor
 case box =>
  intro k rows b sz hkk hb
  obtain ⟨h1, cs, e', h2, h3, h4, h5⟩ := h.box k rows b sz hkk hb
  exact ⟨h1, cs, e', (setRow_other w g b new (fun e => by subst e; rw [hk] at h1; cases h1)).trans h2, h3, h4.mono hle, h5⟩
 case nobox => exact h.nobox
 case inj => exact h.inj
 case nb => exact h.nb
 case nt => exact h.nt
 case toks => exact h.toks
 case tokb =>
  intro t j hj
  obtain ⟨f0, cur0, e0, h1, h2⟩ := h.tokb t j hj
  exact ⟨f0, cur0, e0, h1, (setRow_other w g j new (fun e => by subst e; exact ht t hj)).trans h2⟩
 case tinj => exact h.tinj
 case tnt => exact h.tnt
 case fresh =>
  intro b hb
  exact h.fresh b (by simpa [World.setRow] using hb)
end Go.AM
namespace Go.AM
open Go
variable {P : Program}
def rowT (P : Program) (T : TypeId) : Option (TypeId × Nat × Nat) := match P.underlying T with
 | some (.slice E) => match P.info? E with
  | some i => match i.zero with
   | some z => if z.cells.size = i.size ∧ 0 < i.size ∧ 0 < i.bytes then some (E, i.size, i.bytes) else none
   | none => none
  | none => none
 | _ => none
theorem rowT_spec {T E sz by' : Nat} (h : rowT P T = some (E, sz, by')) : P.underlying T = some (.slice E) ∧ ∃ i z, P.info? E = some i ∧ i.zero = some z ∧ z.cells.size = sz ∧ i.size = sz ∧ i.bytes = by' ∧ 0 < sz ∧ 0 < by' := by
 unfold rowT at h
 split at h
 ·rename_i E' hE
  split at h
  ·rename_i i hi
   split at h
   ·rename_i z hz
    split at h
    ·rename_i hc
     simp only [Option.some.injEq, Prod.mk.injEq] at h
     obtain ⟨rfl, rfl, rfl⟩ := h
     exact ⟨hE, i, z, hi, hz, hc.1, rfl, rfl, hc.2.1, hc.2.2⟩
    ·cases h
   ·cases h
  ·cases h
 ·cases h
structure Flat (c : Addr → Option Value) (ps : Addr → Prop) (sz : Nat) (es : List (List D)) (A : Option Addr) (vs : List Value) : Prop where
 len : vs.length = es.length * sz
 at_ : ∀ a, A = some a → ∀ q u, vs[q]? = some u → ps (a.add q) ∧ c (a.add q) = some u
 one : ∀ u ∈ vs, u.oneCell' = true
 some_ : es ≠ [] → ∃ a, A = some a
 each : ∀ e ∈ es, e.length = sz
 read : ∀ i j (hi : i < es.length) (hj : j < es[i].length), ∃ u, vs[i * sz + j]? = some u ∧ RVd c ps es[i][j] u
theorem RVd.flat {c : Addr → Option Value} {ps : Addr → Prop} {sz : Nat} {es : List (List D)} {v : Value} (h : RVd c ps (.sl sz es) v) :
    ∃ A cap vs, v = .slice A es.length cap ∧ es.length ≤ cap ∧ cap ≤ maxLen ∧ Flat c ps sz es A vs := by
  cases h with
  | sl u hcap hmax hsz hA hc hr =>
    rename_i A cap
    refine ⟨A, cap, (List.range (es.length * sz)).map fun q => u (q / sz) (q % sz), rfl, hcap, hmax, ⟨by simp, ?_, ?_, hA, hsz, ?_⟩⟩
    · intro a ha q x hq
      simp only [List.getElem?_map] at hq
      obtain ⟨q', hq', rfl⟩ := Option.map_eq_some_iff.1 hq
      obtain ⟨hlt, rfl⟩ := List.getElem?_eq_some_iff.1 hq'
      simp at hlt ⊢
      have hpos : 0 < sz := by rcases Nat.eq_zero_or_pos sz with h | h; · subst h; simp at hlt
                               · exact h
      have h1 : q / sz < es.length := (Nat.div_lt_iff_lt_mul hpos).2 hlt
      have h2 := hc a ha (q / sz) (q % sz) h1 (Nat.mod_lt _ hpos)
      rw [Nat.mul_comm, Nat.div_add_mod] at h2
      exact h2
    · intro x hx
      simp at hx
      obtain ⟨q, hlt, rfl⟩ := hx
      have hpos : 0 < sz := by rcases Nat.eq_zero_or_pos sz with h | h; · subst h; simp at hlt
                               · exact h
      have h1 : q / sz < es.length := (Nat.div_lt_iff_lt_mul hpos).2 hlt
      have h3 := hsz _ (List.getElem_mem h1)
      exact (hr (q / sz) (q % sz) h1 (by rw [h3]; exact Nat.mod_lt _ hpos)).one
    · intro i j hi hj
      have hl := hsz _ (List.getElem_mem hi)
      have hlt : i * sz + j < es.length * sz := by
        have : (i + 1) * sz ≤ es.length * sz := Nat.mul_le_mul_right _ (by omega)
        rw [Nat.add_mul] at this; omega
      have e1 : (i * sz + j) / sz = i := by
        rw [Nat.mul_comm, Nat.mul_add_div (by omega), Nat.div_eq_of_lt (by omega)]; omega
      have e2 : (i * sz + j) % sz = j := by
        rw [Nat.mul_comm, Nat.mul_add_mod, Nat.mod_eq_of_lt (by omega)]
      exact ⟨u i j, by simp [hlt, e1, e2], hr i j hi hj⟩
theorem RVd.of_flat {c : Addr → Option Value} {ps : Addr → Prop} {sz : Nat} {es : List (List D)} {A : Option Addr} {cap : Nat} {vs : List Value} (hcap : es.length ≤ cap) (hmax : cap ≤ maxLen) (h : Flat c ps sz es A vs) :
  RVd c ps (.sl sz es) (.slice A es.length cap) := by
 refine .sl (fun i j => vs.getD (i * sz + j) default) hcap hmax h.each h.some_ ?_ ?_
 ·intro a ha i j hi hj
  obtain ⟨u, hu, _⟩ := h.read i j hi (by rw [h.each _ (List.getElem_mem hi)]; exact hj)
  obtain ⟨h1, h2⟩ := h.at_ a ha _ u hu
  refine ⟨h1, ?_⟩
  simp only [List.getD_eq_getElem?_getD, hu, Option.getD_some]
  exact h2
 ·intro i j hi hj
  obtain ⟨u, hu, hr⟩ := h.read i j hi hj
  simp only [List.getD_eq_getElem?_getD, hu, Option.getD_some]
  exact hr
theorem Flat.mono {c c' : Addr → Option Value} {ps ps' : Addr → Prop} (h : ∀ a u, ps a → c a = some u → ps' a ∧ c' a = some u) {sz : Nat} {es : List (List D)} {A : Option Addr} {vs : List Value} (r : Flat c ps sz es A vs) : Flat c' ps' sz es A vs where
 len := r.len
 at_ a ha q u hq := h _ _ (r.at_ a ha q u hq).1 (r.at_ a ha q u hq).2
 one := r.one
 some_ := r.some_
 each := r.each
 read i j hi hj := let ⟨u, hu, hr⟩ := r.read i j hi hj; ⟨u, hu, hr.mono h⟩
def bytesD (s : ByteArray) : List (List D) := s.data.toList.map fun b => [D.raw (.int .u8 b.toNat)]
theorem bytesD_len (s : ByteArray) : (bytesD s).length = s.size := by rw [bytesD, List.length_map, Array.length_toList]; rfl
theorem Flat.v {c : Addr → Option Value} {ps : Addr → Prop} {sz : Nat} {es : List (List D)} {A : Option Addr} {vs : List Value} (h : Flat c ps sz es A vs) : FlatV c ps sz es vs := ⟨h.len, h.one, h.each, h.read⟩
theorem FlatV.bytes (c : Addr → Option Value) (ps : Addr → Prop) (s : ByteArray) : FlatV c ps 1 (bytesD s) (Lib.strCells s) where
 len := by simp [bytesD, Lib.strCells]
 one := Lib.strCells_oneCell s
 each e he := by
  simp only [bytesD, List.mem_map] at he
  obtain ⟨b, _, rfl⟩ := he
  rfl
 read i j hi hj := by
  simp only [bytesD, List.getElem_map, List.length_cons, List.length_nil] at hj ⊢
  have hj0 : j = 0 := by omega
  subst hj0
  simp only [bytesD, List.length_map] at hi
  refine ⟨.int .u8 (s.data.toList[i]).toNat, ?_, .raw rfl⟩
  have hi' : i < s.data.size := by simpa using hi
  refine by simp [Lib.strCells]; exact ⟨_, Array.getElem?_eq_getElem hi', rfl⟩
theorem Flat.append {c : Addr → Option Value} {ps : Addr → Prop} {sz : Nat} {es news : List (List D)} {A : Option Addr} {vs us : List Value} (h : Flat c ps sz es A vs) (k : FlatV c ps sz news us) (a : Addr)
  (hat : ∀ q u, (vs ++ us)[q]? = some u → ps (a.add q) ∧ c (a.add q) = some u) : Flat c ps sz (es ++ news) (some a) (vs ++ us) where
 len := by rw [List.length_append, List.length_append, h.len, k.len, Nat.add_mul]
 at_ a' ha' q u hq := by cases ha'; exact hat q u hq
 one u hu := by
  rcases List.mem_append.1 hu with h1 | h1
  ·exact h.one u h1
  ·exact k.one u h1
 some_ _ := ⟨a, rfl⟩
 each e he := by
  rcases List.mem_append.1 he with h1 | h1
  ·exact h.each e h1
  ·exact k.each e h1
 read i j hi hj := by
  by_cases hlt : i < es.length
  ·simp only [List.getElem_append_left hlt] at hj ⊢
   obtain ⟨u, hu, hr⟩ := h.read i j hlt hj
   refine ⟨u, ?_, hr⟩
   rw [List.getElem?_append_left (List.getElem?_eq_some_iff.1 hu).1]
   exact hu
  ·simp only [List.getElem_append_right (by omega : es.length ≤ i)] at hj ⊢
   obtain ⟨u, hu, hr⟩ := k.read (i - es.length) j (by simp at hi; omega) hj
   refine ⟨u, ?_, hr⟩
   have e1 : i * sz + j = vs.length + ((i - es.length) * sz + j) := by
    rw [h.len]
    have : i = es.length + (i - es.length) := by omega
    conv => lhs; rw [this]
    rw [Nat.add_mul]; omega
   rw [e1, List.getElem?_append_right (by omega), Nat.add_sub_cancel_left]
   exact hu
theorem Flat.resize {c : Addr → Option Value} {ps : Addr → Prop} {sz sz' : Nat} {es : List (List D)} {A : Option Addr} {vs : List Value} (h : Flat c ps sz es A vs) (hs : sz = sz' ∨ es = []) : Flat c ps sz' es A vs := by
 rcases hs with rfl | rfl
 ·exact h
 ·have hv : vs = [] := List.eq_nil_of_length_eq_zero (by simpa using h.len)
  subst hv
  exact ⟨by simp, fun a _ q u hq => by simp at hq, fun u hu => by simp at hu, fun h => absurd rfl h, fun e he => by simp at he, fun i j hi => by simp at hi⟩
def zeroT (P : Program) (T : TypeId) : Option (List Value) := match (P.info? T).bind (·.zero) with
 | some z => if z.cells.toList.all (·.oneCell') then some z.cells.toList else none
 | none => none
theorem FlatV.append {c : Addr → Option Value} {ps : Addr → Prop} {sz : Nat} {es news : List (List D)} {vs us : List Value} (h : FlatV c ps sz es vs) (k : FlatV c ps sz news us) : FlatV c ps sz (es ++ news) (vs ++ us) where
 len := by rw [List.length_append, List.length_append, h.len, k.len, Nat.add_mul]
 one u hu := by
  rcases List.mem_append.1 hu with h1 | h1
  ·exact h.one u h1
  ·exact k.one u h1
 each e he := by
  rcases List.mem_append.1 he with h1 | h1
  ·exact h.each e h1
  ·exact k.each e h1
 read i j hi hj := by
  by_cases hlt : i < es.length
  ·simp only [List.getElem_append_left hlt] at hj ⊢
   obtain ⟨u, hu, hr⟩ := h.read i j hlt hj
   refine ⟨u, ?_, hr⟩
   rw [List.getElem?_append_left (List.getElem?_eq_some_iff.1 hu).1]
   exact hu
  ·simp only [List.getElem_append_right (by omega : es.length ≤ i)] at hj ⊢
   obtain ⟨u, hu, hr⟩ := k.read (i - es.length) j (by simp at hi; omega) hj
   refine ⟨u, ?_, hr⟩
   have e1 : i * sz + j = vs.length + ((i - es.length) * sz + j) := by
    rw [h.len]
    have : i = es.length + (i - es.length) := by omega
    conv => lhs; rw [this]
    rw [Nat.add_mul]; omega
   rw [e1, List.getElem?_append_right (by omega), Nat.add_sub_cancel_left]
   exact hu
theorem FlatV.none_ (c : Addr → Option Value) (ps : Addr → Prop) (sz : Nat) : FlatV c ps sz [] [] := ⟨by simp, fun u hu => by simp at hu, fun e he => by simp at he, fun i j hi => by simp at hi⟩
def EffA0 (P : Program) (o : Oper) (ρ : Operand → AV) (tok : Nat → Bool) (nt : Nat) (v : AV) (tok' : Nat → Bool) (nt' : Nat) : Prop := match o.op with
 | .call c => match c.callee, c.args.toList, c.argTypes.toList with
  | .builtin .append, [s, x], [T, T'] => match rowT P T, ρ s, (ρ x).elems? with
   | some (_, sz, by'), .osl sz0 es own, some (sz1, news) =>
    T' = T ∧ (sz0 = sz ∨ es = [] ∧ own = .full) ∧ (sz1 = sz ∨ news = []) ∧ (es.length + news.length) * by' ≤ 140737488355328 ∧ own.live tok = true ∧
     v = .osl sz (es ++ news) (.tok nt) ∧ tok' = upd (own.kill tok) nt true ∧ nt' = nt + 1
   | _, _, _ => False
  | _, _, _ => False
 | _ => False
def stkA (P : Program) (T T' : TypeId) (s x : AV) (tok : Nat → Bool) (nt : Nat) : Option (Prop × AV × (Nat → Bool)) := match rowT P T, s with
 | some (E, sz, by'), .stk t sz0 es => match x.elems? with
  | some (sz1, news) => some (T' = T ∧ sz0 = sz ∧ (sz1 = sz ∨ news = []) ∧ (zeroT P E).isSome = true ∧ (es.length + news.length) * by' ≤ 140737488355328 ∧ tok t = true, .stk nt sz (es ++ news), upd (upd tok t false) nt true)
  | none => none
 | some (_, sz, by'), .osl sz0 es own => match x with
  | .stk t sz1 news => some (T' = T ∧ (sz0 = sz ∨ es = [] ∧ own = .full) ∧ sz1 = sz ∧ (es.length + news.length) * by' ≤ 140737488355328 ∧ own.live tok = true ∧ tok t = true, .osl sz (es ++ news) (.tok nt), upd (own.kill tok) nt true)
  | _ => none
 | _, _ => none
def strA (P : Program) (T T' : TypeId) (s x : AV) (tok : Nat → Bool) (nt : Nat) : Option (Prop × AV × (Nat → Bool)) := match x with
 | .d (.raw (.string str)) => match rowT P T, s with
  | some (E, sz, by'), .osl _ [] .full => some (strT P T' = true ∧ sz = 1 ∧ 0 < str.size ∧ str.size * by' ≤ 140737488355328, .buf E nt (bytesD str), upd tok nt true)
  | some (E, sz, by'), .buf E' t es => some (strT P T' = true ∧ sz = 1 ∧ E' = E ∧ (es.length + str.size) * by' ≤ 140737488355328 ∧ tok t = true, .buf E nt (es ++ bytesD str), upd (upd tok t false) nt true)
  | _, _ => none
 | x => stkA P T T' s x tok nt
def EffS (P : Program) (o : Oper) (ρ : Operand → AV) (tok : Nat → Bool) (nt : Nat) (v : AV) (tok' : Nat → Bool) (nt' : Nat) : Prop := match o.op with
 | .call c => match c.callee, c.args.toList, c.argTypes.toList with
  | .builtin .append, [s, x], [T, T'] => ∃ φ, strA P T T' (ρ s) (ρ x) tok nt = some (φ, v, tok') ∧ φ ∧ nt' = nt + 1
  | _, _, _ => False
 | _ => False
def EffA (P : Program) (o : Oper) (ρ : Operand → AV) (tok : Nat → Bool) (nt : Nat) (v : AV) (tok' : Nat → Bool) (nt' : Nat) : Prop := EffA0 P o ρ tok nt v tok' nt' ∨ EffS P o ρ tok nt v tok' nt'
structure Src (P : Program) (w : World) (T T' ty E : TypeId) (i : TypeInfo) (z : Value) (xv : Value) (n : Nat) (us : List Value) : Prop where
 none_ : n = 0 → ∀ (A : Option Addr) (k cap : Nat), k ≤ cap → (Builtin.append_ #[T, T'] ty #[.slice A k cap, xv]).run P w = .ok (.slice A k cap) w
 room : 0 < n → ∀ (g sLen sCap : Nat) (cur : Array Value) (e' : TypeId), w.heap[g]? = some (.cells cur e' (0, 0)) → sLen + n ≤ sCap → sLen * i.size + us.length ≤ cur.size →
  (Builtin.append_ #[T, T'] ty #[.slice (some ⟨g, 0, none⟩) sLen sCap, xv]).run P w = .ok (.slice (some ⟨g, 0, none⟩) (sLen + n) sCap) (w.setRow g (cur.toList.take (sLen * i.size) ++ us ++ cur.toList.drop (sLen * i.size + us.length)).toArray)
 grow : 0 < n → ∀ (b : Addr) (sLen sCap : Nat) (olds : List Value), olds.length = sLen * i.size → (∀ j v, olds[j]? = some v → w.cell? (b.add j) = some v) → sCap < sLen + n → ((sLen + n : Nat) : Int) ≤ 9223372036854775807 →
  Builtin.nextslicecap (sLen + n) sCap * i.bytes ≤ 281474976710656 →
  (Builtin.append_ #[T, T'] ty #[.slice (some b) sLen sCap, xv]).run P w = .ok (.slice (some ⟨w.heap.size, 0, none⟩) (sLen + n) (grownCap w (sLen + n) sCap E))
   (w.drew.alloc (.cells (olds.toArray ++ us.toArray ++ Builtin.zeroCells z.cells (grownCap w (sLen + n) sCap E - (sLen + n))) E))
 nil_ : 0 < n → (n : Int) ≤ 9223372036854775807 → n * i.bytes ≤ 281474976710656 →
  (Builtin.append_ #[T, T'] ty #[.slice none 0 0, xv]).run P w = .ok (.slice (some ⟨w.heap.size, 0, none⟩) n (grownCap w n 0 E)) (w.drew.alloc (.cells (us.toArray ++ Builtin.zeroCells z.cells (grownCap w n 0 E - n)) E))
theorem run_append_none (t ty E : TypeId) (i : TypeInfo) (w : World) (ht : P.underlying t = some (.slice E)) (hi : P.info? E = some i) (A B : Option Addr) (n cap c : Nat) (hn : n ≤ cap) :
  (Builtin.append_ #[t, t] ty #[.slice A n cap, .slice B 0 c]).run P w = .ok (.slice A n cap) w := by
 cases A <;> cases B <;> simp [Builtin.append_, run_underlying ht, sizeOf, typeInfo, hi, Builtin.lenOf, Builtin.firstCells, loadCells, loadCellsFrom, hn, storeCells]
theorem run_append_room2 (t ty e e' : TypeId) (i : TypeInfo) (w : World) (ht : P.underlying t = some (.slice e)) (hi : P.info? e = some i)
  (g sLen sCap : Nat) (cur : Array Value) (hg : w.heap[g]? = some (.cells cur e' (0, 0)))
  (a : Addr) (m c : Nat) (news : List Value) (hl : news.length = m * i.size) (hnews : ∀ j u, news[j]? = some u → w.cell? (a.add j) = some u) (h1 : ∀ u ∈ news, u.oneCell' = true)
  (hroom : sLen + m ≤ sCap) (hfit : sLen * i.size + news.length ≤ cur.size) :
  (Builtin.append_ #[t, t] ty #[.slice (some ⟨g, 0, none⟩) sLen sCap, .slice (some a) m c]).run P w =
   .ok (.slice (some ⟨g, 0, none⟩) (sLen + m) sCap) (w.setRow g (cur.toList.take (sLen * i.size) ++ news ++ cur.toList.drop (sLen * i.size + news.length)).toArray) := by
 have hf := run_firstCells_some (P := P) w i.size m a m c news hl hnews
 have hst := run_storeCells_at P g (sLen * i.size) e' news 0 cur w hg (by simpa using hfit) h1
 simp only [Nat.add_zero] at hst
 simp [Builtin.append_, run_underlying ht, sizeOf, typeInfo, hi, Builtin.lenOf, hroom, hf, Addr.add_lit, hst]
theorem After.imp {o : Oper} {ρv : Operand → Value} {G : Gh} {w : World} {R R' : Value → Gh → World → Prop} (h : After P o ρv G w R) (k : ∀ u G' w', R u G' w' → R' u G' w') : After P o ρv G w R' := by
 obtain ⟨nx, u, G', w', h1, h2, h3, h4⟩ := h
 exact ⟨nx, u, G', w', h1, h2, h3, k _ _ _ h4⟩
theorem effA_core {o : Oper} {ρv : Operand → Value} {G : Gh} {m : AMem} {w : World} {c : Call} {s x : Operand} {T T' E : TypeId} {i : TypeInfo} {z : Value} {sz by' sz0 : Nat} {es news : List (List D)} {own : Own} {xv : Value} {us : List Value}
    (ho : o.op = .call c) (hcal : c.callee = .builtin .append) (hargs : c.args.toList = [s, x]) (htys : c.argTypes.toList = [T, T']) (hE : P.underlying T = some (.slice E)) (hi : P.info? E = some i) (hz : i.zero = some z) (hzs : z.cells.size = sz)
    (his : i.size = sz) (hib : i.bytes = by') (hszp : 0 < sz) (hbyp : 0 < by') (hsz0 : sz0 = sz ∨ es = [] ∧ own = .full) (hbytes : (es.length + news.length) * by' ≤ 140737488355328) (hlive : own.live m.tok = true)
    (hs : RV G w (.osl sz0 es own) (ρv s)) (hxv : ρv x = xv) (hfx' : FlatV w.cell? G.ps sz news us) (hsrc : Src P w T T' o.type E i z xv news.length us) (hm : RelM G m w) :
    After P o ρv G w fun u G' w' => RV G' w' (.osl sz (es ++ news) (.tok m.nt)) u ∧ RelM G' { m with tok := upd (own.kill m.tok) m.nt true, nt := m.nt + 1 } w' ∧ G'.bx = G.bx ∧ ((news ≠ [] ∨ ∃ t g, own = .tok t ∧ G.tk t = some (some g)) → G'.tk m.nt ≠ some none) ∧ ((∀ t g, own = .tok t → G.tk t = some (some g) → ∃ cs f, w.heap[g]? = some (.cells cs E f)) → ∀ g', G'.tk m.nt = some (some g') → ∃ cs f, w'.heap[g']? = some (.cells cs E f)) := by
  generalize hsv : ρv s = sv at hs
  -- the operation is one run of append
  have hexec : ∀ u w', (Builtin.append_ #[T, T'] o.type #[sv, xv]).run P w = .ok u w' → (execOp ρv o).run P w = .ok (.value u) w' := by
    intro u w' hr
    have ha : c.args = #[s, x] := by rw [← Array.toArray_toList (xs := c.args), hargs]
    have hb : c.argTypes = #[T, T'] := by rw [← Array.toArray_toList (xs := c.argTypes), htys]
    simp only [execOp, ho, resolve, hcal, ha, hb, List.map_toArray, List.map_cons, List.map_nil, hsv, hxv, Sem.run_bind, Sem.run_pure, Result.andThen_ok, invoke, builtin, hr]
  cases hs with
  | osl hsd hown =>
    obtain ⟨A, cap, vs, rfl, hcap, hmax, hf⟩ := hsd.flat
    have hf' : Flat w.cell? G.ps sz es A vs := hf.resize (hsz0.imp id And.left)
    have hle47 : es.length + news.length ≤ 140737488355328 := Nat.le_trans (Nat.le_mul_of_pos_right _ hbyp) hbytes
    have hmk := hm.kill own
    have hlk := Le.kill (G := G) (w := w) own
    have hntk : (G.kill own).nt = G.nt := by cases own <;> rfl
    have hbxk : (G.kill own).bx = G.bx := by cases own <;> rfl
    have hmnt := hm.nt
    -- what follows once the memory is laid
    by_cases hm0 : news = []
    · -- nothing to append
      subst hm0
      have hus : us = [] := List.eq_nil_of_length_eq_zero (by simpa using hfx'.len)
      have hr := hsrc.none_ rfl A es.length cap hcap
      have hshape : ∃ x, (∀ g, x = some g → G.kind g = .part (es.length * sz) (cap * sz) ∧ A = some ⟨g, 0, none⟩ ∧ ∃ t, own = .tok t ∧ G.tk t = some (some g)) ∧ (x = none → cap = es.length) ∧ (∀ t g, own = .tok t → G.tk t = some (some g) → x = some g) := by
        cases own with
        | full =>
          obtain ⟨A', hA', _⟩ := hown
          injection hA' with _ _ h3
          exact ⟨none, (fun g hg => by cases hg), fun _ => h3, fun t g e _ => by cases e⟩
        | tok t =>
          obtain ⟨_, y, hy⟩ := hm.toks t hlive
          have hk := hown.2 y hy
          cases y with
          | none =>
            obtain ⟨A', hA'⟩ := hk
            injection hA' with _ _ h3
            exact ⟨none, (fun g hg => by cases hg), fun _ => h3, fun t' g e h => by cases e; rw [hy] at h; cases h⟩
          | some g =>
            obtain ⟨cap', hv, hkg⟩ := hk
            injection hv with h1 _ h3
            subst h3
            have : sz0 = sz := by rcases hsz0 with h | ⟨_, h⟩; · exact h
                                  · cases h
            subst this
            exact ⟨some g, fun g' hg' => by cases hg'; exact ⟨hkg, h1, t, rfl, hy⟩, (fun h => by cases h), fun t' g' e h => by cases e; rw [hy] at h; cases h; rfl⟩
      obtain ⟨x0, hx0, hx1, hx2⟩ := hshape
      have hnew := hmk.newtok x0 (fun g hg => by
        obtain ⟨hk, _, t, rfl, ht⟩ := hx0 g hg
        refine ⟨fun t' ht' => ?_, ?_⟩
        · simp only [Gh.kill] at ht'
          by_cases e : t' = t
          · subst e; simp [upd_same] at ht'
          · rw [upd_other _ _ e] at ht'
            exact e (hm.tinj t' t g ht' ht)
        · obtain ⟨f, cur, e, h1, h2⟩ := hm.tokb t g ht
          exact ⟨f, cur, e, h1, h2⟩)
      have hln := Le.newtok (G := G.kill own) (w := w) x0
      refine ⟨.value _, _, (G.kill own).newtok x0, w, hexec _ _ hr, .inl rfl, hlk.trans hln, ?_, hnew, by simp [Gh.newtok, hbxk], fun hn => ?_, fun hE0 g' hg' => ?_⟩
      rotate_left 1
      · rcases hn with hn | ⟨t, g, rfl, ht⟩
        · exact absurd rfl hn
        · cases x0 with
          | some g0 => simp [Gh.newtok, hntk, hmnt, upd_same]
          | none => exact absurd (hx2 _ _ rfl ht) (by simp)
      · simp only [Gh.newtok, hntk, hmnt, upd_same, Option.some.injEq] at hg'
        obtain ⟨_, _, t, e1, e2⟩ := hx0 g' hg'
        exact hE0 t g' e1 e2
      have hd : RVd w.cell? ((G.kill own).newtok x0).ps (.sl sz (es ++ [])) (.slice A es.length cap) := by
        simp only [List.append_nil]
        exact .of_flat hcap hmax (hf'.mono (hlk.trans hln).cells)
      refine .osl hd ⟨by simp only [Gh.newtok, hntk]; omega, fun y hy => ?_⟩
      simp only [Gh.newtok, hntk, hmnt, upd_same, Option.some.injEq] at hy
      subst hy
      cases x0 with
      | none => simp only [List.append_nil]; rw [hx1 rfl]; exact ⟨A, rfl⟩
      | some g =>
        obtain ⟨hk, hA, t, rfl, ht⟩ := hx0 g rfl
        subst hA
        simp only [List.append_nil]
        exact ⟨cap, rfl, hk⟩
    · -- something to append
      have hmpos : 0 < news.length := List.length_pos_iff.2 hm0
      have husl : us.length = news.length * i.size := by rw [his]; exact hfx'.len
      have hvsl : vs.length = es.length * i.size := by rw [his]; exact hf'.len
      -- where a new array is made
      have grow : ∀ cp, (Builtin.append_ #[T, T'] o.type #[.slice A es.length cap, xv]).run P w =
          .ok (.slice (some ⟨w.heap.size, 0, none⟩) (es.length + news.length) cp) (w.drew.alloc (.cells (vs.toArray ++ us.toArray ++ Builtin.zeroCells z.cells (cp - (es.length + news.length))) E)) →
          es.length + news.length ≤ cp → cp ≤ maxLen →
          After P o ρv G w fun u G' w' => RV G' w' (.osl sz (es ++ news) (.tok m.nt)) u ∧ RelM G' { m with tok := upd (own.kill m.tok) m.nt true, nt := m.nt + 1 } w' ∧ G'.bx = G.bx ∧ ((news ≠ [] ∨ ∃ t g, own = .tok t ∧ G.tk t = some (some g)) → G'.tk m.nt ≠ some none) ∧ ((∀ t g, own = .tok t → G.tk t = some (some g) → ∃ cs f, w.heap[g]? = some (.cells cs E f)) → ∀ g', G'.tk m.nt = some (some g') → ∃ cs f, w'.heap[g']? = some (.cells cs E f)) := by
        intro cp hr hge hcm
        have hmd := hmk.drew
        let obj : Obj := .cells (vs.toArray ++ us.toArray ++ Builtin.zeroCells z.cells (cp - (es.length + news.length))) E
        have hp := hmd.newpart ((es.length + news.length) * sz) (cp * sz) obj
        have hlp := Le.newpart hmd ((es.length + news.length) * sz) (cp * sz) obj
        have hcs : (vs.toArray ++ us.toArray ++ Builtin.zeroCells z.cells (cp - (es.length + news.length))).size = cp * sz := by
          simp only [Array.size_append, List.size_toArray, size_zeroCells, hzs, hvsl, husl, his, ← Nat.add_mul]
          congr 1
          omega
        have hnew := hp.newtok (some w.heap.size) (fun g hg => by
          cases hg
          refine ⟨fun t ht => ?_, (es.length + news.length) * sz, _, E, ?_, heap_alloc_new w.drew _⟩
          · have := hmk.tlt t _ (by simpa [Gh.setKind] using ht)
            omega
          · rw [hcs]
            refine .inl ?_
            show upd _ w.heap.size _ w.heap.size = _
            rw [upd_same])
        have hln := Le.newtok (G := (G.kill own).setKind w.heap.size (.part ((es.length + news.length) * sz) (cp * sz))) (w := w.drew.alloc obj) (some w.heap.size)
        have hall := (hlk.trans Le.drew).trans (hlp.trans hln)
        refine ⟨.value _, _, _, _, hexec _ _ hr, .inl rfl, hall, ?_, hnew, by simp [Gh.newtok, Gh.setKind, hbxk], fun _ => by simp [Gh.newtok, Gh.setKind, hntk, hmnt, upd_same], fun _ g' hg' => by
          simp only [Gh.newtok, Gh.setKind, hntk, hmnt, upd_same, Option.some.injEq] at hg'
          subst hg'
          exact ⟨_, _, heap_alloc_new w.drew _⟩⟩
        have hlenT : (vs ++ us).length = (es.length + news.length) * sz := by rw [List.length_append, hvsl, husl, his, Nat.add_mul]
        have hflat : Flat (w.drew.alloc obj).cell? (Gh.ps (((G.kill own).setKind w.heap.size (.part ((es.length + news.length) * sz) (cp * sz))).newtok (some w.heap.size))) sz (es ++ news) (some ⟨w.heap.size, 0, none⟩) (vs ++ us) := by
          refine (hf'.mono hall.cells).append (hfx'.mono hall.cells) _ (fun q u hq => ?_)
          have hlt : q < (vs ++ us).length := (List.getElem?_eq_some_iff.1 hq).1
          rw [add_none]
          refine ⟨?_, ?_⟩
          · show (match upd (G.kill own).kind w.heap.size (BK.part ((es.length + news.length) * sz) (cp * sz)) w.heap.size with | .whole => True | .part f _ => 0 + q < f | .box => False | .ex => False)
            rw [upd_same]
            show 0 + q < _
            omega
          · rw [cell_of_row _ w.heap.size (0 + q) (vs.toArray ++ us.toArray ++ Builtin.zeroCells z.cells (cp - (es.length + news.length))) E (0, 0) (heap_alloc_new w.drew _)]
            rw [Nat.zero_add, Array.getElem?_append_left (by simpa using hlt)]
            simpa using hq
        have := RVd.of_flat (cap := cp) (by simpa using hge) hcm hflat
        rw [List.length_append] at this
        refine .osl this ⟨by simp only [Gh.newtok, Gh.setKind, hntk]; omega, fun y hy => ?_⟩
        simp only [Gh.newtok, Gh.setKind, hntk, hmnt, upd_same, Option.some.injEq] at hy
        subst hy
        refine ⟨cp, by simp, ?_⟩
        simp only [Gh.newtok, Gh.setKind, upd_same, List.length_append]
      have growA : cap < es.length + news.length → After P o ρv G w fun u G' w' => RV G' w' (.osl sz (es ++ news) (.tok m.nt)) u ∧ RelM G' { m with tok := upd (own.kill m.tok) m.nt true, nt := m.nt + 1 } w' ∧ G'.bx = G.bx ∧ ((news ≠ [] ∨ ∃ t g, own = .tok t ∧ G.tk t = some (some g)) → G'.tk m.nt ≠ some none) ∧ ((∀ t g, own = .tok t → G.tk t = some (some g) → ∃ cs f, w.heap[g]? = some (.cells cs E f)) → ∀ g', G'.tk m.nt = some (some g') → ∃ cs f, w'.heap[g']? = some (.cells cs E f)) := by
        intro hcl
        have hge := grownCap_ge w (es.length + news.length) cap E
        have hcm := grownCap_le_maxLen w (es.length + news.length) cap E (by unfold maxLen; omega)
        cases A with
        | some b =>
          exact grow _ (hsrc.grow hmpos b es.length cap vs hvsl (fun q u hq => (hf'.at_ b rfl q u hq).2) hcl (by omega) (growslice_fits hcl (by rw [hib]; exact hbytes))) hge hcm
        | none =>
          have hes : es = [] := Classical.byContradiction fun h => by obtain ⟨b, hb⟩ := hf'.some_ h; cases hb
          subst hes
          have hvs : vs = [] := List.eq_nil_of_length_eq_zero (by simpa using hvsl)
          subst hvs
          have hc0 : cap = 0 := by
            cases own with
            | full => obtain ⟨A', hA', _⟩ := hown; injection hA' with _ _ h3
            | tok t =>
              obtain ⟨_, y, hy⟩ := hm.toks t hlive
              have hk := hown.2 y hy
              cases y with
              | none => obtain ⟨A', hA'⟩ := hk; injection hA' with _ _ h3
              | some g => obtain ⟨cap', hv, hkg⟩ := hk; injection hv with h1; cases h1
          subst hc0
          have hr := hsrc.nil_ hmpos (by omega) (by rw [hib]; simp only [List.length_nil, Nat.zero_add] at hbytes; omega)
          simp only [List.length_nil, Nat.zero_add] at grow hge hcm ⊢
          refine grow _ ?_ hge hcm
          simpa using hr
      by_cases hroom : es.length + news.length ≤ cap
      · -- there is room: only a token's block has it
        have hblk : ∃ t g, own = .tok t ∧ G.tk t = some (some g) ∧ A = some ⟨g, 0, none⟩ ∧ G.kind g = .part (es.length * sz) (cap * sz) := by
          cases own with
          | full => obtain ⟨A', hA', _⟩ := hown; injection hA' with _ _ h3; omega
          | tok t =>
            obtain ⟨_, y, hy⟩ := hm.toks t hlive
            have hk := hown.2 y hy
            cases y with
            | none => obtain ⟨A', hA'⟩ := hk; injection hA' with _ _ h3; omega
            | some g =>
              obtain ⟨cap', hv, hkg⟩ := hk
              injection hv with h1 _ h3
              subst h3
              have : sz0 = sz := by rcases hsz0 with h | ⟨_, h⟩; · exact h
                                    · cases h
              subst this
              exact ⟨t, g, rfl, hy, h1, hkg⟩
        obtain ⟨t, g, rfl, ht, rfl, hkg⟩ := hblk
        obtain ⟨f, cur, e', hkg', hg⟩ := hm.tokb t g ht
        rw [hkg] at hkg'
        rcases hkg' with hkg' | hkg'
        case inr => cases hkg'
        injection hkg' with hf1 hc1
        have hfit : es.length * i.size + us.length ≤ cur.size := by
          rw [husl, ← Nat.add_mul, ← hc1, his]
          exact Nat.mul_le_mul_right _ hroom
        have hr := hsrc.room hmpos g es.length cap cur e' hg hroom hfit
        rw [his] at hr hfit
        have hnot : ∀ t', (G.kill (.tok t)).tk t' ≠ some (some g) := by
          intro t' ht'
          simp only [Gh.kill] at ht'
          by_cases e : t' = t
          · subst e; simp [upd_same] at ht'
          · rw [upd_other _ _ e] at ht'
            exact e (hm.tinj t' t g ht' ht)
        let new : Array Value := (cur.toList.take (es.length * sz) ++ us ++ cur.toList.drop (es.length * sz + us.length)).toArray
        have e1 : cur.toList.length = cur.size := by simp
        have hlt : (List.take (es.length * sz) cur.toList).length = es.length * sz := by rw [List.length_take]; omega
        have hsame : ∀ q, q < es.length * sz → new[q]? = cur[q]? := by
          intro q hq
          simp only [new, List.getElem?_toArray]
          rw [List.append_assoc, List.getElem?_append_left (by omega), List.getElem?_take_of_lt hq]
          simp
        have hfl := hmk.fill (g := g) (f := es.length * sz) (f' := (es.length + news.length) * sz) (c := cap * sz) hkg (Nat.mul_le_mul_right _ (by omega)) hnot hg hsame
        have hlfl := Le.fill (G := G.kill (.tok t)) (w := w) (g := g) (f := es.length * sz) (f' := (es.length + news.length) * sz) (c := cap * sz) hkg (Nat.mul_le_mul_right _ (by omega)) hnot hg hsame
        have hns : new.size = cap * sz := by
          simp only [new, List.size_toArray, List.length_append, List.length_take, List.length_drop, Array.length_toList]
          omega
        have hnew := hfl.newtok (some g) (fun g' hg' => by
          cases hg'
          refine ⟨fun t' ht' => hnot t' ht', (es.length + news.length) * sz, new, e', ?_, setRow_heap w g cur new e' (0, 0) hg⟩
          rw [hns]
          refine .inl ?_
          show upd _ g _ g = _
          rw [upd_same])
        have hln := Le.newtok (G := (G.kill (.tok t)).setKind g (.part ((es.length + news.length) * sz) (cap * sz))) (w := w.setRow g new) (some g)
        have hall := hlk.trans (hlfl.trans hln)
        refine ⟨.value _, _, _, _, hexec _ _ hr, .inl rfl, hall, ?_, hnew, by simp [Gh.newtok, Gh.setKind, hbxk], fun _ => by simp [Gh.newtok, Gh.setKind, hntk, hmnt, upd_same], fun hE0 g' hg' => by
          simp only [Gh.newtok, Gh.setKind, hntk, hmnt, upd_same, Option.some.injEq] at hg'
          subst hg'
          obtain ⟨c0, f0, h0⟩ := hE0 t g rfl ht
          exact setRow_ty w g g new c0 E f0 h0⟩
        have hlenT : (vs ++ us).length = (es.length + news.length) * sz := by rw [List.length_append, hvsl, husl, his, Nat.add_mul]
        have hflat : Flat (w.setRow g new).cell? (Gh.ps (((G.kill (.tok t)).setKind g (.part ((es.length + news.length) * sz) (cap * sz))).newtok (some g))) sz (es ++ news) (some ⟨g, 0, none⟩) (vs ++ us) := by
          refine (hf'.mono hall.cells).append (hfx'.mono hall.cells) _ (fun q u hq => ?_)
          have hqlt : q < (vs ++ us).length := (List.getElem?_eq_some_iff.1 hq).1
          rw [add_none]
          refine ⟨?_, ?_⟩
          · show (match upd (G.kill (.tok t)).kind g (BK.part ((es.length + news.length) * sz) (cap * sz)) g with | .whole => True | .part f _ => 0 + q < f | .box => False | .ex => False)
            rw [upd_same]
            show 0 + q < _
            omega
          · rw [cell_setRow_same w g (0 + q) cur new e' (0, 0) hg, Nat.zero_add]
            by_cases hql : q < vs.length
            · rw [List.getElem?_append_left hql] at hq
              rw [hsame q (by rw [← hf'.len]; exact hql)]
              have := (hf'.at_ ⟨g, 0, none⟩ rfl q u hq).2
              rw [add_none, cell_of_row w g _ cur e' (0, 0) hg, Nat.zero_add] at this
              exact this
            · rw [List.getElem?_append_right (by omega)] at hq
              have hql' : q - vs.length < us.length := (List.getElem?_eq_some_iff.1 hq).1
              simp only [new, List.getElem?_toArray]
              rw [List.append_assoc, List.getElem?_append_right (by rw [hlt, ← hf'.len]; omega), hlt, ← hf'.len, List.getElem?_append_left hql']
              exact hq
        have := RVd.of_flat (cap := cap) (by simpa using hroom) hmax hflat
        rw [List.length_append] at this
        refine .osl this ⟨by simp only [Gh.newtok, Gh.setKind, hntk]; omega, fun y hy => ?_⟩
        simp only [Gh.newtok, Gh.setKind, hntk, hmnt, upd_same, Option.some.injEq] at hy
        subst hy
        refine ⟨cap, by simp, ?_⟩
        simp only [Gh.newtok, Gh.setKind, upd_same, List.length_append]
      · exact growA (by omega)
theorem zero_one {E : TypeId} {i : TypeInfo} {z : Value} (h : (zeroT P E).isSome = true) (hi : P.info? E = some i) (hz : i.zero = some z) : ∀ u ∈ z.cells.toList, u.oneCell' = true := by
 unfold zeroT at h
 rw [hi, Option.bind_some, hz] at h
 simp only at h
 split at h
 ·rename_i h1
  exact fun u hu => List.all_eq_true.1 h1 u hu
 ·cases h
theorem mem_zeroCells {z : Array Value} {n : Nat} {u : Value} (h : u ∈ (Builtin.zeroCells z n).toList) : u ∈ z.toList := by
 simp only [Builtin.zeroCells, Array.toList_map, List.mem_map] at h
 obtain ⟨i, hi, rfl⟩ := h
 have hi : i < n * z.size := by simpa using hi
 have hp : 0 < z.size := by
  rcases Nat.eq_zero_or_pos z.size with h | h
  ·rw [h] at hi; omega
  ·exact h
 have hm := Nat.mod_lt i hp
 rw [getElem!_pos z _ hm]
 exact Array.getElem_mem_toList hm
theorem effStk_core {o : Oper} {ρv : Operand → Value} {G : Gh} {m : AMem} {w : World} {c : Call} {s x : Operand} {T T' E : TypeId} {i : TypeInfo} {z : Value} {sz by' t : Nat} {es news : List (List D)} {xv : Value} {us : List Value}
  (ho : o.op = .call c) (hcal : c.callee = .builtin .append) (hargs : c.args.toList = [s, x]) (htys : c.argTypes.toList = [T, T']) (hE : P.underlying T = some (.slice E)) (hi : P.info? E = some i) (hz : i.zero = some z) (hzs : z.cells.size = sz)
  (his : i.size = sz) (hib : i.bytes = by') (hszp : 0 < sz) (hbyp : 0 < by') (hzo : ∀ u ∈ z.cells.toList, u.oneCell' = true) (hbytes : (es.length + news.length) * by' ≤ 140737488355328) (hlive : m.tok t = true)
  (hs : StkR G w t sz es (ρv s)) (hxv : ρv x = xv) (hfx' : FlatV w.cell? G.ps sz news us) (hsrc : Src P w T T' o.type E i z xv news.length us) (hm : RelM G m w) :
  After P o ρv G w fun u G' w' => RV G' w' (.stk m.nt sz (es ++ news)) u ∧ RelM G' { m with tok := upd (upd m.tok t false) m.nt true, nt := m.nt + 1 } w' ∧ G'.bx = G.bx := by
 generalize hsv : ρv s = sv at hs
 have hexec : ∀ u w', (Builtin.append_ #[T, T'] o.type #[sv, xv]).run P w = .ok u w' → (execOp ρv o).run P w = .ok (.value u) w' := by
  intro u w' hr
  have ha : c.args = #[s, x] := by rw [← Array.toArray_toList (xs := c.args), hargs]
  have hb : c.argTypes = #[T, T'] := by rw [← Array.toArray_toList (xs := c.argTypes), htys]
  simp only [execOp, ho, resolve, hcal, ha, hb, List.map_toArray, List.map_cons, List.map_nil, hsv, hxv, Sem.run_bind, Sem.run_pure, Result.andThen_ok, invoke, builtin, hr]
 obtain ⟨htlt, A, cap, rfl, hcap, hmax, hst⟩ := hs
 obtain ⟨_, y, hy⟩ := hm.toks t hlive
 have hst := hst y hy
 have hle47 : es.length + news.length ≤ 140737488355328 := Nat.le_trans (Nat.le_mul_of_pos_right _ hbyp) hbytes
 have hmk := hm.kill (.tok t)
 have hlk := Le.kill (G := G) (w := w) (.tok t)
 have hmnt := hm.nt
 have hgtk : ∀ q, (G.kill (.tok t)).tk q ≠ none → q ≠ t := fun q hq e => by subst e; exact hq (by simp [Gh.kill, upd_same])
 have hnot : ∀ g, y = some g → ∀ t', (G.kill (.tok t)).tk t' ≠ some (some g) := by
  intro g hg t' ht'
  have hne := hgtk t' (by rw [ht']; simp)
  simp only [Gh.kill] at ht'
  rw [upd_other _ _ hne] at ht'
  exact hne (hm.tinj t' t g ht' (hg ▸ hy))
 obtain ⟨vs, hf, hsome, hnone⟩ : ∃ vs, FlatV w.cell? G.ps sz es vs ∧ (∀ g, y = some g → A = some ⟨g, 0, none⟩ ∧ ∃ sp e, G.kind g = .ex ∧ w.heap[g]? = some (.cells (vs ++ sp).toArray e (0, 0)) ∧ (vs ++ sp).length = cap * sz ∧ ∀ u ∈ sp, u.oneCell' = true) ∧ (y = none → es = [] ∧ cap = 0 ∧ vs = []) := by
  cases y with
  | none =>
   have hes : es = [] := List.eq_nil_of_length_eq_zero (by have : cap = 0 := hst; omega)
   subst hes
   exact ⟨[], FlatV.none_ _ _ _, (fun g h => by cases h), fun _ => ⟨rfl, hst, rfl⟩⟩
  | some g =>
   obtain ⟨hA, vs, sp, e, h1, h2, h3, h4, h5⟩ := hst
   exact ⟨vs, h4, fun g' h => by cases h; exact ⟨hA, sp, e, h1, h2, h3, h5⟩, fun h => by cases h⟩
 by_cases hm0 : news = []
 ·subst hm0
  have hr := hsrc.none_ rfl A es.length cap hcap
  have hnew := hmk.newtok y (fun g hg => ⟨hnot g hg, by
   subst hg
   exact hm.tokb t g hy⟩)
  have hln := Le.newtok (G := G.kill (.tok t)) (w := w) y
  refine ⟨.value _, _, (G.kill (.tok t)).newtok y, w, hexec _ _ hr, .inl rfl, hlk.trans hln, ?_, hnew, rfl⟩
  rw [List.append_nil]
  refine .stk ⟨by simp only [Gh.newtok, Gh.kill]; omega, A, cap, rfl, hcap, hmax, fun q hq => ?_⟩
  simp only [Gh.newtok, Gh.kill, hmnt, upd_same, Option.some.injEq] at hq
  subst hq
  cases y with
  | none => exact (hnone rfl).2.1
  | some g =>
   obtain ⟨hA, sp, e, h1, h2, h3, h5⟩ := hsome g rfl
   exact ⟨hA, vs, sp, e, h1, h2, h3, hf.mono (hlk.trans hln).cells, h5⟩
 ·have hmpos : 0 < news.length := List.length_pos_iff.2 hm0
  have husl : us.length = news.length * i.size := by rw [his]; exact hfx'.len
  have hvsl : vs.length = es.length * i.size := by rw [his]; exact hf.len
  have grow : ∀ cp, (Builtin.append_ #[T, T'] o.type #[.slice A es.length cap, xv]).run P w =
    .ok (.slice (some ⟨w.heap.size, 0, none⟩) (es.length + news.length) cp) (w.drew.alloc (.cells (vs.toArray ++ us.toArray ++ Builtin.zeroCells z.cells (cp - (es.length + news.length))) E)) →
    es.length + news.length ≤ cp → cp ≤ maxLen →
    After P o ρv G w fun u G' w' => RV G' w' (.stk m.nt sz (es ++ news)) u ∧ RelM G' { m with tok := upd (upd m.tok t false) m.nt true, nt := m.nt + 1 } w' ∧ G'.bx = G.bx := by
   intro cp hr hge hcm
   have hmd := hmk.drew
   let sp := (Builtin.zeroCells z.cells (cp - (es.length + news.length))).toList
   let obj : Obj := .cells (vs.toArray ++ us.toArray ++ Builtin.zeroCells z.cells (cp - (es.length + news.length))) E
   have hp := hmd.newkind .ex obj
   have hlp := Le.newkind hmd .ex obj
   have hcells : vs.toArray ++ us.toArray ++ Builtin.zeroCells z.cells (cp - (es.length + news.length)) = ((vs ++ us) ++ sp).toArray := by
    apply Array.ext'
    simp [sp]
   have hcs : ((vs ++ us) ++ sp).length = cp * sz := by
    have h1 : sp.length = (cp - (es.length + news.length)) * sz := by simp only [sp, Array.length_toList, size_zeroCells, hzs]
    rw [List.length_append, List.length_append, hvsl, husl, h1, his, ← Nat.add_mul, ← Nat.add_mul]
    congr 1
    omega
   have hheap : (w.drew.alloc obj).heap[w.heap.size]? = some (.cells ((vs ++ us) ++ sp).toArray E (0, 0)) := by
    rw [← hcells]
    exact heap_alloc_new w.drew _
   have hnew := hp.newtok (some w.heap.size) (fun g hg => by
    cases hg
    refine ⟨fun t' ht => ?_, 0, _, E, ?_, hheap⟩
    ·have := hmk.tlt t' _ (by simpa [Gh.setKind] using ht)
     omega
    ·refine .inr ?_
     show upd _ w.heap.size _ w.heap.size = _
     rw [upd_same])
   have hln := Le.newtok (G := (G.kill (.tok t)).setKind w.heap.size .ex) (w := w.drew.alloc obj) (some w.heap.size)
   have hall := (hlk.trans Le.drew).trans (hlp.trans hln)
   refine ⟨.value _, _, _, _, hexec _ _ hr, .inl rfl, hall, ?_, hnew, rfl⟩
   refine .stk ⟨by simp only [Gh.newtok, Gh.setKind, Gh.kill]; omega, _, cp, by rw [List.length_append], by rw [List.length_append]; exact hge, hcm, fun q hq => ?_⟩
   simp only [Gh.newtok, Gh.setKind, Gh.kill, hmnt, upd_same, Option.some.injEq] at hq
   subst hq
   refine ⟨rfl, vs ++ us, sp, E, ?_, hheap, hcs, (hf.mono hall.cells).append (hfx'.mono hall.cells), fun u hu => hzo u (mem_zeroCells hu)⟩
   show upd _ w.heap.size _ w.heap.size = _
   rw [upd_same]
  by_cases hroom : es.length + news.length ≤ cap
  ·cases y with
   | none => have := (hnone rfl).2.1; omega
   | some g =>
    obtain ⟨hA, sp, e, hkg, hg, hlen, hsp⟩ := hsome g rfl
    subst hA
    have hfit : es.length * i.size + us.length ≤ (vs ++ sp).toArray.size := by
     rw [husl, ← Nat.add_mul, List.size_toArray, hlen, his]
     exact Nat.mul_le_mul_right _ hroom
    have hr := hsrc.room hmpos g es.length cap (vs ++ sp).toArray e hg hroom hfit
    have husp : us.length ≤ sp.length := by
     rw [List.size_toArray, List.length_append, ← hvsl] at hfit
     omega
    have hnw : ((vs ++ sp).toArray.toList.take (es.length * i.size) ++ us ++ (vs ++ sp).toArray.toList.drop (es.length * i.size + us.length)).toArray = ((vs ++ us) ++ sp.drop us.length).toArray := by
     congr 1
     simp only [← hvsl]
     rw [List.take_append_of_le_length (Nat.le_refl _), List.take_length, List.drop_append, List.drop_of_length_le (by omega), List.nil_append, Nat.add_sub_cancel_left]
    rw [hnw] at hr
    have hkg' : (G.kill (.tok t)).kind g = .ex := hkg
    have hfl := hmk.fillx (new := ((vs ++ us) ++ sp.drop us.length).toArray) hkg' (hnot g rfl) hg
    have hlfl := Le.fillx (w := w) (new := ((vs ++ us) ++ sp.drop us.length).toArray) hkg' (hnot g rfl) hg
    have hheap := setRow_heap w g (vs ++ sp).toArray ((vs ++ us) ++ sp.drop us.length).toArray e (0, 0) hg
    have hnew := hfl.newtok (some g) (fun g' hg' => by
     cases hg'
     exact ⟨hnot g rfl, 0, _, e, .inr hkg, hheap⟩)
    have hln := Le.newtok (G := G.kill (.tok t)) (w := w.setRow g ((vs ++ us) ++ sp.drop us.length).toArray) (some g)
    have hall := hlk.trans (hlfl.trans hln)
    refine ⟨.value _, _, _, _, hexec _ _ hr, .inl rfl, hall, ?_, hnew, rfl⟩
    refine .stk ⟨by simp only [Gh.newtok, Gh.kill]; omega, _, cap, by rw [List.length_append], by rw [List.length_append]; exact hroom, hmax, fun q hq => ?_⟩
    simp only [Gh.newtok, Gh.kill, hmnt, upd_same, Option.some.injEq] at hq
    subst hq
    refine ⟨rfl, vs ++ us, sp.drop us.length, e, hkg, hheap, ?_, (hf.mono hall.cells).append (hfx'.mono hall.cells), fun u hu => hsp u (List.mem_of_mem_drop hu)⟩
    rw [List.length_append] at hlen
    rw [List.length_append, List.length_append, List.length_drop]
    omega
  ·have hcl : cap < es.length + news.length := by omega
   have hge := grownCap_ge w (es.length + news.length) cap E
   have hcm := grownCap_le_maxLen w (es.length + news.length) cap E (by unfold maxLen; omega)
   cases A with
   | some b =>
    refine grow _ (hsrc.grow hmpos b es.length cap vs hvsl (fun q u hq => ?_) hcl (by omega) (growslice_fits hcl (by rw [hib]; exact hbytes))) hge hcm
    cases y with
    | none => rw [(hnone rfl).2.2] at hq; simp at hq
    | some g =>
     obtain ⟨hA, sp, e, hkg, hg, hlen, hsp⟩ := hsome g rfl
     cases hA
     rw [add_none, cell_of_row w g _ _ e (0, 0) hg, Nat.zero_add]
     simp only [List.getElem?_toArray]
     rw [List.getElem?_append_left (List.getElem?_eq_some_iff.1 hq).1]
     exact hq
   | none =>
    cases y with
    | some g => have := (hsome g rfl).1; cases this
    | none =>
     obtain ⟨rfl, rfl, rfl⟩ := hnone rfl
     have hr := hsrc.nil_ hmpos (by omega) (by rw [hib]; simp only [List.length_nil, Nat.zero_add] at hbytes; omega)
     simp only [List.length_nil, Nat.zero_add] at grow hge hcm ⊢
     refine grow _ ?_ hge hcm
     simpa using hr
theorem effA0_sound {o : Oper} {ρ : Operand → AV} {ρv : Operand → Value} {G : Gh} {m : AMem} {w : World} {v : AV} {tok' : Nat → Bool} {nt' : Nat} (h : EffA0 P o ρ m.tok m.nt v tok' nt')
  (hρ : ∀ x ∈ o.op.operands, RV G w (ρ x) (ρv x)) (hm : RelM G m w) :
  After P o ρv G w fun u G' w' => RV G' w' v u ∧ RelM G' { m with tok := tok', nt := nt' } w' ∧ G'.bx = G.bx := by
 unfold EffA0 at h
 split at h
 ·rename_i c ho
  split at h
  ·rename_i s x T T' hcal hargs htys
   have hs := hρ s (by rw [ho]; simp only [Op.operands, Call.operands, hcal]; rw [← Array.mem_toList_iff]; simp [hargs])
   have hx := hρ x (by rw [ho]; simp only [Op.operands, Call.operands, hcal]; rw [← Array.mem_toList_iff]; simp [hargs])
   split at h
   ·rename_i E sz by' sz0 es own sz1 news hrow hse hxe
    obtain ⟨rfl, hsz0, hsz1, hbytes, hlive, rfl, rfl, rfl⟩ := h
    obtain ⟨hE, i, z, hi, hz, hzs, his, hib, hszp, hbyp⟩ := rowT_spec hrow
    rw [hse] at hs
    have hxd := hx.elems hxe
    generalize hxv : ρv x = xv at hxd
    obtain ⟨B, capx, us, rfl, hcapx, hmaxx, hfx⟩ := hxd.flat
    have hfx' : Flat w.cell? G.ps sz news B us := hfx.resize hsz1
    have husl := hfx'.len
    rw [← his] at husl
    refine (effA_core ho hcal hargs htys hE hi hz hzs his hib hszp hbyp hsz0 hbytes hlive hs hxv hfx'.v ?_ hm).imp fun u G' w' ⟨h1, h2, h3, _, _⟩ => ⟨h1, h2, h3⟩
    refine ⟨fun h0 A k cap hk => ?_, fun hp g sLen sCap cur e' hg hroom hfit => ?_, fun hp b sLen sCap olds h1 h2 h3 h4 h5 => ?_, fun hp h1 h2 => ?_⟩
    ·rw [h0]
     exact run_append_none (P := P) _ o.type E i w hE hi A B k cap capx hk
    ·obtain ⟨a, rfl⟩ := hfx'.some_ (List.length_pos_iff.1 hp)
     exact run_append_room2 (P := P) _ o.type E e' i w hE hi g sLen sCap cur hg a _ capx us husl (fun q u hq => (hfx'.at_ a rfl q u hq).2) hfx'.one hroom hfit
    ·obtain ⟨a, rfl⟩ := hfx'.some_ (List.length_pos_iff.1 hp)
     exact run_append_grow (P := P) w _ o.type E i z hE hi hz b sLen sCap olds h1 h2 a _ capx us husl (fun q u hq => (hfx'.at_ a rfl q u hq).2) h3 h4 h5
    ·obtain ⟨a, rfl⟩ := hfx'.some_ (List.length_pos_iff.1 hp)
     exact run_append_nil (P := P) w _ o.type E i z hE hi hz a _ capx us husl (fun q u hq => (hfx'.at_ a rfl q u hq).2) hp h1 h2
   ·exact h.elim
  ·exact h.elim
 ·exact h.elim
theorem src_slice {w : World} {T ty E : TypeId} {i : TypeInfo} {z : Value} (hE : P.underlying T = some (.slice E)) (hi : P.info? E = some i) (hz : i.zero = some z) {B : Option Addr} {n capx : Nat} {us : List Value} (hcapx : n ≤ capx) (husl : us.length = n * i.size)
  (hsome : 0 < n → ∃ a, B = some a) (hat : ∀ a, B = some a → ∀ q u, us[q]? = some u → w.cell? (a.add q) = some u) (hone : ∀ u ∈ us, u.oneCell' = true) : Src P w T T ty E i z (.slice B n capx) n us := by
 refine ⟨fun h0 A k cap hk => ?_, fun hp g sLen sCap cur e' hg hroom hfit => ?_, fun hp b sLen sCap olds h1 h2 h3 h4 h5 => ?_, fun hp h1 h2 => ?_⟩
 ·rw [h0]
  exact run_append_none (P := P) _ ty E i w hE hi A B k cap capx hk
 ·obtain ⟨a, rfl⟩ := hsome hp
  exact run_append_room2 (P := P) _ ty E e' i w hE hi g sLen sCap cur hg a _ capx us husl (fun q u hq => hat a rfl q u hq) hone hroom hfit
 ·obtain ⟨a, rfl⟩ := hsome hp
  exact run_append_grow (P := P) w _ ty E i z hE hi hz b sLen sCap olds h1 h2 a _ capx us husl (fun q u hq => hat a rfl q u hq) h3 h4 h5
 ·obtain ⟨a, rfl⟩ := hsome hp
  exact run_append_nil (P := P) w _ ty E i z hE hi hz a _ capx us husl (fun q u hq => hat a rfl q u hq) hp h1 h2
theorem stkA_sound {o : Oper} {ρv : Operand → Value} {G : Gh} {m : AMem} {w : World} {c : Call} {s x : Operand} {T T' : TypeId} {sa xa v : AV} {tok' : Nat → Bool} {φ : Prop} (ho : o.op = .call c) (hcal : c.callee = .builtin .append) (hargs : c.args.toList = [s, x]) (htys : c.argTypes.toList = [T, T'])
  (h : stkA P T T' sa xa m.tok m.nt = some (φ, v, tok')) (hφ : φ) (hs : RV G w sa (ρv s)) (hx : RV G w xa (ρv x)) (hm : RelM G m w) :
  After P o ρv G w fun u G' w' => RV G' w' v u ∧ RelM G' { m with tok := tok', nt := m.nt + 1 } w' ∧ G'.bx = G.bx := by
 unfold stkA at h
 split at h
 ·rename_i E sz by' t sz0 es hrow
  split at h
  ·rename_i sz1 news hxe
   simp only [Option.some.injEq, Prod.mk.injEq] at h
   obtain ⟨rfl, rfl, rfl⟩ := h
   obtain ⟨rfl, rfl, hsz1, hzo, hbytes, hlive⟩ := hφ
   obtain ⟨hE, i, z, hi, hz, hzs, his, hib, hszp, hbyp⟩ := rowT_spec hrow
   have hxd := hx.elems hxe
   generalize hxv : ρv x = xv at hxd
   obtain ⟨B, capx, us, rfl, hcapx, hmaxx, hfx⟩ := hxd.flat
   have hfx' : Flat w.cell? G.ps sz0 news B us := hfx.resize hsz1
   have husl := hfx'.len
   rw [← his] at husl
   have hst : StkR G w t sz0 es (ρv s) := by
    generalize ρv s = sv at hs
    cases hs with | stk h => exact h
   exact effStk_core ho hcal hargs htys hE hi hz hzs his hib hszp hbyp (zero_one hzo hi hz) hbytes hlive hst hxv hfx'.v (src_slice hE hi hz hcapx husl (fun hp => hfx'.some_ (List.length_pos_iff.1 hp)) (fun a ha q u hq => (hfx'.at_ a ha q u hq).2) hfx'.one) hm
  ·cases h
 ·rename_i E sz by' sz0 es own hrow
  split at h
  ·rename_i t sz1 news
   simp only [Option.some.injEq, Prod.mk.injEq] at h
   obtain ⟨rfl, rfl, rfl⟩ := h
   obtain ⟨rfl, hsz0, rfl, hbytes, hlive, hlt⟩ := hφ
   obtain ⟨hE, i, z, hi, hz, hzs, his, hib, hszp, hbyp⟩ := rowT_spec hrow
   have hst : StkR G w t sz1 news (ρv x) := by
    generalize ρv x = sv at hx
    cases hx with | stk h => exact h
   obtain ⟨htlt, B, capx, hxv, hcapx, hmaxx, hst⟩ := hst
   obtain ⟨_, y, hy⟩ := hm.toks t hlt
   have hst := hst y hy
   obtain ⟨us, hf, hat⟩ : ∃ us, FlatV w.cell? G.ps sz1 news us ∧ (0 < news.length → ∃ a, B = some a) ∧ (∀ a, B = some a → ∀ q u, us[q]? = some u → w.cell? (a.add q) = some u) := by
    cases y with
    | none =>
     have hes : news = [] := List.eq_nil_of_length_eq_zero (by have : capx = 0 := hst; omega)
     subst hes
     exact ⟨[], FlatV.none_ _ _ _, (fun h => by simp at h), fun a _ q u hq => by simp at hq⟩
    | some g =>
     obtain ⟨hA, vs, sp, e, h1, h2, h3, h4, h5⟩ := hst
     refine ⟨vs, h4, fun _ => ⟨_, hA⟩, fun a ha q u hq => ?_⟩
     rw [hA] at ha
     cases ha
     rw [add_none, cell_of_row w g _ _ e (0, 0) h2, Nat.zero_add]
     simp only [List.getElem?_toArray]
     rw [List.getElem?_append_left (List.getElem?_eq_some_iff.1 hq).1]
     exact hq
   have husl := hf.len
   rw [← his] at husl
   exact (effA_core ho hcal hargs htys hE hi hz hzs his hib hszp hbyp hsz0 hbytes hlive hs hxv hf (src_slice hE hi hz hcapx husl hat.1 hat.2 hf.one) hm).imp fun u G' w' ⟨h1, h2, h3, _, _⟩ => ⟨h1, h2, h3⟩
  ·cases h
 ·cases h
theorem src_string {w : World} {T T' ty E : TypeId} {i : TypeInfo} {z : Value} (str : ByteArray) (hE : P.underlying T = some (.slice E)) (hT : strT P T' = true) (hi : P.info? E = some i) (hz : i.zero = some z) (h1 : i.size = 1) :
  Src P w T T' ty E i z (.string str) str.size (Lib.strCells str) := by
 have hT' : P.underlying T' = some .string := by
  unfold strT at hT
  split at hT
  ·assumption
  ·cases hT
 have hcl : (Lib.strCells str).length = str.size := Lib.strCells_length str
 refine ⟨fun h0 A k cap hk => ?_, fun hp g sLen sCap cur e' hg hroom hfit => ?_, fun hp b sLen sCap olds h1 h2 h3 h4 h5 => Lib.run_append_grow_string (P := P) w T T' ty E i z hE hT' hi hz b sLen sCap olds h1 h2 str h3 h4 h5, fun hp h1 h2 => ?_⟩
 ·have hn : Lib.strCells str = [] := List.eq_nil_of_length_eq_zero (by rw [hcl]; exact h0)
  have hf := Lib.run_firstCells_string (P := P) w i.size str
  rw [h0, hn] at hf
  rw [h1] at hf
  cases A <;> simp [Builtin.append_, run_underlying hE, run_underlying hT', sizeOf, typeInfo, hi, h1, Builtin.lenOf, h0, hf, hk, storeCells]
 ·rw [hcl, h1, Nat.mul_one] at hfit
  have hf := Lib.run_firstCells_string (P := P) w 1 str
  have hst := run_storeCells_at P g sLen e' (Lib.strCells str) 0 cur w hg (by simpa [Lib.strCells_length] using hfit) (Lib.strCells_oneCell str)
  simp only [Nat.add_zero, Lib.strCells_length] at hst
  rw [h1, Nat.mul_one, hcl]
  simp [Builtin.append_, run_underlying hE, run_underlying hT', sizeOf, typeInfo, hi, h1, Builtin.lenOf, hroom, hf, Addr.add_lit, hst]
 ·have hr := run_append_nil_string (P := P) w T T' ty E i z hE hT' hi hz str hp h1 h2
  have e1 : (str.data.map fun b => Value.int .u8 b.toNat) = (Lib.strCells str).toArray := by
   apply Array.ext'
   simp [Lib.strCells]
  rw [e1] at hr
  exact hr
theorem effS_sound {o : Oper} {ρ : Operand → AV} {ρv : Operand → Value} {G : Gh} {m : AMem} {w : World} {v : AV} {tok' : Nat → Bool} {nt' : Nat} (h : EffS P o ρ m.tok m.nt v tok' nt')
  (hρ : ∀ x ∈ o.op.operands, RV G w (ρ x) (ρv x)) (hm : RelM G m w) :
  After P o ρv G w fun u G' w' => RV G' w' v u ∧ RelM G' { m with tok := tok', nt := nt' } w' ∧ G'.bx = G.bx := by
 unfold EffS at h
 split at h
 ·rename_i c ho
  split at h
  ·rename_i s x T T' hcal hargs htys
   have hs := hρ s (by rw [ho]; simp only [Op.operands, Call.operands, hcal]; rw [← Array.mem_toList_iff]; simp [hargs])
   have hx := hρ x (by rw [ho]; simp only [Op.operands, Call.operands, hcal]; rw [← Array.mem_toList_iff]; simp [hargs])
   obtain ⟨φ, h, hφ, rfl⟩ := h
   unfold strA at h
   split at h
   ·rename_i str hxs
    rw [hxs] at hx
    have hxv : ρv x = .string str := by
     generalize ρv x = xw at hx
     cases hx with
     | d h1 => cases h1; rfl
    have hbl : (bytesD str).length = str.size := bytesD_len str
    have out : ∀ {es : List (List D)} {own : Own} {u : Value} {G' : Gh} {w' : World}, ∀ {E : TypeId}, RV G' w' (.osl 1 (es ++ bytesD str) (.tok m.nt)) u → G'.tk m.nt ≠ some none → (∀ g', G'.tk m.nt = some (some g') → ∃ cs f, w'.heap[g']? = some (.cells cs E f)) → RV G' w' (.buf E m.nt (es ++ bytesD str)) u := fun {es own u G' w' E} h1 h2 h5 => by
     cases h1 with
     | osl h3 h4 => exact .buf h3 h4 h2 h5
    split at h
    ·rename_i E sz by' sz0 hrow hse
     simp only [Option.some.injEq, Prod.mk.injEq] at h
     obtain ⟨rfl, rfl, rfl⟩ := h
     obtain ⟨hT, rfl, h0, hb⟩ := hφ
     obtain ⟨hE, i, z, hi, hz, hzs, his, hib, hszp, hbyp⟩ := rowT_spec hrow
     rw [hse] at hs
     have hsrc := src_string (P := P) (w := w) (ty := o.type) str hE hT hi hz his
     rw [← hbl] at hsrc
     refine (effA_core (news := bytesD str) ho hcal hargs htys hE hi hz hzs his hib hszp hbyp (.inr ⟨rfl, rfl⟩) (by simpa [hbl] using hb) rfl hs hxv (FlatV.bytes _ _ str) hsrc hm).imp fun u G' w' ⟨h1, h2, h3, h4, h5⟩ => ⟨?_, h2, h3⟩
     exact out (es := []) (own := .full) h1 (h4 (.inl fun e => by rw [e] at hbl; simp at hbl; omega)) (h5 fun t g e => by cases e)
    ·rename_i E sz by' E' t es hrow hse
     simp only [Option.some.injEq, Prod.mk.injEq] at h
     obtain ⟨rfl, rfl, rfl⟩ := h
     obtain ⟨hT, rfl, rfl, hb, ht⟩ := hφ
     obtain ⟨hE, i, z, hi, hz, hzs, his, hib, hszp, hbyp⟩ := rowT_spec hrow
     rw [hse] at hs
     have hsrc := src_string (P := P) (w := w) (ty := o.type) str hE hT hi hz his
     rw [← hbl] at hsrc
     obtain ⟨_, y, hy⟩ := hm.toks t ht
     have hs' : RV G w (.osl 1 es (.tok t)) (ρv s) ∧ G.tk t ≠ some none ∧ ∀ g, G.tk t = some (some g) → ∃ cs f, w.heap[g]? = some (.cells cs E' f) := by
      generalize ρv s = sv at hs
      cases hs with
      | buf h1 h2 h3 h6 => exact ⟨.osl h1 h2, h3, h6⟩
     have hyg : ∃ g, G.tk t = some (some g) := by
      cases y with
      | none => exact absurd hy hs'.2.1
      | some g => exact ⟨g, hy⟩
     obtain ⟨g, hg⟩ := hyg
     refine (effA_core (news := bytesD str) (own := .tok t) ho hcal hargs htys hE hi hz hzs his hib hszp hbyp (.inl rfl) (by simpa [hbl] using hb) ht hs'.1 hxv (FlatV.bytes _ _ str) hsrc hm).imp fun u G' w' ⟨h1, h2, h3, h4, h5⟩ => ⟨?_, h2, h3⟩
     exact out (es := es) (own := .full) h1 (h4 (.inr ⟨t, g, rfl, hg⟩)) (h5 fun t' g' e h => by cases e; exact hs'.2.2 g' h)
    ·cases h
   ·exact stkA_sound ho hcal hargs htys h hφ hs hx hm
  ·exact h.elim
 ·exact h.elim
theorem effA_sound {o : Oper} {ρ : Operand → AV} {ρv : Operand → Value} {G : Gh} {m : AMem} {w : World} {v : AV} {tok' : Nat → Bool} {nt' : Nat} (h : EffA P o ρ m.tok m.nt v tok' nt')
  (hρ : ∀ x ∈ o.op.operands, RV G w (ρ x) (ρv x)) (hm : RelM G m w) :
  After P o ρv G w fun u G' w' => RV G' w' v u ∧ RelM G' { m with tok := tok', nt := nt' } w' ∧ G'.bx = G.bx := by
 rcases h with h | h
 ·exact effA0_sound h hρ hm
 ·exact effS_sound h hρ hm
end Go.AM
namespace Go.AM
open Go
variable {P : Program}
def structT (P : Program) (T : TypeId) : Option (List (Nat × Nat)) := match P.underlying T with
 | some (.struct fs) => if fs.toList.all (fun f => (P.info? f.type).isSome) then some (fs.toList.map fun f => (f.offset, ((P.info? f.type).map (·.size)).getD 0)) else none
 | _ => none
def buildT (P : Program) (T : TypeId) : Option (List (Nat × Nat)) := match structT P T with
 | some pl => some pl
 | none => match arrT P T with
  | some (_, e) => match szOf P e with
   | some _ => some []
   | none => none
  | none => none
def fillA (pl : List (Nat × Nat)) (cells : List AV) : List (Nat × AV) → Option (List AV)
 | [] => some cells
 | (i, x) :: r => match pl[i]?, x.cells? with
  | some (off, n), some cs => if cs.length = n ∧ off + n ≤ cells.length then fillA pl (setCells cells off cs) r else none
  | _, _ => none
def BinOK (P : Program) (op : BinOp) (T : TypeId) (a b r : Value) : Prop := r.oneCell' = true ∧ ∀ x y w, Sem.run P (do eqGuard op T x y a b; binOp op T a b) w = .ok r w
def UnOK (P : Program) (op : UnOp) (a r : Value) : Prop := r.oneCell' = true ∧ ∀ w, Sem.run P (Op.unary op a) w = .ok r w
def ConvOK (P : Program) (s t : TypeId) (a r : Value) : Prop := r.oneCell' = true ∧ ∀ w, Sem.run P (convert s t a) w = .ok r w
def BuiltinOK (P : Program) (b : Builtin) (ts : Array TypeId) (t : TypeId) (vs : List Value) (r : Value) : Prop := r.oneCell' = true ∧ ∀ cs w, Sem.run P (builtin b ts t cs vs.toArray) w = .ok (.value r) w
def optIs (ρ : Operand → AV) (o : Option Operand) (dflt n : Nat) : Prop := match o with
 | none => n = dflt
 | some x => match ρ x with
  | .d (.raw (.int _ k)) => k = (n : Int)
  | _ => False
def rowsOf : List AV → Option (List (List D))
 | [] => some []
 | x :: r => match x.cells?, rowsOf r with
  | some cs, some rs => match toDs cs with
   | some ds => some (ds :: rs)
   | none => none
  | _, _ => none
def lenOf (P : Program) (T : TypeId) (x : AV) (v : AV) : Prop := match x with
 | .msl _ _ n _ => (elemT P T).isSome = true ∧ v = .d (.raw (.int .i64 n))
 | .d (.raw (.string s)) => strT P T = true ∧ v = .d (.raw (.int .i64 s.size))
 | .d (.sl _ es) => (elemT P T).isSome = true ∧ v = .d (.raw (.int .i64 es.length))
 | .osl _ es _ => (elemT P T).isSome = true ∧ v = .d (.raw (.int .i64 es.length))
 | .stk _ _ es => (elemT P T).isSome = true ∧ v = .d (.raw (.int .i64 es.length))
 | _ => False
def idxOf (P : Program) (T : TypeId) (x : AV) (n : Int) (v : AV) : Prop := match rowT P T, x with
 | some (_, sz, _), .msl k off len sz' => 0 ≤ n ∧ n < len ∧ sz' = sz ∧ v = .ptr k (off + n.toNat) 0
 | some (_, sz, _), .d (.sl _ es) => 0 ≤ n ∧ ∃ e, es[n.toNat]? = some e ∧ e.length = sz ∧ v = .cptr e 0
 | some (_, sz, _), .osl _ es _ => 0 ≤ n ∧ ∃ e, es[n.toNat]? = some e ∧ e.length = sz ∧ v = .cptr e 0
 | none, .cptr cs off => match arrT P T with
  | some (len, E) => match szOf P E with
   | some sz => 0 ≤ n ∧ n < len ∧ v = .cptr cs (off + n.toNat * sz)
   | none => False
  | none => False
 | _, _ => False
def sliceOf (P : Program) (T : TypeId) (ρ : Operand → AV) (x : AV) (lo hi mx : Option Operand) (v : AV) : Prop := match x with
 | .msl k off n sz => match rowT P T with
  | some (_, sz', _) => sz' = sz ∧ mx = none ∧ ∃ l h, optIs ρ lo 0 l ∧ optIs ρ hi n h ∧ l ≤ h ∧ h ≤ n ∧ (l < n ∨ l = 0) ∧ v = .msl k (off + l) (h - l) sz
  | none => False
 | .stk t sz es => match rowT P T with
  | some (_, sz', _) => sz' = sz ∧ lo = none ∧ ∃ h, optIs ρ hi es.length h ∧ h ≤ es.length ∧
    (match mx with
     | none => v = .stk t sz (es.take h)
     | some _ => h = 0 ∧ hi.isSome = true ∧ optIs ρ mx 0 0 ∧ v = .osl sz [] .full)
  | none => False
 | .d (.raw (.string s)) => strT P T = true ∧ mx = none ∧ ∃ l h, optIs ρ lo 0 l ∧ optIs ρ hi s.size h ∧ l ≤ h ∧ h ≤ s.size ∧ v = .d (.raw (.string (s.extract l h)))
 | x => match rowT P T, x.elems? with
  | some (_, sz, _), some (sz', es) => ∃ l h, (sz' = sz ∨ es = []) ∧ optIs ρ lo 0 l ∧ optIs ρ hi es.length h ∧ l ≤ h ∧ h ≤ es.length ∧
    (match mx with
     | none => v = .d (.sl sz ((es.take h).drop l))
     | some _ => hi.isSome = true ∧ optIs ρ mx 0 h ∧ v = .osl sz ((es.take h).drop l) .full)
  | _, _ => False
def EffN (P : Program) (base : Nat) (o : Oper) (ρ : Operand → AV) (v : AV) : Prop := match o.op with
 | .move x => v = ρ x
 | .assign x => v = ρ x
 | .pick c a b => match ρ c with
  | .d (.raw (.bool t)) => v = (match t with | true => ρ a | false => ρ b)
  | _ => False
 | .alloc _ => match o.dst with
  | some s => v = .ptr (base + s) 0 0
  | none => False
 | .build T parts => match buildT P T, zeroT P T with
  | some pl, some zs => match fillA pl (zs.map ofVal1) (parts.toList.map fun p => (p.1, ρ p.2)) with
   | some cs => v = .agg cs
   | none => False
  | _, _ => False
 | .buildSlice T len parts => match rowT P T, rowsOf (parts.toList.map fun p => ρ p.2) with
  | some (_, sz, _), some rows => parts.toList.map (·.1) = List.range len ∧ (∀ r ∈ rows, r.length = sz) ∧ len * sz ≤ 16777216 ∧ v = .osl sz rows .full
  | _, _ => False
 | .nilCheck x => match ρ x with
  | .ptr k i off => v = .ptr k i off
  | .cptr cs off => v = .cptr cs off
  | .fn (.func f) caps => v = .fn (.func f) caps
  | _ => False
 | .binOp op T x y _ => match rawOf (ρ x), rawOf (ρ y) with
  | some a, some b => ∃ r, BinOK P op T a b r ∧ v = .d (.raw r)
  | _, _ => False
 | .unOp op _ x => match rawOf (ρ x) with
  | some a => ∃ r, UnOK P op a r ∧ v = .d (.raw r)
  | none => False
 | .convert s t x => match rawOf (ρ x) with
  | some a => ∃ r, ConvOK P s t a r ∧ v = .d (.raw r)
  | none => False
 | .makeFunc fn first caps => first.toList = [] ∧ v = .fn fn (caps.toList.map ρ)
 | .fieldAddr T x f => match structT P T with
  | some pl => match pl[f]?, ρ x with
   | some (off, n), .cptr cs o' => n ≠ 0 ∧ v = .cptr cs (o' + off)
   | some (off, n), .ptr k i o' => n ≠ 0 ∧ v = .ptr k i (o' + off)
   | _, _ => False
  | none => False
 | .field T x f => match fieldT P T f, ρ x with
  | some (ft, off), .agg cs => match aggT P ft, szOf P ft with
   | some ag, some n => loadA ag n cs off = some v
   | _, _ => False
  | _, _ => False
 | .indexAddr T x i => match ρ i with
  | .d (.raw (.int _ n)) => idxOf P T (ρ x) n v
  | _ => False
 | .index T x i => match ρ x, ρ i with
  | .d (.raw (.string s)), .d (.raw (.int _ n)) => strT P T = true ∧ 0 ≤ n ∧ ∃ b, s[n.toNat]? = some b ∧ v = .d (.raw (.int .u8 b.toNat))
  | _, _ => False
 | .extract t i => match ρ t with
  | .tup vs => vs[i]? = some v
  | _ => False
 | .slice T x lo hi mx => sliceOf P T ρ (ρ x) lo hi mx v
 | .call c => match c.callee, c.args.toList.map ρ, c.argTypes.toList with
  | .builtin .len, [x], [T] => lenOf P T x v
  | .builtin .append, _, _ => False
  | .builtin b, _, _ => match rawsOf (c.args.toList.map ρ) with
   | some vs => ∃ r, BuiltinOK P b c.argTypes o.type vs r ∧ v = .d (.raw r)
   | none => False
  | _, _, _ => False
 | _ => False
theorem run_asIntOf (k : IntKind) (n : Int) (w : World) : (asIntOf (.int k n)).run P w = .ok (k, n) w := rfl
theorem rowT_sz {T E sz by' : Nat} (h : rowT P T = some (E, sz, by')) : P.underlying T = some (.slice E) ∧ szOf P E = some sz ∧ 0 < sz := by
 obtain ⟨h1, i, z, hi, _, _, hs, _, h2, _⟩ := rowT_spec h
 exact ⟨h1, by simp [szOf, hi, hs], h2⟩
theorem elemT_spec {T E : Nat} (h : elemT P T = some E) : P.underlying T = some (.slice E) := by
 unfold elemT at h
 split at h
 ·simp_all
 ·cases h
theorem strT_spec {T : Nat} (h : strT P T = true) : P.underlying T = some .string := by
 unfold strT at h
 split at h
 ·assumption
 ·cases h
theorem lenOf_sound {T ty : Nat} {x v : AV} {xv : Value} {G : Gh} {w : World} (h : lenOf P T x v) (hx : RV G w x xv) : ∃ u, (Builtin.len_ #[T] ty #[xv]).run P w = .ok u w ∧ RV G w v u := by
 unfold lenOf at h
 split at h
 ·rename_i k off n sz
  obtain ⟨h1, rfl⟩ := h
  obtain ⟨E, hE⟩ := Option.isSome_iff_exists.1 h1
  have hU := elemT_spec hE
  cases hx with
  | msl h1 h2 h3 => exact ⟨.int .i64 n, by simp [Builtin.len_, run_underlying hU, goInt], .raw rfl⟩
 ·rename_i s
  obtain ⟨h1, rfl⟩ := h
  have hU := strT_spec h1
  cases hx with
  | d h => cases h; exact ⟨.int .i64 s.size, by simp [Builtin.len_, run_underlying hU, goInt], .raw rfl⟩
 ·rename_i sz es
  obtain ⟨h1, rfl⟩ := h
  obtain ⟨E, hE⟩ := Option.isSome_iff_exists.1 h1
  have hU := elemT_spec hE
  cases hx with
  | d h => cases h; exact ⟨.int .i64 es.length, by simp [Builtin.len_, run_underlying hU, goInt], .raw rfl⟩
 ·rename_i sz es o
  obtain ⟨h1, rfl⟩ := h
  obtain ⟨E, hE⟩ := Option.isSome_iff_exists.1 h1
  have hU := elemT_spec hE
  cases hx with
  | osl h _ => cases h; exact ⟨.int .i64 es.length, by simp [Builtin.len_, run_underlying hU, goInt], .raw rfl⟩
 ·rename_i t sz es
  obtain ⟨h1, rfl⟩ := h
  obtain ⟨E, hE⟩ := Option.isSome_iff_exists.1 h1
  have hU := elemT_spec hE
  cases hx with
  | stk h =>
   obtain ⟨_, A, cap, rfl, _⟩ := h
   exact ⟨.int .i64 es.length, by simp [Builtin.len_, run_underlying hU, goInt], .raw rfl⟩
 ·exact h.elim
theorem run_indexAt_slice' {T E sz : Nat} (hE : P.underlying T = some (.slice E)) (hs : szOf P E = some sz) (a : Addr) (len cap : Nat) (k : IntKind) (n : Int) (h0 : 0 ≤ n) (h1 : n < len) (w : World) :
  (Instr.indexAt T (.slice (some a) len cap) (.int k n)).run P w = .ok (.pointer (some (a.add (n.toNat * sz)))) w := by
 have h01 : 0 ≤ n ∧ n < (len : Int) := ⟨h0, h1⟩
 simp only [Instr.indexAt, Sem.run_bind, run_asIntOf, Result.andThen_ok, run_underlying hE, Sem.run_pure, h01, and_self, ↓reduceIte, run_sizeOf hs]
theorem run_indexAt_array' {T E sz L : Nat} (hE : P.underlying T = some (.array L E)) (hs : szOf P E = some sz) (a : Addr) (k : IntKind) (n : Int) (h0 : 0 ≤ n) (h1 : n < L) (w : World) :
  (Instr.indexAt T (.pointer (some a)) (.int k n)).run P w = .ok (.pointer (some (a.add (n.toNat * sz)))) w := by
 have h01 : 0 ≤ n ∧ n < (L : Int) := ⟨h0, h1⟩
 simp only [Instr.indexAt, Sem.run_bind, run_asIntOf, Result.andThen_ok, run_underlying hE, Sem.run_pure, h01, and_self, ↓reduceIte, run_sizeOf hs, Instr.sureAddr]
theorem idx_es {T E sz by' sz0 : Nat} (hrow : rowT P T = some (E, sz, by')) {es : List (List D)} {e : List D} {k : IntKind} {n : Int} {xv : Value} {G : Gh} {w : World} (hx : RVd w.cell? G.ps (.sl sz0 es) xv) (h0 : 0 ≤ n) (he : es[n.toNat]? = some e) (hl : e.length = sz) :
  ∃ u, (Instr.indexAt T xv (.int k n)).run P w = .ok u w ∧ RV G w (.cptr e 0) u := by
 obtain ⟨hE, hs, hp⟩ := rowT_sz hrow
 obtain ⟨hlt, rfl⟩ := List.getElem?_eq_some_iff.1 he
 cases hx with
 | sl u hcap hmax hsz hA hc hr =>
  rename_i A cap
  have hszz : sz0 = sz := (hsz _ (List.getElem_mem hlt)).symm.trans hl
  subst hszz
  obtain ⟨a, rfl⟩ := hA (by intro h; subst h; simp at hlt)
  refine ⟨_, run_indexAt_slice' hE hs a _ cap k n h0 (by omega) w, ?_⟩
  have : (a.add (n.toNat * sz0)) = (a.add (n.toNat * sz0)).add 0 := by simp [Addr.add]
  rw [this]
  refine .cptr _ (fun j => u n.toNat j) (fun j hj => ?_) (fun j hj => hr n.toNat j hlt hj)
  rw [add_add]
  exact hc a rfl n.toNat j hlt (by rw [← hl]; exact hj)
theorem idxOf_sound {T : Nat} {x v : AV} {k : IntKind} {n : Int} {xv : Value} {G : Gh} {w : World} (h : idxOf P T x n v) (hx : RV G w x xv) : ∃ u, (Instr.indexAt T xv (.int k n)).run P w = .ok u w ∧ RV G w v u := by
 unfold idxOf at h
 split at h
 ·rename_i E sz by' key off len sz' hrow
  obtain ⟨h0, h1, rfl, rfl⟩ := h
  obtain ⟨hE, hs, hp⟩ := rowT_sz hrow
  cases hx with
  | msl hb hn hc =>
   rename_i b cap
   refine ⟨_, run_indexAt_slice' hE hs _ _ cap k n h0 h1 w, ?_⟩
   rw [add_none]
   have : off * sz' + n.toNat * sz' = (off + n.toNat) * sz' + 0 := by rw [Nat.add_mul]; omega
   rw [this]
   exact .ptr hb
 ·rename_i E sz by' sz0 es hrow
  obtain ⟨h0, e, he, hl, rfl⟩ := h
  cases hx with
  | d hx => exact idx_es hrow hx h0 he hl
 ·rename_i E sz by' sz0 es o hrow
  obtain ⟨h0, e, he, hl, rfl⟩ := h
  cases hx with
  | osl hx _ => exact idx_es hrow hx h0 he hl
 ·split at h
  ·rename_i cs off hrow L E harr
   split at h
   ·rename_i sz hs
    obtain ⟨h0, h1, rfl⟩ := h
    have hE : P.underlying T = some (.array L E) := by
     unfold arrT at harr
     split at harr
     ·simp_all
     ·cases harr
    cases hx with
    | cptr a u hc hr =>
     refine ⟨_, run_indexAt_array' hE hs _ k n h0 h1 w, ?_⟩
     rw [add_add]
     exact .cptr a u hc hr
   ·exact h.elim
  ·exact h.elim
 ·exact h.elim
theorem optIs_sound {ρ : Operand → AV} {ρv : Operand → Value} {G : Gh} {w : World} {o : Option Operand} {d n : Nat} (h : optIs ρ o d n) (hρ : ∀ x, o = some x → RV G w (ρ x) (ρv x)) :
  (o = none ∧ n = d) ∨ ∃ x k, o = some x ∧ ρv x = .int k (n : Int) := by
 unfold optIs at h
 split at h
 ·exact .inl ⟨rfl, h⟩
 ·rename_i x
  split at h
  ·rename_i k m hx
   have hr := hρ x rfl
   rw [hx] at hr
   generalize hv : ρv x = v at hr
   cases hr with
   | d hd => cases hd; subst h; exact .inr ⟨x, k, rfl, hv⟩
  ·exact h.elim
abbrev Bxs := Nat → Option (List (List AV))
abbrev Tks := Nat → Bool
end Go.AM
