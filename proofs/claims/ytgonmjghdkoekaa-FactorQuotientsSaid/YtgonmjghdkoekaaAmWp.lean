/-
  The abstract machine, thirteenth part: whole bodies: sequences, tests, blocks, loops; forgetting; and calls out of bodies.
-/
import Derived.Test.YtgonmjghdkoekaaAmReg2
namespace Go.AM
open Go
set_option linter.unusedSimpArgs false
set_option linter.unusedVariables false

variable {P : Program}

/-- What a body is walked in: the keys of its own boxes begin at 'base', it has n slots, and B0 are the boxes that it found. -/
structure Cx where
  base : Nat
  nb : Nat
  n : Nat
  B0 : Nat → Option (List (List AV))

/-- From the one ghost and world to a later one, as a caller sees it. -/
structure LeB (base : Nat) (G : Gh) (w : World) (G' : Gh) (w' : World) : Prop where
  os : w'.os = w.os
  tape : w'.tape = w.tape
  output : w'.output = w.output
  size : w.heap.size ≤ w'.heap.size
  whole : ∀ b, b < w.heap.size → G.kind b = .whole → G'.kind b = .whole ∧ w'.heap[b]? = w.heap[b]?
  part : ∀ b f c, G.kind b = .part f c → (∃ f', f ≤ f' ∧ G'.kind b = .part f' c) ∧ ∀ a : Addr, a.block = b → a.off < f → w'.cell? a = w.cell? a
  bx : ∀ k, k < base → G'.bx k = G.bx k
  nt : G.nt ≤ G'.nt
  tk : ∀ t, t < G.nt → G'.tk t = none ∨ (G'.tk t = G.tk t ∧ ∀ g, G.tk t = some (some g) → G'.kind g = G.kind g)

theorem LeK.leB {base : Nat} {G G' : Gh} {w w' : World} {b b' : Nat → Option (List (List AV))} (h : LeK base G w b G' w' b') : LeB base G w G' w' :=
  ⟨h.1.os, h.1.tape, h.1.output, h.1.size, h.1.whole, h.1.part, fun k hk => by
    cases hg : G.bx k with
    | none => exact (h.2 k hk hg).1
    | some x => exact h.1.bx k x hg, h.1.nt, h.1.tk⟩

theorem LeB.refl (base : Nat) (G : Gh) (w : World) : LeB base G w G w := (LeK.refl base G w fun _ => none).leB

theorem LeB.trans {base : Nat} {G1 G2 G3 : Gh} {w1 w2 w3 : World} (h : LeB base G1 w1 G2 w2) (k : LeB base G2 w2 G3 w3) : LeB base G1 w1 G3 w3 where
  os := k.os.trans h.os
  tape := k.tape.trans h.tape
  output := k.output.trans h.output
  size := Nat.le_trans h.size k.size
  whole b hb hk := by
    obtain ⟨h1, h2⟩ := h.whole b hb hk
    obtain ⟨k1, k2⟩ := k.whole b (Nat.lt_of_lt_of_le hb h.size) h1
    exact ⟨k1, k2.trans h2⟩
  part b f c hk := by
    obtain ⟨⟨f1, hf1, h1⟩, h2⟩ := h.part b f c hk
    obtain ⟨⟨f2, hf2, k1⟩, k2⟩ := k.part b f1 c h1
    exact ⟨⟨f2, Nat.le_trans hf1 hf2, k1⟩, fun a ha ho => (k2 a ha (Nat.lt_of_lt_of_le ho hf1)).trans (h2 a ha ho)⟩
  bx j hj := (k.bx j hj).trans (h.bx j hj)
  nt := Nat.le_trans h.nt k.nt
  tk t ht := by
    rcases k.tk t (Nat.lt_of_lt_of_le ht h.nt) with k1 | ⟨k1, k2⟩
    · exact .inl k1
    · rcases h.tk t ht with h1 | ⟨h1, h2⟩
      · exact .inl (k1.trans h1)
      · exact .inr ⟨k1.trans h1, fun g hg => (k2 g (h1.trans hg)).trans (h2 g hg)⟩

/-! ### Forgetting, and freezing a box into data -/
inductive OkIn (p q : Nat → Prop) : AV → Prop
  | bot : OkIn p q .bot
  | d {x} : OkIn p q (.d x)
  | osl {sz es o} (h : ∀ t, o = .tok t → q t) : OkIn p q (.osl sz es o)
  | cptr {cs off} : OkIn p q (.cptr cs off)
  | ptr {k i off} (h : p k) : OkIn p q (.ptr k i off)
  | msl {k off n sz} (h : p k) : OkIn p q (.msl k off n sz)
  | fn {f caps} (h : ∀ c ∈ caps, OkIn p q c) : OkIn p q (.fn f caps)
  | agg {cs} (h : ∀ c ∈ cs, OkIn p q c) : OkIn p q (.agg cs)
  | tup {cs} (h : ∀ c ∈ cs, OkIn p q c) : OkIn p q (.tup cs)

/-- Data read otherwise: an empty slice fits every element. -/
inductive DSub : D → D → Prop
  | refl {x} : DSub x x
  | emp {sz sz'} : DSub (.sl sz []) (.sl sz' [])
  | sl {sz : Nat} {es es' : List (List D)} (hl : es.length = es'.length) (hs : ∀ i (h1 : i < es.length) (h2 : i < es'.length), es[i].length = es'[i].length)
      (h : ∀ i (h1 : i < es.length) (h2 : i < es'.length) j (g1 : j < es[i].length) (g2 : j < es'[i].length), DSub es[i][j] es'[i][j]) : DSub (.sl sz es) (.sl sz es')

theorem DSub.len {sz sz' : Nat} {es es' : List (List D)} (h : DSub (.sl sz es) (.sl sz' es')) : es'.length = es.length := by
  cases h with
  | refl => rfl
  | emp => rfl
  | sl hl => exact hl.symm

theorem RVd.dsub {c : Addr → Option Value} {ps : Addr → Prop} {x y : D} {v : Value} (h : DSub x y) (r : RVd c ps x v) : RVd c ps y v := by
  induction h generalizing v with
  | refl => exact r
  | emp =>
    cases r with
    | sl u hcap hmax hsz hA hc hr => exact .sl (es := []) u hcap hmax (by simp) (by simp) (fun a _ i j hi _ => by simp at hi) (fun i j hi _ => by simp at hi)
  | @sl sz es es' hl hs h ih =>
    generalize hn : es.length = n at r
    cases r with
    | sl u hcap hmax hsz hA hc hr =>
      have hsz' : ∀ e ∈ es', e.length = sz := by
        intro e he
        obtain ⟨i, hi, rfl⟩ := List.getElem_of_mem he
        have h1 : i < es.length := by omega
        rw [← hs i h1 hi]
        exact hsz _ (List.getElem_mem h1)
      rw [hl]
      refine .sl u (by omega) hmax hsz' (fun hne => hA fun e => hne ?_) (fun a ha i j hi hj => hc a ha i j (by omega) hj) (fun i j hi hj => ?_)
      · subst e; simp at hl; exact List.eq_nil_of_length_eq_zero (by simpa using hl.symm)
      · have h1 : i < es.length := by omega
        have g1 : j < es[i].length := by rw [hs i h1 hi]; exact hj
        exact ih i h1 hi j g1 hj (hr i j h1 g1)

/-- What a slot may be weakened to. -/
inductive To (p q : Nat → Prop) (fz : Option (Nat × Nat × List (List D))) : AV → AV → Prop
  | bot {x} : To p q fz x .bot
  | same {x} (h : OkIn p q x) : To p q fz x x
  | data {sz es o} : To p q fz (.osl sz es o) (.d (.sl sz es))
  | nil {sz sz' es} : es = [] → To p q fz (.osl sz es .full) (.osl sz' [] .full)
  | dsub {x y} (h : DSub x y) : To p q fz (.d x) (.d y)
  | odsub {sz es o y} (h : DSub (.sl sz es) y) : To p q fz (.osl sz es o) (.d y)
  | osub {sz es sz' es'} (h : DSub (.sl sz es) (.sl sz' es')) : To p q fz (.osl sz es .full) (.osl sz' es' .full)
  | frz {k sz es} (h : fz = some (k, sz, es)) : To p q fz (.msl k 0 es.length sz) (.d (.sl sz es))
  | agg {cs ds : List AV} (hl : cs.length = ds.length) (h : ∀ i (h1 : i < cs.length) (h2 : i < ds.length), To p q fz cs[i] ds[i]) : To p q fz (.agg cs) (.agg ds)
  | tup {cs ds : List AV} (hl : cs.length = ds.length) (h : ∀ i (h1 : i < cs.length) (h2 : i < ds.length), To p q fz cs[i] ds[i]) : To p q fz (.tup cs) (.tup ds)

/-- The ghost behind it. -/
def Gh.weak (G : Gh) (p : Nat → Prop) [DecidablePred p] (b : Option Nat) (nt' : Nat) : Gh :=
  { bx := fun k => if p k then G.bx k else none, kind := fun j => if b = some j then .whole else G.kind j, tk := fun t => if t < nt' then G.tk t else none, nt := nt' }

theorem weak_ps {G : Gh} {w : World} {nt' : Nat} {p : Nat → Prop} [DecidablePred p] {b : Option Nat} (hb : ∀ j, b = some j → G.kind j = .box) (a : Addr) (u : Value) (h : G.ps a) (hc : w.cell? a = some u) : (G.weak p b nt').ps a ∧ w.cell? a = some u := by
  refine ⟨?_, hc⟩
  unfold Gh.ps at h ⊢
  simp only [Gh.weak]
  by_cases e : b = some a.block
  · simp [e]
  · simp only [e, ↓reduceIte]
    exact h

theorem own_weak {G : Gh} {nt' : Nat} {p : Nat → Prop} [DecidablePred p] {b : Option Nat} (hb : ∀ j, b = some j → G.kind j = .box) {sz n : Nat} {o : Own} {v : Value} (h : OwnR G sz n o v) (hq : ∀ t, o = .tok t → t < G.nt → t < nt') : OwnR (G.weak p b nt') sz n o v := by
  cases o with
  | full => exact h
  | tok t =>
    obtain ⟨h1, h2⟩ := h
    have hlt := hq t rfl h1
    refine ⟨hlt, fun x hx => ?_⟩
    simp only [Gh.weak, hlt, ↓reduceIte] at hx
    have := h2 x hx
    cases x with
    | none => exact this
    | some g =>
      obtain ⟨cap, hv, hk⟩ := this
      refine ⟨cap, hv, ?_⟩
      simp only [Gh.weak]
      by_cases e : b = some g
      · have := hb g e
        rw [hk] at this; cases this
      · simp only [e, ↓reduceIte]
        exact hk

theorem RV.weak {G : Gh} {w : World} {nt' : Nat} {p q : Nat → Prop} [DecidablePred p] {b : Option Nat} (hb : ∀ j, b = some j → G.kind j = .box) {x : AV} {v : Value} (h : RV G w x v) (ho : OkIn p q x) (hq : ∀ t, q t → t < G.nt → t < nt') : RV (G.weak p b nt') w x v := by
  induction h with
  | bot => exact .bot
  | d h1 => exact .d (h1.mono (weak_ps hb))
  | osl h1 h2 =>
    cases ho with
    | osl ho => exact .osl (h1.mono (weak_ps hb)) (own_weak hb h2 fun t ht => hq t (ho t ht))
  | ptr h1 =>
    cases ho with
    | ptr hp => exact .ptr (by simp only [Gh.weak, hp, ↓reduceIte]; exact h1)
  | cptr a u hc hr => exact .cptr a u (fun j hj => weak_ps hb _ _ (hc j hj).1 (hc j hj).2) (fun j hj => (hr j hj).mono (weak_ps hb))
  | msl h1 h2 h3 =>
    cases ho with
    | msl hp => exact .msl (by simp only [Gh.weak, hp, ↓reduceIte]; exact h1) h2 h3
  | fn hl _ ih =>
    cases ho with
    | fn hp => exact .fn hl fun i h1 h2 => ih i h1 h2 (hp _ (List.getElem_mem h1))
  | agg hl _ hone ih =>
    cases ho with
    | agg hp => exact .agg hl (fun i h1 h2 => ih i h1 h2 (hp _ (List.getElem_mem h1))) hone
  | tup hl _ ih =>
    cases ho with
    | tup hp => exact .tup hl fun i h1 h2 => ih i h1 h2 (hp _ (List.getElem_mem h1))

/-- What is frozen: a box of the walk's own whose cells are data. -/
def FzOk (S : Nat → Option (List (List AV))) (fz : Option (Nat × Nat × List (List D))) : Prop := ∀ k sz es, fz = some (k, sz, es) → ∃ rows, S k = some rows ∧ rows.length = es.length ∧ (∀ r ∈ rows, r.length = sz) ∧
  ∀ i (h1 : i < rows.length) (h2 : i < es.length), toDs rows[i] = some es[i]

theorem RV.to {G : Gh} {m : AMem} {w : World} {nt' : Nat} {p q : Nat → Prop} [DecidablePred p] {fz : Option (Nat × Nat × List (List D))} {b : Option Nat} (hm : RelM G m w) (hb : ∀ j, b = some j → G.kind j = .box)
    (hfz : FzOk m.box fz) (hfb : ∀ k sz es, fz = some (k, sz, es) → ∀ j s, G.bx k = some (j, s) → b = some j) {x y : AV} {v : Value} (h : RV G w x v) (ht : To p q fz x y) (hq : ∀ t, q t → t < G.nt → t < nt') : RV (G.weak p b nt') w y v := by
  induction ht generalizing v with
  | bot => exact .bot
  | same ho => exact h.weak hb ho hq
  | data =>
    cases h with
    | osl h1 h2 => exact .d (h1.mono (weak_ps hb))
  | nil he =>
    subst he
    cases h with
    | osl h1 h2 =>
      obtain ⟨A, rfl⟩ := h2
      exact .osl (.sl (es := []) (fun _ _ => default) (Nat.le_refl _) (by decide) (by simp) (by simp) (by simp) (by simp)) ⟨A, rfl⟩
  | dsub hd =>
    cases h with
    | d h1 => exact .d ((h1.mono (weak_ps hb)).dsub hd)
  | odsub hd =>
    cases h with
    | osl h1 h2 => exact .d ((h1.mono (weak_ps hb)).dsub hd)
  | osub hd =>
    cases h with
    | osl h1 h2 =>
      obtain ⟨A, rfl⟩ := h2
      have h3 := (h1.mono (weak_ps (nt' := nt') (p := p) hb)).dsub hd
      exact .osl h3 ⟨A, by rw [hd.len]⟩
  | @frz k sz es hf =>
    obtain ⟨rows, hk, hl, hrs, hds⟩ := hfz k sz es hf
    generalize hn : es.length = n0 at h
    cases h with
    | msl h1 h2 h3 =>
      rename_i bb cap
      subst hn
      obtain ⟨hkb, cells, e, hh, hs, hR, hone⟩ := hm.box k rows bb sz hk h1
      have hbb := hfb k sz es hf bb sz h1
      have hsl : ∀ e ∈ es, e.length = sz := by
        intro l hlm
        obtain ⟨i, hi, rfl⟩ := List.getElem_of_mem hlm
        have hr := hds i (by omega) hi
        have hR' : RVs G w rows[i] (cells.toList.drop (i * sz) |>.take sz) := by
          have := (hR.drop (i * sz)).take sz
          have e1 : (rows.flatten.drop (i * sz)).take sz = rows[i] := by
            have hri : rows[i]? = some rows[i] := List.getElem?_eq_getElem (by omega)
            have hlen : rows[i].length = sz := hrs _ (List.getElem_mem _)
            apply List.ext_getElem?
            intro j
            by_cases hj : j < sz
            · rw [List.getElem?_take_of_lt hj, List.getElem?_drop, flat_get hrs hri hj]
            · rw [List.getElem?_eq_none (by simp; omega), List.getElem?_eq_none (by omega)]
          rw [e1] at this
          exact this
        have := (toDs_spec hR' hr).1
        rw [this, ← hR'.1]
        exact hrs _ (List.getElem_mem _)
      have hflat : Flat w.cell? (G.weak p b nt').ps sz es (some ⟨bb, 0 * sz, none⟩) cells.toList := by
        constructor
        · rw [← hR.1, flat_len hrs, hl]
        · intro a ha q u hq
          cases ha
          rw [add_none]
          refine ⟨?_, ?_⟩
          · simp [Gh.ps, Gh.weak, hbb]
          · rw [cell_of_row w bb _ cells e (0, 0) hh]
            simpa using hq
        · exact hone
        · exact fun _ => ⟨_, rfl⟩
        · exact hsl
        · intro i j hi hj
          have hri : rows[i]? = some rows[i] := List.getElem?_eq_getElem (by omega)
          have hjs : j < sz := by rw [← hsl _ (List.getElem_mem hi)]; exact hj
          have hx : rows.flatten[i * sz + j]? = rows[i][j]? := flat_get hrs hri hjs
          have hjr : j < rows[i].length := by rw [hrs _ (List.getElem_mem _)]; exact hjs
          rw [List.getElem?_eq_getElem hjr] at hx
          obtain ⟨u, hu, hru⟩ := hR.get hx
          refine ⟨u, hu, ?_⟩
          have hd := hds i (by omega) hi
          have hR2 : RVs G w rows[i] (rows[i].mapIdx fun q _ => cells.toList.getD (i * sz + q) default) := by
            refine ⟨by simp, fun q g1 g2 => ?_⟩
            have hq : rows.flatten[i * sz + q]? = some rows[i][q] := by
              rw [flat_get hrs hri (by rw [← hrs _ (List.getElem_mem _)]; exact g1)]
              exact List.getElem?_eq_getElem g1
            obtain ⟨u', hu', hr'⟩ := hR.get hq
            simp only [List.getElem_mapIdx, List.getD_eq_getElem?_getD, hu', Option.getD_some]
            exact hr'
          have := (toDs_spec hR2 hd).2 j hj (by simp; exact hjr)
          simp only [List.getElem_mapIdx, List.getD_eq_getElem?_getD, hu, Option.getD_some] at this
          exact this.mono (weak_ps hb)
      exact .d (RVd.of_flat h2 h3 hflat)
  | agg hl _ ih =>
    cases h with
    | agg hl' hh hone => exact .agg (hl.symm.trans hl') (fun i h1 h2 => ih i (by omega) h1 (hh i (by omega) h2)) hone
  | tup hl _ ih =>
    cases h with
    | tup hl' hh => exact .tup (hl.symm.trans hl') (fun i h1 h2 => ih i (by omega) h1 (hh i (by omega) h2))

end Go.AM
