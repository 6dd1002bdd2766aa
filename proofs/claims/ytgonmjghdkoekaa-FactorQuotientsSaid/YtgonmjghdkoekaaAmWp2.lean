/-
  The abstract machine, fourteenth part: bodies.
-/
import Derived.Test.YtgonmjghdkoekaaAmWp
namespace Go.AM
open Go
set_option linter.unusedSimpArgs false
set_option linter.unusedVariables false

variable {P : Program}

/-! ### States written out -/
def tl : List (Nat × AV) → Nat → AV
  | [], _ => .bot
  | (i, v) :: r, t => if t = i then v else tl r t

def lk {α : Type} : List (Nat × α) → Nat → Option α
  | [], _ => none
  | (i, v) :: r, t => if t = i then some v else lk r t

def lb (base : Nat) (out : Nat → Option (List (List AV))) (loc : List (Nat × List (List AV))) : Nat → Option (List (List AV)) := fun k => if k < base then out k else lk loc (k - base)

theorem putT_tl (l : List (Nat × AV)) (d : Nat) (v : AV) : putT (tl l) (some d) v = tl ((d, v) :: l) := by
  funext t
  simp only [putT, upd, tl]
theorem putT_none (f : Nat → AV) (v : AV) : putT f none v = f := rfl
theorem tl_nil (t : Nat) : tl [] t = .bot := rfl
theorem tl_cons (i : Nat) (v : AV) (r : List (Nat × AV)) (t : Nat) : tl ((i, v) :: r) t = if t = i then v else tl r t := rfl
theorem lk_nil {α : Type} (t : Nat) : lk ([] : List (Nat × α)) t = none := rfl
theorem lk_cons {α : Type} (i : Nat) (v : α) (r : List (Nat × α)) (t : Nat) : lk ((i, v) :: r) t = if t = i then some v else lk r t := rfl

theorem lb_at (base s : Nat) (out : Nat → Option (List (List AV))) (loc : List (Nat × List (List AV))) : lb base out loc (base + s) = lk loc s := by
  have h : ¬ (base + s < base) := by omega
  simp [lb, h]
theorem lb_out {base k : Nat} (h : k < base) (out : Nat → Option (List (List AV))) (loc : List (Nat × List (List AV))) : lb base out loc k = out k := by
  simp [lb, h]
theorem upd_lb (base s : Nat) (out : Nat → Option (List (List AV))) (loc : List (Nat × List (List AV))) (rows : List (List AV)) : upd (lb base out loc) (base + s) (some rows) = lb base out ((s, rows) :: loc) := by
  funext k
  simp only [upd, lb, lk]
  by_cases h : k = base + s
  · subst h
    have h : ¬ (base + s < base) := by omega
    simp [h]
  · by_cases hk : k < base
    · simp [h, hk]
    · have : k - base ≠ s := by omega
      simp [h, hk, this]
theorem upd_lb_out {base k : Nat} (h : k < base) (out : Nat → Option (List (List AV))) (loc : List (Nat × List (List AV))) (v : Option (List (List AV))) : upd (lb base out loc) k v = lb base (upd out k v) loc := by
  funext j
  simp only [upd, lb]
  by_cases hj : j = k
  · subst hj; simp [h]
  · simp [hj]

/-! ### What a body finds at its entry -/
def Entry (cx : Cx) (nt0 : Nat) (G0 : Gh) : Prop := ∀ k rows, k < cx.base → cx.B0 k = some rows → G0.bx k ≠ none → ∀ r ∈ rows, ∀ x ∈ r, OkIn (· < cx.base) (· < nt0) x

theorem RV.ok {G : Gh} {w : World} {x : AV} {v : Value} {p q : Nat → Prop} (h : RV G w x v) (hp : ∀ k y, G.bx k = some y → p k) (hq : ∀ t, t < G.nt → q t) : OkIn p q x := by
  induction h with
  | bot => exact .bot
  | d _ => exact .d
  | osl _ h2 => exact .osl fun t ht => by subst ht; exact hq t h2.1
  | ptr h => exact .ptr (hp _ _ h)
  | cptr a u hc hr => exact .cptr
  | msl h _ _ => exact .msl (hp _ _ h)
  | fn hl _ ih => exact .fn fun c hc => by obtain ⟨i, hi, rfl⟩ := List.getElem_of_mem hc; exact ih i hi (by omega)
  | agg hl _ _ ih => exact .agg fun c hc => by obtain ⟨i, hi, rfl⟩ := List.getElem_of_mem hc; exact ih i hi (by omega)
  | tup hl _ ih => exact .tup fun c hc => by obtain ⟨i, hi, rfl⟩ := List.getElem_of_mem hc; exact ih i hi (by omega)

theorem OkIn.imp {p q p' q' : Nat → Prop} {x : AV} (h : OkIn p q x) (hp : ∀ k, p k → p' k) (hq : ∀ t, q t → q' t) : OkIn p' q' x := by
  induction h with
  | bot => exact .bot
  | d => exact .d
  | osl h => exact .osl fun t ht => hq t (h t ht)
  | cptr => exact .cptr
  | ptr h => exact .ptr (hp _ h)
  | msl h => exact .msl (hp _ h)
  | fn _ ih => exact .fn ih
  | agg _ ih => exact .agg ih
  | tup _ ih => exact .tup ih

theorem OkIn.and {p q p' q' : Nat → Prop} {x : AV} (h : OkIn p q x) (k : OkIn p' q' x) : OkIn (fun j => p j ∧ p' j) (fun t => q t ∧ q' t) x := by
  induction h with
  | bot => exact .bot
  | d => exact .d
  | osl h => cases k with | osl k => exact .osl fun t ht => ⟨h t ht, k t ht⟩
  | cptr => exact .cptr
  | ptr h => cases k with | ptr k => exact .ptr ⟨h, k⟩
  | msl h => cases k with | msl k => exact .msl ⟨h, k⟩
  | fn _ ih => cases k with | fn k => exact .fn fun c hc => ih c hc (k c hc)
  | agg _ ih => cases k with | agg k => exact .agg fun c hc => ih c hc (k c hc)
  | tup _ ih => cases k with | tup k => exact .tup fun c hc => ih c hc (k c hc)

/-! ### Weakening a state -/
def RowsTo (p q : Nat → Prop) (fz : Option (Nat × Nat × List (List D))) (rows rows' : List (List AV)) : Prop :=
  rows.length = rows'.length ∧ ∀ i (h1 : i < rows.length) (h2 : i < rows'.length), rows[i].length = rows'[i].length ∧ ∀ j (g1 : j < rows[i].length) (g2 : j < rows'[i].length), To p q fz rows[i][j] rows'[i][j]

structure Weak (cx : Cx) (nt0 : Nat) (out : Nat → Option (List (List AV))) (loc loc' : List (Nat × List (List AV))) (fz : Option (Nat × Nat × List (List D))) (S S' : AState) : Prop where
  hb : S.box = lb cx.base out loc
  hb' : S'.box = lb cx.base out loc'
  nt : S'.nt ≤ S.nt
  nt0 : nt0 ≤ S'.nt
  tok : ∀ t, S'.tok t = true → S.tok t = true ∧ (S'.nt = S.nt ∨ t < S'.nt)
  tmps : ∀ t, To (fun k => lb cx.base out loc' k ≠ none) (fun t => S'.nt = S.nt ∨ t < S'.nt) (fz.map fun x => (cx.base + x.1, x.2)) (S.tmps t) (S'.tmps t)
  boxes : ∀ s rows', lk loc' s = some rows' → ∃ rows, lk loc s = some rows ∧ RowsTo (fun k => lb cx.base out loc' k ≠ none) (fun t => S'.nt = S.nt ∨ t < S'.nt) (fz.map fun x => (cx.base + x.1, x.2)) rows rows'
  fz : ∀ s sz es, fz = some (s, sz, es) → lk loc' s = none ∧ ∃ rows, lk loc s = some rows ∧ rows.length = es.length ∧ (∀ r ∈ rows, r.length = sz) ∧ ∀ i (h1 : i < rows.length) (h2 : i < es.length), toDs rows[i] = some es[i]
  out : ∀ k rows, k < cx.base → out k = some rows → cx.B0 k = some rows ∨ ∀ r ∈ rows, ∀ x ∈ r, OkIn (fun k => lb cx.base out loc' k ≠ none) (fun t => S'.nt = S.nt ∨ t < S'.nt) x

theorem flat_two {α : Type} {sz : Nat} : ∀ {rows rows' : List (List α)}, (∀ r ∈ rows, r.length = sz) → rows.length = rows'.length → (∀ i (h1 : i < rows.length) (h2 : i < rows'.length), rows[i].length = rows'[i].length) → ∀ r ∈ rows', r.length = sz := by
  intro rows rows' hs hl h r hr
  obtain ⟨i, hi, rfl⟩ := List.getElem_of_mem hr
  rw [← h i (by omega) hi]
  exact hs _ (List.getElem_mem _)

theorem Weak.sound {cx : Cx} {nt0 : Nat} {out : Nat → Option (List (List AV))} {loc loc' : List (Nat × List (List AV))} {fz : Option (Nat × Nat × List (List D))} {S S' : AState} (h : Weak cx nt0 out loc loc' fz S S') {G0 G : Gh} {w0 w : World} {a : Act}
    (he : Entry cx nt0 G0) (hle : LeB cx.base G0 w0 G w) (hr : RelS cx.n cx.nb G S a w) (hnt0 : G0.nt ≤ nt0) : ∃ G', RelS cx.n cx.nb G' S' a w ∧ LeB cx.base G0 w0 G' w ∧
      ∀ {x y : AV} {v : Value}, RV G w x v → To (fun k => lb cx.base out loc' k ≠ none) (fun t => S'.nt = S.nt ∨ t < S'.nt) (fz.map fun x => (cx.base + x.1, x.2)) x y → RV G' w y v := by
  have hm := hr.mem
  let p : Nat → Prop := fun k => lb cx.base out loc' k ≠ none
  letI : DecidablePred p := fun _ => Classical.propDecidable _
  let q : Nat → Prop := fun t => S'.nt = S.nt ∨ t < S'.nt
  have hGnt : G.nt = S.nt := hm.nt
  have hq : ∀ t, q t → t < G.nt → t < S'.nt := by
    intro t ht hlt
    rcases ht with h1 | h1
    · omega
    · exact h1
  -- the frozen block
  let b : Option Nat := fz.bind fun x => (G.bx (cx.base + x.1)).map (·.1)
  have hb : ∀ j, b = some j → G.kind j = .box := by
    intro j hj
    obtain ⟨x, _, hj⟩ := Option.bind_eq_some_iff.1 hj
    obtain ⟨⟨j', s'⟩, h1, rfl⟩ := Option.map_eq_some_iff.1 hj
    exact (hm.blt h1).2
  have hfz : FzOk S.box (fz.map fun x => (cx.base + x.1, x.2)) := by
    intro k sz es hk
    obtain ⟨⟨s, sz', es'⟩, hf, hx⟩ := Option.map_eq_some_iff.1 hk
    simp only [Prod.mk.injEq] at hx
    obtain ⟨rfl, rfl, rfl⟩ := hx
    obtain ⟨_, rows, h1, h2⟩ := h.fz s sz' es' hf
    exact ⟨rows, by rw [h.hb, lb_at]; exact h1, h2⟩
  have hfb : ∀ k sz es, (fz.map fun x => (cx.base + x.1, x.2)) = some (k, sz, es) → ∀ j s, G.bx k = some (j, s) → b = some j := by
    intro k sz es hk j s hj
    obtain ⟨⟨s0, sz', es'⟩, hf, hx⟩ := Option.map_eq_some_iff.1 hk
    simp only [Prod.mk.injEq] at hx
    obtain ⟨rfl, rfl, rfl⟩ := hx
    simp only [b, hf, hj, Option.map_some, Option.bind_some]
  have hto : ∀ {x y : AV} {v : Value}, RV G w x v → To p q (fz.map fun x => (cx.base + x.1, x.2)) x y → RV (G.weak p b S'.nt) w y v :=
    fun hx ht => RV.to (m := ⟨S.box, cx.nb, S.tok, S.nt⟩) hm hb hfz hfb hx ht hq
  -- a box that stays is not the frozen one
  have hne : ∀ k j s, p k → G.bx k = some (j, s) → b ≠ some j := by
    intro k j s hp hk e
    obtain ⟨⟨s0, sz, es⟩, hf, e⟩ := Option.bind_eq_some_iff.1 e
    obtain ⟨⟨j', s'⟩, h1, h2⟩ := Option.map_eq_some_iff.1 e
    simp only at h2
    subst h2
    have hkk := hm.inj k (cx.base + s0) j' s s' hk h1
    subst hkk
    have := (h.fz s0 sz es hf).1
    exact hp (by rw [lb_at]; exact this)
  have hpS : ∀ k, p k → ∃ rows', S'.box k = some rows' := by
    intro k hp
    cases hk : S'.box k with
    | none => exact absurd (by rw [← h.hb']; exact hk) hp
    | some r => exact ⟨r, rfl⟩
  have hps : ∀ a u, G.ps a → w.cell? a = some u → (G.weak p b S'.nt).ps a ∧ w.cell? a = some u := fun a u h1 h2 => weak_ps hb a u h1 h2
  refine ⟨G.weak p b S'.nt, ⟨hr.defers, hr.size, fun t => hto (hr.tmps t) (h.tmps t), ?_⟩, ?_, hto⟩
  · constructor
    case box =>
      intro k rows' j sz hk hj
      simp only [Gh.weak] at hj
      split at hj
      · rename_i hp
        by_cases hkb : k < cx.base
        · have hk' : out k = some rows' := by
            simp only at hk
            rw [h.hb', lb_out hkb] at hk
            exact hk
          have hkS : S.box k = some rows' := by rw [h.hb, lb_out hkb]; exact hk'
          obtain ⟨h1, cs, e, h2, h3, h4, h5⟩ := hm.box k rows' j sz hkS hj
          refine ⟨?_, cs, e, h2, h3, ?_, h5⟩
          · simp only [Gh.weak, hne k j sz hp hj, ↓reduceIte]; exact h1
          · refine ⟨h4.1, fun i g1 g2 => ?_⟩
            have hrv := h4.2 i g1 g2
            refine hto hrv (.same ?_)
            have hmem : rows'.flatten[i] ∈ rows'.flatten := List.getElem_mem _
            obtain ⟨r, hrm, hxm⟩ := List.mem_flatten.1 hmem
            rcases h.out k rows' hkb hk' with h6 | h6
            · have hG0 : G0.bx k ≠ none := by rw [← hle.bx k hkb, hj]; simp
              have hk0 := he k rows' hkb h6 hG0 r hrm _ hxm
              have hk1 : OkIn (fun k => ∃ y, G.bx k = some y) (fun t => t < G.nt) rows'.flatten[i] := hrv.ok (fun k y hy => ⟨y, hy⟩) (fun t ht => ht)
              refine (hk0.and hk1).imp (fun k' hk' => ?_) (fun t ht => ?_)
              · obtain ⟨hlt, y, hy⟩ := hk'
                intro hnone
                rw [lb_out hlt] at hnone
                have : S.box k' = none := by rw [h.hb, lb_out hlt]; exact hnone
                rw [hm.nobox k' this] at hy
                cases hy
              · exact .inr (Nat.lt_of_lt_of_le ht.1 h.nt0)
            · exact h6 r hrm _ hxm
        · have hkk : k = cx.base + (k - cx.base) := by omega
          simp only at hk
          rw [h.hb', hkk, lb_at] at hk
          obtain ⟨rows, h1, h2, h3⟩ := h.boxes _ rows' hk
          have hkS : S.box k = some rows := by rw [h.hb, hkk, lb_at]; exact h1
          obtain ⟨g1, cs, e, g2, g3, g4, g5⟩ := hm.box k rows j sz hkS hj
          have hs' := flat_two g3 h2 (fun i a b => (h3 i a b).1)
          refine ⟨?_, cs, e, g2, hs', ?_, g5⟩
          · simp only [Gh.weak, hne k j sz hp hj, ↓reduceIte]; exact g1
          · have hlen : rows'.flatten.length = rows.flatten.length := by rw [flat_len hs', flat_len g3, h2]
            refine ⟨hlen.trans g4.1, fun i a1 a2 => ?_⟩
            have hszp : 0 < sz := by
              rcases Nat.eq_zero_or_pos sz with e0 | e0
              · subst e0
                rw [flat_len hs'] at a1
                simp at a1
              · exact e0
            have hi : i < rows'.length * sz := by rw [← flat_len hs']; exact a1
            have hd : i / sz < rows'.length := (Nat.div_lt_iff_lt_mul hszp).2 hi
            have hmod : i % sz < sz := Nat.mod_lt _ hszp
            have hidx : i / sz * sz + i % sz = i := by rw [Nat.mul_comm]; exact Nat.div_add_mod i sz
            have e1 : rows'.flatten[i]? = rows'[i / sz][i % sz]? := by
              have := flat_get hs' (List.getElem?_eq_getElem hd) hmod
              rw [hidx] at this
              exact this
            have e2 : rows.flatten[i]? = (rows[i / sz]'(by omega))[i % sz]? := by
              have := flat_get g3 (List.getElem?_eq_getElem (by omega : i / sz < rows.length)) hmod
              rw [hidx] at this
              exact this
            have hj1 : i % sz < rows'[i / sz].length := by rw [hs' _ (List.getElem_mem _)]; exact hmod
            have hj2 : i % sz < (rows[i / sz]'(by omega)).length := by rw [g3 _ (List.getElem_mem _)]; exact hmod
            rw [List.getElem?_eq_getElem a1, List.getElem?_eq_getElem hj1] at e1
            rw [List.getElem?_eq_getElem (by omega), List.getElem?_eq_getElem hj2] at e2
            have hx := g4.2 i (by omega) a2
            rw [Option.some.inj e2] at hx
            rw [Option.some.inj e1]
            exact hto hx ((h3 (i / sz) (by omega) hd).2 (i % sz) hj2 hj1)
      · cases hj
    case nobox =>
      intro k hk
      simp only [Gh.weak]
      rw [if_neg]
      intro hp
      exact hp (by rw [← h.hb']; exact hk)
    case inj =>
      intro k k' j s s' hk hk'
      simp only [Gh.weak] at hk hk'
      split at hk
      · split at hk'
        · exact hm.inj k k' j s s' hk hk'
        · cases hk'
      · cases hk
    case nb =>
      intro k hk
      cases hkS : S'.box k with
      | none => exact hkS
      | some rows' =>
        exfalso
        have hS := hm.nb k hk
        simp only at hS
        rw [h.hb] at hS
        rw [h.hb'] at hkS
        by_cases hkb : k < cx.base
        · rw [lb_out hkb] at hS hkS
          rw [hS] at hkS; cases hkS
        · have hkk : k = cx.base + (k - cx.base) := by omega
          rw [hkk, lb_at] at hS hkS
          obtain ⟨rows, h1, _⟩ := h.boxes _ rows' hkS
          rw [hS] at h1; cases h1
    case nt => rfl
    case toks =>
      intro t ht
      obtain ⟨h1, h2⟩ := h.tok t ht
      obtain ⟨h3, x, h4⟩ := hm.toks t h1
      have hlt : t < S'.nt := by
        rcases h2 with h2 | h2
        · simp only at h3; omega
        · exact h2
      exact ⟨hlt, x, by simp only [Gh.weak, hlt, ↓reduceIte]; exact h4⟩
    case tokb =>
      intro t g ht
      simp only [Gh.weak] at ht
      split at ht
      · obtain ⟨f, cur, e, h1, h2⟩ := hm.tokb t g ht
        refine ⟨f, cur, e, ?_, h2⟩
        simp only [Gh.weak]
        rw [if_neg]
        · exact h1
        · intro e1
          have := hb g e1
          rw [h1] at this; cases this
      · cases ht
    case tinj =>
      intro t t' g ht ht'
      simp only [Gh.weak] at ht ht'
      split at ht
      · split at ht'
        · exact hm.tinj t t' g ht ht'
        · cases ht'
      · cases ht
    case tnt =>
      intro t x ht
      simp only [Gh.weak] at ht ⊢
      split at ht
      · assumption
      · cases ht
    case fresh =>
      intro j hj
      simp only [Gh.weak]
      split
      · rfl
      · exact hm.fresh j hj
  · refine ⟨hle.os, hle.tape, hle.output, hle.size, fun j hj hk => ⟨?_, (hle.whole j hj hk).2⟩, fun j f c hk => ?_, fun k hk => ?_, Nat.le_trans hnt0 h.nt0, fun t ht => ?_⟩
    · simp only [Gh.weak]
      split
      · rfl
      · exact (hle.whole j hj hk).1
    · obtain ⟨⟨f', hf', h1⟩, h2⟩ := hle.part j f c hk
      refine ⟨⟨f', hf', ?_⟩, h2⟩
      simp only [Gh.weak]
      rw [if_neg]
      · exact h1
      · intro e
        have := hb j e
        rw [h1] at this; cases this
    · rw [← hle.bx k hk]
      simp only [Gh.weak]
      split
      · rfl
      · rename_i hp
        cases hg : G.bx k with
        | none => rfl
        | some y =>
          exfalso
          apply hp
          intro hnone
          rw [lb_out hk] at hnone
          have : S.box k = none := by rw [h.hb, lb_out hk]; exact hnone
          rw [hm.nobox k this] at hg
          cases hg
    · have hlt : t < S'.nt := Nat.lt_of_lt_of_le ht (Nat.le_trans hnt0 h.nt0)
      rcases hle.tk t ht with h1 | ⟨h1, h2⟩
      · exact .inl (by simp only [Gh.weak, hlt, ↓reduceIte]; exact h1)
      · refine .inr ⟨by simp only [Gh.weak, hlt, ↓reduceIte]; exact h1, fun g hg => ?_⟩
        have hgk : G.tk t = some (some g) := h1.trans hg
        obtain ⟨f, cur, e, h3, _⟩ := hm.tokb t g hgk
        simp only [Gh.weak]
        rw [if_neg]
        · exact h2 g hg
        · intro e1
          have := hb g e1
          rw [h3] at this; cases this

end Go.AM
