/-
  The abstract machine, second part: what each operation does to slots, boxes and tokens, and that the model's operation does the same.
-/
import Derived.Test.YtgonmjghdkoekaaAmBase
namespace Go.AM
open Go

def szOf (P : Program) (T : TypeId) : Option Nat := (P.info? T).map (·.size)
def bytesOf (P : Program) (T : TypeId) : Option Nat := (P.info? T).map (·.bytes)
def zeroOf (P : Program) (T : TypeId) : Option Value := (P.info? T).bind (·.zero)
def aggT (P : Program) (T : TypeId) : Option Bool := (P.underlying T).map fun | .struct _ => true | .array .. => true | _ => false
def elemT (P : Program) (T : TypeId) : Option TypeId := match P.underlying T with | some (.slice e) => some e | _ => none
def arrT (P : Program) (T : TypeId) : Option (Nat × TypeId) := match P.underlying T with | some (.array n e) => some (n, e) | _ => none
def fieldT (P : Program) (T : TypeId) (f : Nat) : Option (TypeId × Nat) := match P.underlying T with | some (.struct fs) => (fs[f]?).map fun x => (x.type, x.offset) | _ => none
def strT (P : Program) (T : TypeId) : Bool := match P.underlying T with | some .string => true | _ => false

def ofVal1 (v : Value) : AV := match v with
  | .slice none 0 0 => .osl 0 [] .full
  | .agg _ => .bot
  | .tuple _ => .bot
  | v => .d (.raw v)

def ofVal (v : Value) : AV := match v with
  | .agg cs => if cs.toList.all (·.oneCell') then .agg (cs.toList.map ofVal1) else .bot
  | v => ofVal1 v

/-- The cells of a value, where they are known. -/
def AV.cells? : AV → Option (List AV)
  | .bot => none
  | .tup _ => none
  | .agg cs => some cs
  | v => some [v]

def AV.toD : AV → Option D
  | .d x => some x
  | .osl sz es _ => some (.sl sz es)
  | _ => none

def toDs : List AV → Option (List D)
  | [] => some []
  | x :: r => match x.toD, toDs r with | some d, some ds => some (d :: ds) | _, _ => none

def rawsOf : List AV → Option (List Value)
  | [] => some []
  | .d (.raw v) :: r => (rawsOf r).map (v :: ·)
  | _ :: _ => none

/-- A value without slices. -/
def rawOf : AV → Option Value
  | .d (.raw v) => some v
  | .agg cs => (rawsOf cs).map fun l => .agg l.toArray
  | _ => none

def setCells {α : Type} (r : List α) (off : Nat) : List α → List α
  | [] => r
  | c :: cs => setCells (r.set off c) (off + 1) cs

def upd {α : Type} (f : Nat → α) (k : Nat) (v : α) : Nat → α := fun j => if j = k then v else f j

theorem upd_same {α : Type} (f : Nat → α) (k : Nat) (v : α) : upd f k v k = v := by simp [upd]
theorem upd_other {α : Type} (f : Nat → α) {k j : Nat} (v : α) (h : j ≠ k) : upd f k v j = f j := by simp [upd, h]

/-! ### What a slice holds, if it never changes -/
def AV.elems? : AV → Option (Nat × List (List D))
  | .d (.sl sz es) => some (sz, es)
  | .osl sz es _ => some (sz, es)
  | _ => none

theorem RV.elems {G : Gh} {w : World} {x : AV} {v : Value} {sz : Nat} {es : List (List D)} (h : RV G w x v) (he : x.elems? = some (sz, es)) : RVd w.cell? G.ps (.sl sz es) v := by
  cases h with
  | d h1 =>
    rename_i x
    cases x with
    | raw v => simp [AV.elems?] at he
    | sl s e => simp [AV.elems?] at he; obtain ⟨rfl, rfl⟩ := he; exact h1
  | osl h1 h2 => simp [AV.elems?] at he; obtain ⟨rfl, rfl⟩ := he; exact h1
  | bot => simp [AV.elems?] at he
  | ptr h => simp [AV.elems?] at he
  | cptr a u hc hr => simp [AV.elems?] at he
  | msl h1 h2 h3 => simp [AV.elems?] at he
  | fn hl h => simp [AV.elems?] at he
  | agg hl h h1 => simp [AV.elems?] at he
  | tup hl h => simp [AV.elems?] at he

theorem RV.of_ofVal1 {G : Gh} {w : World} (v : Value) : RV G w (ofVal1 v) v := by
  unfold ofVal1
  split
  · exact .osl (.sl (fun _ _ => default) (Nat.zero_le _) (by decide) (by simp) (by simp) (by simp) (by simp)) ⟨none, rfl⟩
  · exact .bot
  · exact .bot
  · rename_i h1 h2 h3
    refine .d (.raw ?_)
    cases v <;> simp_all [Value.oneCell']

theorem RV.of_ofVal {G : Gh} {w : World} (v : Value) : RV G w (ofVal v) v := by
  unfold ofVal
  split
  · rename_i cs
    split
    · rename_i h
      have := RV.agg (G := G) (w := w) (cs := cs.toList.map ofVal1) (vs := cs.toList) (by simp) (fun i h1 h2 => by simp only [List.getElem_map]; exact RV.of_ofVal1 _) (fun u hu => List.all_eq_true.1 h u hu)
      simpa using this
    · exact .bot
  · exact RV.of_ofVal1 v

theorem RV.raw {G : Gh} {w : World} {v : Value} (h : v.oneCell' = true) : RV G w (.d (.raw v)) v := .d (.raw h)

theorem rawsOf_spec {G : Gh} {w : World} : ∀ {cs : List AV} {l : List Value} {vs : List Value}, rawsOf cs = some l → RVs G w cs vs → vs = l
  | [], l, vs, h, r => by
    simp [rawsOf] at h
    subst h
    exact List.eq_nil_of_length_eq_zero (by simpa using r.1.symm)
  | c :: cs, l, vs, h, r => by
    cases vs with
    | nil => simp [RVs] at r
    | cons v vs =>
      have r0 : RV G w c v := r.2 0 (by simp) (by simp)
      have r1 : RVs G w cs vs := ⟨by simpa using r.1, fun i h1 h2 => r.2 (i + 1) (by simpa using h1) (by simpa using h2)⟩
      cases c with
      | d x =>
        cases x with
        | raw u =>
          simp [rawsOf] at h
          obtain ⟨l', hl, rfl⟩ := h
          have := rawsOf_spec hl r1
          cases r0 with
          | d h1 => cases h1; rw [this]
        | sl _ _ => simp [rawsOf] at h
      | _ => simp [rawsOf] at h

theorem rawOf_spec {G : Gh} {w : World} {x : AV} {u v : Value} (h : rawOf x = some u) (r : RV G w x v) : v = u := by
  cases x with
  | d x =>
    cases x with
    | raw y => simp [rawOf] at h; subst h; cases r with | d h1 => cases h1; rfl
    | sl _ _ => simp [rawOf] at h
  | agg cs =>
    simp [rawOf] at h
    obtain ⟨l, hl, rfl⟩ := h
    cases r with
    | agg hl' h1 h2 => rw [rawsOf_spec hl ⟨hl', h1⟩]
  | _ => simp [rawOf] at h

theorem RV.cells {G : Gh} {w : World} {x : AV} {v : Value} {cs : List AV} (h : RV G w x v) (hc : x.cells? = some cs) : RVs G w cs v.cells.toList ∧ ∀ u ∈ v.cells.toList, u.oneCell' = true := by
  cases h with
  | bot => simp [AV.cells?] at hc
  | tup hl h => simp [AV.cells?] at hc
  | agg hl h h1 => simp [AV.cells?] at hc; subst hc; exact ⟨⟨hl, h⟩, h1⟩
  | d h1 =>
    simp [AV.cells?] at hc
    subst hc
    have ho : v.oneCell' = true := by cases h1 with | raw h => exact h | sl => rfl
    have hv : v.cells = #[v] := by cases v <;> simp_all [Value.cells, Value.oneCell']
    rw [hv]
    exact ⟨RVs.cons (.d h1) RVs.nil, by simp [ho]⟩
  | osl h1 h2 =>
    simp [AV.cells?] at hc
    subst hc
    have ho : v.oneCell' = true := by cases h1 with | sl => rfl
    have hv : v.cells = #[v] := by cases v <;> simp_all [Value.cells, Value.oneCell']
    rw [hv]
    exact ⟨RVs.cons (.osl h1 h2) RVs.nil, by simp [ho]⟩
  | ptr h1 => simp [AV.cells?] at hc; subst hc; exact ⟨RVs.cons (.ptr h1) RVs.nil, by simp [Value.cells, Value.oneCell']⟩
  | cptr a u h1 h2 => simp [AV.cells?] at hc; subst hc; exact ⟨RVs.cons (.cptr a u h1 h2) RVs.nil, by simp [Value.cells, Value.oneCell']⟩
  | msl h1 h2 h3 => simp [AV.cells?] at hc; subst hc; exact ⟨RVs.cons (.msl h1 h2 h3) RVs.nil, by simp [Value.cells, Value.oneCell']⟩
  | fn hl h => simp [AV.cells?] at hc; subst hc; exact ⟨RVs.cons (.fn hl h) RVs.nil, by simp [Value.cells, Value.oneCell']⟩

theorem toD_spec {G : Gh} {w : World} {x : AV} {v : Value} {y : D} (h : RV G w x v) (hd : x.toD = some y) : RVd w.cell? G.ps y v := by
  cases h with
  | d h1 => simp [AV.toD] at hd; subst hd; exact h1
  | osl h1 h2 => simp [AV.toD] at hd; subst hd; exact h1
  | _ => simp [AV.toD] at hd

theorem toDs_spec {G : Gh} {w : World} : ∀ {xs : List AV} {vs : List Value} {ds : List D}, RVs G w xs vs → toDs xs = some ds →
    ds.length = vs.length ∧ ∀ i (h1 : i < ds.length) (h2 : i < vs.length), RVd w.cell? G.ps ds[i] vs[i]
  | [], vs, ds, r, h => by
    simp [toDs] at h
    subst h
    exact ⟨r.1, fun i h1 => by simp at h1⟩
  | x :: xs, vs, ds, r, h => by
    cases vs with
    | nil => simp [RVs] at r
    | cons v vs =>
      simp only [toDs] at h
      split at h
      · rename_i d ds' h1 h2
        simp at h
        subst h
        have r0 : RV G w x v := r.2 0 (by simp) (by simp)
        have r1 : RVs G w xs vs := ⟨by simpa using r.1, fun i h1 h2 => r.2 (i + 1) (by simpa using h1) (by simpa using h2)⟩
        obtain ⟨k1, k2⟩ := toDs_spec r1 h2
        refine ⟨by simp [k1], fun i g1 g2 => ?_⟩
        cases i with
        | zero => exact toD_spec r0 h1
        | succ i => exact k2 i (by simpa using g1) (by simpa using g2)
      · cases h

/-! ### The memory: a new block that never changes; a new box; a store into a box -/
theorem Le.alloc {G : Gh} {w : World} (hf : ∀ b, w.heap.size ≤ b → G.kind b = .whole) (o : Obj) : Le G w G (w.alloc o) where
  os := rfl
  tape := rfl
  output := rfl
  size := by simp
  whole b hb hk := ⟨hk, Go.RowKit.Below.heap_alloc w o b hb⟩
  part b f c hk := ⟨⟨f, Nat.le_refl _, hk⟩, fun a ha ho => World.cell?_alloc_old w o a (fun h => by
    have := hf b (by omega)
    rw [hk] at this; cases this)⟩
  bx _ _ h := h
  nt := Nat.le_refl _
  tk _ _ := .inr ⟨rfl, fun _ _ => rfl⟩

theorem heap_lt {w : World} {b : Nat} {o : Obj} (h : w.heap[b]? = some o) : b < w.heap.size := (Array.getElem?_eq_some_iff.1 h).1

theorem RelM.alloc {G : Gh} {m : AMem} {w : World} (h : RelM G m w) (o : Obj) : RelM G m (w.alloc o) where
  box k rows b sz hk hb := by
    obtain ⟨h1, cs, e, h2, h3, h4, h5⟩ := h.box k rows b sz hk hb
    exact ⟨h1, cs, e, (Go.RowKit.Below.heap_alloc w o b (heap_lt h2)).trans h2, h3, h4.mono (Le.alloc h.fresh o), h5⟩
  nobox := h.nobox
  inj := h.inj
  nb := h.nb
  nt := h.nt
  toks := h.toks
  tokb t g ht := by
    obtain ⟨f, cur, e, h1, h2⟩ := h.tokb t g ht
    exact ⟨f, cur, e, h1, (Go.RowKit.Below.heap_alloc w o g (heap_lt h2)).trans h2⟩
  tinj := h.tinj
  tnt := h.tnt
  fresh b hb := h.fresh b (by simp at hb; omega)

theorem Le.drew {G : Gh} {w : World} : Le G w G w.drew :=
  ⟨rfl, rfl, rfl, Nat.le_refl _, fun _ _ h => ⟨h, rfl⟩, fun _ f _ h => ⟨⟨f, Nat.le_refl _, h⟩, fun _ _ _ => rfl⟩, fun _ _ h => h, Nat.le_refl _, fun _ _ => .inr ⟨rfl, fun _ _ => rfl⟩⟩

theorem RelM.drew {G : Gh} {m : AMem} {w : World} (h : RelM G m w) : RelM G m w.drew where
  box k rows b sz hk hb := by
    obtain ⟨h1, cs, e, h2, h3, h4, h5⟩ := h.box k rows b sz hk hb
    exact ⟨h1, cs, e, h2, h3, h4.mono Le.drew, h5⟩
  nobox := h.nobox
  inj := h.inj
  nb := h.nb
  nt := h.nt
  toks := h.toks
  tokb := h.tokb
  tinj := h.tinj
  tnt := h.tnt
  fresh := h.fresh

def Gh.mkbox (G : Gh) (k b sz : Nat) : Gh := { G with bx := upd G.bx k (some (b, sz)), kind := upd G.kind b .box }

theorem Le.mkbox {G : Gh} {w : World} (hf : ∀ b, w.heap.size ≤ b → G.kind b = .whole) (hb : ∀ t g, G.tk t = some (some g) → g < w.heap.size) {k : Nat} (hk : G.bx k = none) (sz : Nat) (o : Obj) : Le G w (G.mkbox k w.heap.size sz) (w.alloc o) where
  os := rfl
  tape := rfl
  output := rfl
  size := by simp
  whole b hb hk := ⟨by simp only [Gh.mkbox]; rw [upd_other _ _ (by omega)]; exact hk, Go.RowKit.Below.heap_alloc w o b hb⟩
  part b f c hk := by
    have hne : b ≠ w.heap.size := fun h => by
      have := hf b (by omega)
      rw [hk] at this; cases this
    exact ⟨⟨f, Nat.le_refl _, by simp only [Gh.mkbox]; rw [upd_other _ _ hne]; exact hk⟩, fun a ha ho => World.cell?_alloc_old w o a (by omega)⟩
  bx j x hj := by
    simp only [Gh.mkbox]
    rw [upd_other _ _ (fun e => by subst e; rw [hk] at hj; cases hj)]
    exact hj
  nt := Nat.le_refl _
  tk t ht := .inr ⟨rfl, fun g hg => by
    simp only [Gh.mkbox]
    rw [upd_other _ _ (by have := hb t g hg; omega)]⟩

theorem RelM.tlt {G : Gh} {m : AMem} {w : World} (h : RelM G m w) (t g : Nat) (hg : G.tk t = some (some g)) : g < w.heap.size := by
  obtain ⟨_, _, _, _, h2⟩ := h.tokb t g hg
  exact heap_lt h2

theorem RelM.blt {G : Gh} {m : AMem} {w : World} (h : RelM G m w) {k b sz : Nat} (hb : G.bx k = some (b, sz)) : b < w.heap.size ∧ G.kind b = .box := by
  cases hm : m.box k with
  | none => rw [h.nobox k hm] at hb; cases hb
  | some rows =>
    obtain ⟨h1, _, _, h2, _⟩ := h.box k rows b sz hm hb
    exact ⟨heap_lt h2, h1⟩

theorem RelM.mkbox {G : Gh} {m : AMem} {w : World} (h : RelM G m w) {k : Nat} (hk : G.bx k = none) (hnb : k < m.nb) {sz : Nat} {rows : List (List AV)} (hs : ∀ r ∈ rows, r.length = sz)
    {cs : Array Value} (e : TypeId) (hR : RVs G w rows.flatten cs.toList) (h1 : ∀ v ∈ cs.toList, v.oneCell' = true) :
    RelM (G.mkbox k w.heap.size sz) { m with box := upd m.box k (some rows) } (w.alloc (.cells cs e)) := by
  have hle := Le.mkbox (k := k) h.fresh h.tlt hk sz (.cells cs e)
  constructor
  case box =>
    intro j rs b s hj hb
    by_cases e1 : j = k
    · subst e1
      simp only [upd_same, Gh.mkbox] at hj hb
      simp only [Option.some.injEq, Prod.mk.injEq] at hj hb
      obtain ⟨rfl, rfl⟩ := hb
      subst hj
      exact ⟨by simp [Gh.mkbox, upd_same], cs, e, heap_alloc_new w _, hs, hR.mono hle, h1⟩
    · simp only [Gh.mkbox] at hj hb
      rw [upd_other _ _ e1] at hj hb
      obtain ⟨g1, cs', e', g2, g3, g4, g5⟩ := h.box j rs b s hj hb
      refine ⟨?_, cs', e', (Go.RowKit.Below.heap_alloc w _ b (heap_lt g2)).trans g2, g3, g4.mono hle, g5⟩
      simp only [Gh.mkbox]
      rw [upd_other _ _ (by have := heap_lt g2; omega)]
      exact g1
  case nobox =>
    intro j hj
    by_cases e1 : j = k
    · subst e1; simp [upd_same] at hj
    · simp only [Gh.mkbox] at hj ⊢
      rw [upd_other _ _ e1] at hj ⊢
      exact h.nobox j hj
  case inj =>
    intro j j' b s s' hj hj'
    simp only [Gh.mkbox] at hj hj'
    by_cases e1 : j = k <;> by_cases e2 : j' = k
    · exact e1.trans e2.symm
    · subst e1
      rw [upd_same] at hj; rw [upd_other _ _ e2] at hj'
      simp only [Option.some.injEq, Prod.mk.injEq] at hj
      have := (h.blt hj').1
      omega
    · subst e2
      rw [upd_same] at hj'; rw [upd_other _ _ e1] at hj
      simp only [Option.some.injEq, Prod.mk.injEq] at hj'
      have := (h.blt hj).1
      omega
    · rw [upd_other _ _ e1] at hj; rw [upd_other _ _ e2] at hj'
      exact h.inj j j' b s s' hj hj'
  case nb =>
    intro j hj
    simp only at hj ⊢
    rw [upd_other _ _ (by omega)]
    exact h.nb j hj
  case nt => exact h.nt
  case toks => exact h.toks
  case tokb =>
    intro t g ht
    obtain ⟨f, cur, e', g1, g2⟩ := h.tokb t g ht
    refine ⟨f, cur, e', ?_, (Go.RowKit.Below.heap_alloc w _ g (heap_lt g2)).trans g2⟩
    simp only [Gh.mkbox]
    rw [upd_other _ _ (by have := heap_lt g2; omega)]
    exact g1
  case tinj => exact h.tinj
  case tnt => exact h.tnt
  case fresh =>
    intro b hb
    simp at hb
    simp only [Gh.mkbox]
    rw [upd_other _ _ (by omega)]
    exact h.fresh b (by omega)

/-- Where a box's own cells are written, and nothing else, all readings stay. -/
theorem Le.setRow {G : Gh} {w : World} {b : Nat} (hk : G.kind b = .box) (cs : Array Value) : Le G w G (w.setRow b cs) where
  os := rfl
  tape := rfl
  output := rfl
  size := by simp [World.setRow]
  whole j hj h := ⟨h, setRow_other w b j cs (fun e => by subst e; rw [hk] at h; cases h)⟩
  part j f c h := ⟨⟨f, Nat.le_refl _, h⟩, fun a ha _ => cell_setRow_other w b cs a (fun e => by subst ha; subst e; rw [hk] at h; cases h)⟩
  bx _ _ h := h
  nt := Nat.le_refl _
  tk _ _ := .inr ⟨rfl, fun _ _ => rfl⟩

theorem RelM.setRow {G : Gh} {m : AMem} {w : World} (h : RelM G m w) {k b sz : Nat} (hb : G.bx k = some (b, sz)) {rows : List (List AV)} (hs : ∀ r ∈ rows, r.length = sz)
    {cs cs0 : Array Value} {e : TypeId} (h0 : w.heap[b]? = some (.cells cs0 e (0, 0))) (hR : RVs G w rows.flatten cs.toList) (h1 : ∀ v ∈ cs.toList, v.oneCell' = true) :
    RelM G { m with box := upd m.box k (some rows) } (w.setRow b cs) := by
  have hk := (h.blt hb).2
  have hle := Le.setRow (w := w) hk cs
  constructor
  case box =>
    intro j rs b' s hj hb'
    by_cases e1 : j = k
    · subst e1
      rw [hb] at hb'
      simp only [Option.some.injEq, Prod.mk.injEq] at hb'
      obtain ⟨rfl, rfl⟩ := hb'
      simp only [upd_same, Option.some.injEq] at hj
      subst hj
      exact ⟨hk, cs, e, setRow_heap w b cs0 cs e (0, 0) h0, hs, hR.mono hle, h1⟩
    · simp only at hj
      rw [upd_other _ _ e1] at hj
      obtain ⟨g1, cs', e', g2, g3, g4, g5⟩ := h.box j rs b' s hj hb'
      have hne : b' ≠ b := fun e2 => by subst e2; exact e1 (h.inj j k b' s sz hb' hb)
      exact ⟨g1, cs', e', (setRow_other w b b' cs hne).trans g2, g3, g4.mono hle, g5⟩
  case nobox =>
    intro j hj
    by_cases e1 : j = k
    · subst e1; simp [upd_same] at hj
    · simp only at hj
      rw [upd_other _ _ e1] at hj
      exact h.nobox j hj
  case inj => exact h.inj
  case nb =>
    intro j hj
    simp only at hj ⊢
    have hne : j ≠ k := fun e1 => by
      subst e1
      have := h.nobox j (h.nb j hj)
      rw [hb] at this; cases this
    rw [upd_other _ _ hne]
    exact h.nb j hj
  case nt => exact h.nt
  case toks => exact h.toks
  case tokb =>
    intro t g ht
    obtain ⟨f, cur, e', g1, g2⟩ := h.tokb t g ht
    exact ⟨f, cur, e', g1, (setRow_other w b g cs (fun e2 => by subst e2; rw [hk] at g1; cases g1)).trans g2⟩
  case tinj => exact h.tinj
  case tnt => exact h.tnt
  case fresh =>
    intro j hj
    exact h.fresh j (by simpa [World.setRow] using hj)

end Go.AM
