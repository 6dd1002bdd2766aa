/-
  The abstract machine, seventh part: the operations that look at slots alone.
-/
import Derived.Test.YtgonmjghdkoekaaAmOps5
namespace Go.AM
open Go
set_option linter.unusedSimpArgs false
set_option linter.unusedVariables false

variable {P : Program}

/-- A type's zero value, cell by cell. -/
def zeroT (P : Program) (T : TypeId) : Option (List Value) := match (P.info? T).bind (·.zero) with
  | some z => if z.cells.toList.all (·.oneCell') then some z.cells.toList else none
  | none => none

/-- A struct's fields: where each lies, and its size. -/
def structT (P : Program) (T : TypeId) : Option (List (Nat × Nat)) := match P.underlying T with
  | some (.struct fs) => if fs.toList.all (fun f => (P.info? f.type).isSome) then some (fs.toList.map fun f => (f.offset, ((P.info? f.type).map (·.size)).getD 0)) else none
  | _ => none

def fillA (pl : List (Nat × Nat)) (cells : List AV) : List (Nat × AV) → Option (List AV)
  | [] => some cells
  | (i, x) :: r => match pl[i]?, x.cells? with
    | some (off, n), some cs => if cs.length = n ∧ off + n ≤ cells.length then fillA pl (setCells cells off cs) r else none
    | _, _ => none

def BinOK (P : Program) (op : BinOp) (T : TypeId) (a b r : Value) : Prop := r.oneCell' = true ∧ ∀ x y w, Sem.run P (do eqGuard op T x y a b; binOp op T a b) w = .ok r w
def UnOK (P : Program) (op : UnOp) (a r : Value) : Prop := r.oneCell' = true ∧ ∀ w, Sem.run P (Op.unary op a) w = .ok r w
def ConvOK (P : Program) (s t : TypeId) (a r : Value) : Prop := r.oneCell' = true ∧ ∀ w, Sem.run P (convert s t a) w = .ok r w
def BuiltinOK (P : Program) (b : Builtin) (ts : Array TypeId) (t : TypeId) (vs : List Value) (r : Value) : Prop := r.oneCell' = true ∧ ∀ cs w, Sem.run P (builtin b ts t cs vs.toArray) w = .ok (.value r) w

def optIs (ρ : Operand → AV) (o : Option Operand) (dflt n : Nat) : Prop := match o with
  | none => n = dflt
  | some x => match ρ x with
    | .d (.raw (.int _ k)) => k = (n : Int)
    | _ => False

def rowsOf : List AV → Option (List (List D))
  | [] => some []
  | x :: r => match x.cells?, rowsOf r with
    | some cs, some rs => match toDs cs with
      | some ds => some (ds :: rs)
      | none => none
    | _, _ => none

def lenOf (P : Program) (T : TypeId) (x : AV) (v : AV) : Prop := match x with
  | .msl _ _ n _ => (elemT P T).isSome = true ∧ v = .d (.raw (.int .i64 n))
  | .d (.raw (.string s)) => strT P T = true ∧ v = .d (.raw (.int .i64 s.size))
  | .d (.sl _ es) => (elemT P T).isSome = true ∧ v = .d (.raw (.int .i64 es.length))
  | .osl _ es _ => (elemT P T).isSome = true ∧ v = .d (.raw (.int .i64 es.length))
  | _ => False

def idxOf (P : Program) (T : TypeId) (x : AV) (n : Int) (v : AV) : Prop := match rowT P T, x with
  | some (_, sz, _), .msl k off len sz' => 0 ≤ n ∧ n < len ∧ sz' = sz ∧ v = .ptr k (off + n.toNat) 0
  | some (_, sz, _), .d (.sl _ es) => 0 ≤ n ∧ ∃ e, es[n.toNat]? = some e ∧ e.length = sz ∧ v = .cptr e 0
  | some (_, sz, _), .osl _ es _ => 0 ≤ n ∧ ∃ e, es[n.toNat]? = some e ∧ e.length = sz ∧ v = .cptr e 0
  | none, .cptr cs off => match arrT P T with
    | some (len, E) => match szOf P E with
      | some sz => 0 ≤ n ∧ n < len ∧ v = .cptr cs (off + n.toNat * sz)
      | none => False
    | none => False
  | _, _ => False

def sliceOf (P : Program) (T : TypeId) (ρ : Operand → AV) (x : AV) (lo hi mx : Option Operand) (v : AV) : Prop := match x with
  | .d (.raw (.string s)) => strT P T = true ∧ mx = none ∧ ∃ l h, optIs ρ lo 0 l ∧ optIs ρ hi s.size h ∧ l ≤ h ∧ h ≤ s.size ∧ v = .d (.raw (.string (s.extract l h)))
  | x => match rowT P T, x.elems? with
    | some (_, sz, _), some (sz', es) => ∃ l h, (sz' = sz ∨ es = []) ∧ optIs ρ lo 0 l ∧ optIs ρ hi es.length h ∧ l ≤ h ∧ h ≤ es.length ∧
        (match mx with
          | none => v = .d (.sl sz ((es.take h).drop l))
          | some _ => hi.isSome = true ∧ optIs ρ mx 0 h ∧ v = .osl sz ((es.take h).drop l) .full)
    | _, _ => False

def EffN (P : Program) (base : Nat) (o : Oper) (ρ : Operand → AV) (v : AV) : Prop := match o.op with
  | .move x => v = ρ x
  | .assign x => v = ρ x
  | .pick c a b => match ρ c with
    | .d (.raw (.bool t)) => v = (match t with | true => ρ a | false => ρ b)
    | _ => False
  | .alloc _ => match o.dst with
    | some s => v = .ptr (base + s) 0 0
    | none => False
  | .build T parts => match structT P T, zeroT P T with
    | some pl, some zs => match fillA pl (zs.map ofVal1) (parts.toList.map fun p => (p.1, ρ p.2)) with
      | some cs => v = .agg cs
      | none => False
    | _, _ => False
  | .buildSlice T len parts => match rowT P T, rowsOf (parts.toList.map fun p => ρ p.2) with
    | some (_, sz, _), some rows => parts.toList.map (·.1) = List.range len ∧ (∀ r ∈ rows, r.length = sz) ∧ len * sz ≤ 16777216 ∧ v = .osl sz rows .full
    | _, _ => False
  | .nilCheck x => match ρ x with
    | .ptr k i off => v = .ptr k i off
    | .cptr cs off => v = .cptr cs off
    | .fn (.func f) caps => v = .fn (.func f) caps
    | _ => False
  | .binOp op T x y _ => match rawOf (ρ x), rawOf (ρ y) with
    | some a, some b => ∃ r, BinOK P op T a b r ∧ v = .d (.raw r)
    | _, _ => False
  | .unOp op _ x => match rawOf (ρ x) with
    | some a => ∃ r, UnOK P op a r ∧ v = .d (.raw r)
    | none => False
  | .convert s t x => match rawOf (ρ x) with
    | some a => ∃ r, ConvOK P s t a r ∧ v = .d (.raw r)
    | none => False
  | .makeFunc fn first caps => first.toList = [] ∧ v = .fn fn (caps.toList.map ρ)
  | .fieldAddr T x f => match structT P T with
    | some pl => match pl[f]?, ρ x with
      | some (off, n), .cptr cs o' => n ≠ 0 ∧ v = .cptr cs (o' + off)
      | some (off, n), .ptr k i o' => n ≠ 0 ∧ v = .ptr k i (o' + off)
      | _, _ => False
    | none => False
  | .field T x f => match fieldT P T f, ρ x with
    | some (ft, off), .agg cs => match aggT P ft, szOf P ft with
      | some ag, some n => loadA ag n cs off = some v
      | _, _ => False
    | _, _ => False
  | .indexAddr T x i => match ρ i with
    | .d (.raw (.int _ n)) => idxOf P T (ρ x) n v
    | _ => False
  | .index T x i => match ρ x, ρ i with
    | .d (.raw (.string s)), .d (.raw (.int _ n)) => strT P T = true ∧ 0 ≤ n ∧ ∃ b, s[n.toNat]? = some b ∧ v = .d (.raw (.int .u8 b.toNat))
    | _, _ => False
  | .extract t i => match ρ t with
    | .tup vs => vs[i]? = some v
    | _ => False
  | .slice T x lo hi mx => sliceOf P T ρ (ρ x) lo hi mx v
  | .call c => match c.callee, c.args.toList.map ρ, c.argTypes.toList with
    | .builtin .len, [x], [T] => lenOf P T x v
    | .builtin .append, _, _ => False
    | .builtin b, _, _ => match rawsOf (c.args.toList.map ρ) with
      | some vs => ∃ r, BuiltinOK P b c.argTypes o.type vs r ∧ v = .d (.raw r)
      | none => False
    | _, _, _ => False
  | _ => False

/-! ### Soundness -/
theorem run_asIntOf (k : IntKind) (n : Int) (w : World) : (asIntOf (.int k n)).run P w = .ok (k, n) w := rfl

theorem rowT_sz {T E sz by' : Nat} (h : rowT P T = some (E, sz, by')) : P.underlying T = some (.slice E) ∧ szOf P E = some sz ∧ 0 < sz := by
  obtain ⟨h1, i, z, hi, _, _, hs, _, h2, _⟩ := rowT_spec h
  exact ⟨h1, by simp [szOf, hi, hs], h2⟩

theorem elemT_spec {T E : Nat} (h : elemT P T = some E) : P.underlying T = some (.slice E) := by
  unfold elemT at h
  split at h
  · simp_all
  · cases h

theorem strT_spec {T : Nat} (h : strT P T = true) : P.underlying T = some .string := by
  unfold strT at h
  split at h
  · assumption
  · cases h

theorem lenOf_sound {T ty : Nat} {x v : AV} {xv : Value} {G : Gh} {w : World} (h : lenOf P T x v) (hx : RV G w x xv) : ∃ u, (Builtin.len_ #[T] ty #[xv]).run P w = .ok u w ∧ RV G w v u := by
  unfold lenOf at h
  split at h
  · rename_i k off n sz
    obtain ⟨h1, rfl⟩ := h
    obtain ⟨E, hE⟩ := Option.isSome_iff_exists.1 h1
    have hU := elemT_spec hE
    cases hx with
    | msl h1 h2 h3 => exact ⟨.int .i64 n, by simp [Builtin.len_, run_underlying hU, goInt], .raw rfl⟩
  · rename_i s
    obtain ⟨h1, rfl⟩ := h
    have hU := strT_spec h1
    cases hx with
    | d h => cases h; exact ⟨.int .i64 s.size, by simp [Builtin.len_, run_underlying hU, goInt], .raw rfl⟩
  · rename_i sz es
    obtain ⟨h1, rfl⟩ := h
    obtain ⟨E, hE⟩ := Option.isSome_iff_exists.1 h1
    have hU := elemT_spec hE
    cases hx with
    | d h => cases h; exact ⟨.int .i64 es.length, by simp [Builtin.len_, run_underlying hU, goInt], .raw rfl⟩
  · rename_i sz es o
    obtain ⟨h1, rfl⟩ := h
    obtain ⟨E, hE⟩ := Option.isSome_iff_exists.1 h1
    have hU := elemT_spec hE
    cases hx with
    | osl h _ => cases h; exact ⟨.int .i64 es.length, by simp [Builtin.len_, run_underlying hU, goInt], .raw rfl⟩
  · exact h.elim

theorem run_indexAt_slice' {T E sz : Nat} (hE : P.underlying T = some (.slice E)) (hs : szOf P E = some sz) (a : Addr) (len cap : Nat) (k : IntKind) (n : Int) (h0 : 0 ≤ n) (h1 : n < len) (w : World) :
    (Instr.indexAt T (.slice (some a) len cap) (.int k n)).run P w = .ok (.pointer (some (a.add (n.toNat * sz)))) w := by
  have h01 : 0 ≤ n ∧ n < (len : Int) := ⟨h0, h1⟩
  simp only [Instr.indexAt, Sem.run_bind, run_asIntOf, Result.andThen_ok, run_underlying hE, Sem.run_pure, h01, and_self, ↓reduceIte, run_sizeOf hs]

theorem run_indexAt_array' {T E sz L : Nat} (hE : P.underlying T = some (.array L E)) (hs : szOf P E = some sz) (a : Addr) (k : IntKind) (n : Int) (h0 : 0 ≤ n) (h1 : n < L) (w : World) :
    (Instr.indexAt T (.pointer (some a)) (.int k n)).run P w = .ok (.pointer (some (a.add (n.toNat * sz)))) w := by
  have h01 : 0 ≤ n ∧ n < (L : Int) := ⟨h0, h1⟩
  simp only [Instr.indexAt, Sem.run_bind, run_asIntOf, Result.andThen_ok, run_underlying hE, Sem.run_pure, h01, and_self, ↓reduceIte, run_sizeOf hs, Instr.sureAddr]

theorem idx_es {T E sz by' sz0 : Nat} (hrow : rowT P T = some (E, sz, by')) {es : List (List D)} {e : List D} {k : IntKind} {n : Int} {xv : Value} {G : Gh} {w : World} (hx : RVd w.cell? G.ps (.sl sz0 es) xv) (h0 : 0 ≤ n) (he : es[n.toNat]? = some e) (hl : e.length = sz) :
    ∃ u, (Instr.indexAt T xv (.int k n)).run P w = .ok u w ∧ RV G w (.cptr e 0) u := by
  obtain ⟨hE, hs, hp⟩ := rowT_sz hrow
  obtain ⟨hlt, rfl⟩ := List.getElem?_eq_some_iff.1 he
  cases hx with
  | sl u hcap hmax hsz hA hc hr =>
    rename_i A cap
    have hszz : sz0 = sz := (hsz _ (List.getElem_mem hlt)).symm.trans hl
    subst hszz
    obtain ⟨a, rfl⟩ := hA (by intro h; subst h; simp at hlt)
    refine ⟨_, run_indexAt_slice' hE hs a _ cap k n h0 (by omega) w, ?_⟩
    have : (a.add (n.toNat * sz0)) = (a.add (n.toNat * sz0)).add 0 := by simp [Addr.add]
    rw [this]
    refine .cptr _ (fun j => u n.toNat j) (fun j hj => ?_) (fun j hj => hr n.toNat j hlt hj)
    rw [add_add]
    exact hc a rfl n.toNat j hlt (by rw [← hl]; exact hj)

theorem idxOf_sound {T : Nat} {x v : AV} {k : IntKind} {n : Int} {xv : Value} {G : Gh} {w : World} (h : idxOf P T x n v) (hx : RV G w x xv) : ∃ u, (Instr.indexAt T xv (.int k n)).run P w = .ok u w ∧ RV G w v u := by
  unfold idxOf at h
  split at h
  · rename_i E sz by' key off len sz' hrow
    obtain ⟨h0, h1, rfl, rfl⟩ := h
    obtain ⟨hE, hs, hp⟩ := rowT_sz hrow
    cases hx with
    | msl hb hn hc =>
      rename_i b cap
      refine ⟨_, run_indexAt_slice' hE hs _ _ cap k n h0 h1 w, ?_⟩
      rw [add_none]
      have : off * sz' + n.toNat * sz' = (off + n.toNat) * sz' + 0 := by rw [Nat.add_mul]; omega
      rw [this]
      exact .ptr hb
  · rename_i E sz by' sz0 es hrow
    obtain ⟨h0, e, he, hl, rfl⟩ := h
    cases hx with
    | d hx => exact idx_es hrow hx h0 he hl
  · rename_i E sz by' sz0 es o hrow
    obtain ⟨h0, e, he, hl, rfl⟩ := h
    cases hx with
    | osl hx _ => exact idx_es hrow hx h0 he hl
  · split at h
    · rename_i cs off hrow L E harr
      split at h
      · rename_i sz hs
        obtain ⟨h0, h1, rfl⟩ := h
        have hE : P.underlying T = some (.array L E) := by
          unfold arrT at harr
          split at harr
          · simp_all
          · cases harr
        cases hx with
        | cptr a u hc hr =>
          refine ⟨_, run_indexAt_array' hE hs _ k n h0 h1 w, ?_⟩
          rw [add_add]
          exact .cptr a u hc hr
      · exact h.elim
    · exact h.elim
  · exact h.elim

theorem optIs_sound {ρ : Operand → AV} {ρv : Operand → Value} {G : Gh} {w : World} {o : Option Operand} {d n : Nat} (h : optIs ρ o d n) (hρ : ∀ x, o = some x → RV G w (ρ x) (ρv x)) :
    (o = none ∧ n = d) ∨ ∃ x k, o = some x ∧ ρv x = .int k (n : Int) := by
  unfold optIs at h
  split at h
  · exact .inl ⟨rfl, h⟩
  · rename_i x
    split at h
    · rename_i k m hx
      have hr := hρ x rfl
      rw [hx] at hr
      generalize hv : ρv x = v at hr
      cases hr with
      | d hd => cases hd; subst h; exact .inr ⟨x, k, rfl, hv⟩
    · exact h.elim

end Go.AM
