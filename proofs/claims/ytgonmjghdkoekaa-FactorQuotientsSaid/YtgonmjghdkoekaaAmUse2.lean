/-
  The abstract machine, twentieth part: rows of typed data in boxes, freezing, and the ends of functions.
-/
import Derived.Test.YtgonmjghdkoekaaAmUse
namespace Go.AM
open Go
set_option linter.unusedSimpArgs false
set_option linter.unusedVariables false

variable {P : Program}

/-! ### Rows, one by one -/
def RowTo (p q : Nat → Prop) (fz : Option (Nat × Nat × List (List D))) (r r' : List AV) : Prop :=
  r.length = r'.length ∧ ∀ j (g1 : j < r.length) (g2 : j < r'.length), To p q fz r[j] r'[j]

section
variable {p q : Nat → Prop} {fz : Option (Nat × Nat × List (List D))}
@[simp] theorem rowTo_nil : RowTo p q fz [] [] := ⟨rfl, fun j h => by simp at h⟩
@[simp] theorem rowTo_cons {x y : AV} {xs ys : List AV} : RowTo p q fz (x :: xs) (y :: ys) ↔ To p q fz x y ∧ RowTo p q fz xs ys := by
  constructor
  · rintro ⟨h1, h2⟩
    refine ⟨h2 0 (by simp) (by simp), by simpa using h1, fun j g1 g2 => ?_⟩
    exact h2 (j + 1) (by simpa using g1) (by simpa using g2)
  · rintro ⟨h1, h2, h3⟩
    refine ⟨by simp [h2], fun j g1 g2 => ?_⟩
    cases j with
    | zero => exact h1
    | succ j => exact h3 j (by simpa using g1) (by simpa using g2)
@[simp] theorem rowsTo_nil : RowsTo p q fz [] [] := ⟨rfl, fun j h => by simp at h⟩
@[simp] theorem rowsTo_cons {x y : List AV} {xs ys : List (List AV)} : RowsTo p q fz (x :: xs) (y :: ys) ↔ RowTo p q fz x y ∧ RowsTo p q fz xs ys := by
  constructor
  · rintro ⟨h1, h2⟩
    refine ⟨h2 0 (by simp) (by simp), by simpa using h1, fun j g1 g2 => ?_⟩
    exact h2 (j + 1) (by simpa using g1) (by simpa using g2)
  · rintro ⟨h1, h2, h3⟩
    refine ⟨by simp [h2], fun j g1 g2 => ?_⟩
    cases j with
    | zero => exact h1
    | succ j => exact h3 j (by simpa using g1) (by simpa using g2)
theorem rowsTo_same {rows : List (List AV)} (h : ∀ r ∈ rows, ∀ x ∈ r, OkIn p q x) : RowsTo p q fz rows rows :=
  ⟨rfl, fun i h1 h2 => ⟨rfl, fun j g1 g2 => .same (h _ (List.getElem_mem _) _ (List.getElem_mem _))⟩⟩
end

/-! ### Rows of numbers, and of data in general -/
def rowsD (es : List (List D)) : List (List AV) := es.map fun e => e.map AV.d

@[simp] theorem rowsD_length (es : List (List D)) : (rowsD es).length = es.length := by simp [rowsD]
@[simp] theorem rowsD_get {es : List (List D)} {i : Nat} (h : i < es.length) : (rowsD es)[i]? = some ((es[i]).map AV.d) := by simp [rowsD, h]
theorem rowsD_set (es : List (List D)) (i : Nat) (e : List D) : (rowsD es).set i (e.map AV.d) = rowsD (es.set i e) := by simp [rowsD, List.map_set]
@[simp] theorem rowsTo_D {p q : Nat → Prop} {fz : Option (Nat × Nat × List (List D))} (es : List (List D)) : RowsTo p q fz (rowsD es) (rowsD es) := by
  refine rowsTo_same fun r hr x hx => ?_
  obtain ⟨e, _, rfl⟩ := List.mem_map.1 hr
  obtain ⟨d, _, rfl⟩ := List.mem_map.1 hx
  exact .d

abbrev rI (xs : List Int) : List (List D) := xs.map fun n => [D.raw (.int .i64 n)]
abbrev rE (es : List E) : List (List D) := es.map E.cells

def rowsI (xs : List Int) : List (List AV) := xs.map fun n => [AV.d (.raw (.int .i64 n))]
def rowsE (xs : List E) : List (List AV) := xs.map fun e => [AV.d (.raw (.int .i64 e.ty)), AV.d (.raw (.int .i64 e.fr)), AV.d (.raw (.int .i64 e.to))]
theorem rowsI_eq (xs : List Int) : rowsI xs = rowsD (rI xs) := by simp [rowsI, rowsD, rI]
theorem rowsE_eq (xs : List E) : rowsE xs = rowsD (rE xs) := by simp [rowsE, rowsD, rE, E.cells]
@[simp] theorem rep_rI (n : Nat) : List.replicate n [AV.d (.raw (.int .i64 0))] = rowsI (List.replicate n 0) := by simp [rowsI]
@[simp] theorem rep_rE (n : Nat) : List.replicate n [AV.d (.raw (.int .i64 0)), AV.d (.raw (.int .i64 0)), AV.d (.raw (.int .i64 0))] = rowsE (List.replicate n ⟨0, 0, 0⟩) := by simp [rowsE]
@[simp] theorem set_rI (xs : List Int) (i : Nat) (v : Int) : (rowsI xs).set i [AV.d (.raw (.int .i64 v))] = rowsI (xs.set i v) := by simp [rowsI, List.map_set]
@[simp] theorem set_rE (xs : List E) (i : Nat) (a b c : Int) : (rowsE xs).set i [AV.d (.raw (.int .i64 a)), AV.d (.raw (.int .i64 b)), AV.d (.raw (.int .i64 c))] = rowsE (xs.set i ⟨a, b, c⟩) := by simp [rowsE, List.map_set]
@[simp] theorem rowsI_length (xs : List Int) : (rowsI xs).length = xs.length := by simp [rowsI]
@[simp] theorem rowsE_length (xs : List E) : (rowsE xs).length = xs.length := by simp [rowsE]
@[simp high] theorem rowsI_get {xs : List Int} {i : Nat} (h : i < xs.length) : (rowsI xs)[i]? = some [AV.d (.raw (.int .i64 xs[i]))] := by simp [rowsI, h]
@[simp high] theorem rowsE_get {xs : List E} {i : Nat} (h : i < xs.length) : (rowsE xs)[i]? = some [AV.d (.raw (.int .i64 xs[i].ty)), AV.d (.raw (.int .i64 xs[i].fr)), AV.d (.raw (.int .i64 xs[i].to))] := by simp [rowsE, h]
@[simp] theorem rowsTo_I {p q : Nat → Prop} {fz : Option (Nat × Nat × List (List D))} (xs : List Int) : RowsTo p q fz (rowsI xs) (rowsI xs) := by rw [rowsI_eq]; simp
@[simp] theorem rowsTo_E {p q : Nat → Prop} {fz : Option (Nat × Nat × List (List D))} (xs : List E) : RowsTo p q fz (rowsE xs) (rowsE xs) := by rw [rowsE_eq]; simp

theorem toDs_map : ∀ (e : List D), toDs (e.map AV.d) = some e
  | [] => rfl
  | d :: e => by simp [toDs, AV.toD, toDs_map e]

/-- A box of data becomes data. -/
theorem Weaks.frz {cx : Cx} {nt0 nt : Nat} {l l' : List (Nat × AV)} {out : Nat → Option (List (List AV))} {loc loc' : List (Nat × List (List AV))} {tok : Nat → Bool} (s sz : Nat) (es : List (List D)) (hnt : nt0 ≤ nt) (ho : out = cx.B0)
    (hs : lk loc s = some (rowsD es)) (hs' : lk loc' s = none) (hsz : ∀ e ∈ es, e.length = sz)
    (hl : ToL (fun k => lb cx.base out loc' k ≠ none) (fun _ => True) (some (cx.base + s, sz, es)) l l') (hb : BoxL (fun k => lb cx.base out loc' k ≠ none) (fun _ => True) (some (cx.base + s, sz, es)) loc loc') :
    Weaks cx nt0 ⟨tl l, lb cx.base out loc, tok, nt⟩ ⟨tl l', lb cx.base out loc', tok, nt⟩ := by
  refine ⟨out, loc, loc', some (s, sz, es), rfl, rfl, Nat.le_refl _, hnt, fun t h => ⟨h, .inl rfl⟩, ?_, ?_, ?_, ?_⟩
  · simp only [true_or, Option.map_some]; exact hl.all
  · simp only [true_or, Option.map_some]; exact hb.all
  · rintro s' sz' es' h
    cases h
    refine ⟨hs', rowsD es, hs, by simp, ?_, ?_⟩
    · intro r hr
      obtain ⟨e, he, rfl⟩ := List.mem_map.1 hr
      simpa using hsz e he
    · intro i h1 h2
      have : (rowsD es)[i] = (es[i]).map AV.d := by simp [rowsD]
      rw [this]
      exact toDs_map _
  · intro k rows _ h
    exact .inl (by rw [← ho]; exact h)

@[simp] theorem to_frz {p q : Nat → Prop} {k n sz : Nat} {es : List (List D)} (h : n = es.length) : To p q (some (k, sz, es)) (.msl k 0 n sz) (.d (.sl sz es)) := by
  subst h
  exact .frz rfl

/-- The end of a function in general. -/
theorem Fin.gen {cx : Cx} {nt0 nt nt' : Nat} {rs : List ResultVar} {l : List (Nat × AV)} {out : Nat → Option (List (List AV))} {loc : List (Nat × List (List AV))} {tok tok' : Nat → Bool} {vs : List AV} {av : AV}
    (hres : resAs P ⟨tl l, lb cx.base out loc, tok, nt⟩ rs = some vs) (hbox : lb cx.base out [] = out) (h0 : nt0 ≤ nt') (hnt : nt' ≤ nt) (htok : ∀ t, tok' t = true → tok t = true ∧ (nt' = nt ∨ t < nt'))
    (ho : ∀ k rows, k < cx.base → out k = some rows → cx.B0 k = some rows ∨ ∀ r ∈ rows, ∀ x ∈ r, OkIn (fun k => lb cx.base out [] k ≠ none) (fun t => nt' = nt ∨ t < nt') x)
    (hto : To (fun k => lb cx.base out [] k ≠ none) (fun t => nt' = nt ∨ t < nt') none (packA vs) av) : Fin P cx nt0 rs (fun v' m' => v' = av ∧ m' = ⟨out, cx.base, tok', nt'⟩) ⟨tl l, lb cx.base out loc, tok, nt⟩ :=
  ⟨vs, out, loc, none, av, ⟨out, cx.base, tok', nt'⟩, hres, ⟨rfl, rfl, hnt, h0, htok, fun _ => .bot, fun s rows' h => by simp [lk] at h, (fun _ _ _ h => by cases h),
    ho⟩, hbox.symm, rfl, by simpa using hto, rfl, rfl⟩

/-- The end of a function that hands out what may be appended to. -/
theorem Fin.own {cx : Cx} {nt0 nt : Nat} {rs : List ResultVar} {l : List (Nat × AV)} {out : Nat → Option (List (List AV))} {loc : List (Nat × List (List AV))} {tok : Nat → Bool} {vs : List AV} {av : AV}
    (hres : resAs P ⟨tl l, lb cx.base out loc, tok, nt⟩ rs = some vs) (hbox : lb cx.base out [] = out) (ho : out = cx.B0) (hnt : nt0 ≤ nt)
    (hto : To (fun k => lb cx.base out [] k ≠ none) (fun _ => True) none (packA vs) av) : Fin P cx nt0 rs (fun v' m' => v' = av ∧ m' = ⟨out, cx.base, tok, nt⟩) ⟨tl l, lb cx.base out loc, tok, nt⟩ :=
  Fin.gen hres hbox hnt (Nat.le_refl _) (fun t h => ⟨h, .inl rfl⟩) (fun k rows _ h => .inl (by rw [← ho]; exact h)) (by simpa using hto)

/-- Boxes that are kept. -/
def Ext (box box' : Nat → Option (List (List AV))) : Prop := ∀ k r, box k = some r → box' k = some r
theorem Ext.refl (box : Nat → Option (List (List AV))) : Ext box box := fun _ _ h => h
theorem Ext.lb {box box' : Nat → Option (List (List AV))} {nb : Nat} (h : Ext box box') (hb : lb nb box' [] = box') (loc : List (Nat × List (List AV))) : Ext box (AM.lb nb box' loc) := fun k r hk => by
  have h1 := h k r hk
  rw [lb_out (key_lt hb h1)]
  exact h1

theorem OkIn.mono {p p' q q' : Nat → Prop} (hp : ∀ k, p k → p' k) (hq : ∀ k, q k → q' k) {x : AV} (h : OkIn p q x) : OkIn p' q' x := by
  induction h with
  | bot => exact .bot
  | d => exact .d
  | osl h => exact .osl fun t e => hq _ (h t e)
  | cptr => exact .cptr
  | ptr h => exact .ptr (hp _ h)
  | msl h => exact .msl (hp _ h)
  | fn h ih => exact .fn ih
  | agg h ih => exact .agg ih
  | tup h ih => exact .tup ih

theorem okFn {box : Nat → Option (List (List AV))} {nb : Nat} {caps : List AV} (h : ∀ c ∈ caps, OkIn (fun k => box k ≠ none) (fun _ => True) c) (hb : lb nb box [] = box) (loc : List (Nat × List (List AV))) {p q : Nat → Prop}
    (hp : p = fun k => lb nb box loc k ≠ none) (hq : q = fun _ => True) (f : Fn) : OkIn p q (.fn f caps) := by
  subst hp; subst hq
  refine .fn fun c hc => (h c hc).mono (fun k hk => ?_) fun _ h => h
  obtain ⟨r, hr⟩ := Option.ne_none_iff_exists'.1 hk
  rw [lb_out (key_lt hb hr), hr]
  simp

theorem Fin.mono {cx : Cx} {nt0 : Nat} {rs : List ResultVar} {Q Q' : AV → AMem → Prop} {S : AState} (h : Fin P cx nt0 rs Q S) (hq : ∀ v m, Q v m → Q' v m) : Fin P cx nt0 rs Q' S := by
  obtain ⟨vs, out, loc, fz, av, m', h1, h2, h3, h4, h5, h6⟩ := h
  exact ⟨vs, out, loc, fz, av, m', h1, h2, h3, h4, h5, hq _ _ h6⟩

/-- Another way to see what a call hands out. -/
def Conv (v : AV) (m : AMem) (v' : AV) (m' : AMem) : Prop := m'.nb = m.nb ∧ m'.box = m.box ∧ ∀ G w u, RelM G m w → RV G w v u → ∃ G', RelM G' m' w ∧ RV G' w v' u ∧ Le G w G' w ∧ ∀ k, G.bx k = none → G'.bx k = none

theorem Conv.refl (v : AV) (m : AMem) : Conv v m v m := ⟨rfl, rfl, fun G w u h1 h2 => ⟨G, h1, h2, Le.refl G w, fun _ h => h⟩⟩

theorem Conv.newtok (sz sz' : Nat) (box : Nat → Option (List (List AV))) (nb : Nat) (tok : Nat → Bool) (nt : Nat) : Conv (.osl sz [] .full) ⟨box, nb, tok, nt⟩ (.osl sz' [] (.tok nt)) ⟨box, nb, upd tok nt true, nt + 1⟩ := by
  refine ⟨rfl, rfl, fun G w u hm hv => ⟨G.newtok none, hm.newtok none (fun g h => by cases h), ?_, Le.newtok none, fun k h => h⟩⟩
  have hnt : G.nt = nt := hm.nt
  cases hv with
  | osl h ho =>
    cases h with
    | sl u hcap hmax hsz hA hc hr =>
      refine .osl (.sl (fun _ _ => default) hcap hmax (by simp) (by simp) (fun a _ i j hi _ => by simp at hi) (fun i j hi _ => by simp at hi)) ⟨by simp [Gh.newtok, hnt], fun x hx => ?_⟩
      simp only [Gh.newtok, hnt, upd_same, Option.some.injEq] at hx
      subst hx
      exact ho

theorem ACalls.conv {f : FuncId} {args : List AV} {m : AMem} {Q Q' : AV → AMem → Prop} (h : ACalls P f args m Q) (hq : ∀ v m1, Q v m1 → ∃ v' m', Conv v m1 v' m' ∧ Q' v' m') : ACalls P f args m Q' :=
  ⟨h.1, fun G w vals hm hr => (h.2 G w vals hm hr).mono fun e w' ⟨v, av, m1, G1, h1, h2, h3, h4, h5, h6, h7⟩ => by
    obtain ⟨v', m', ⟨c1, c2, c3⟩, hq'⟩ := hq _ _ h2
    obtain ⟨G2, k1, k2, k3, k4⟩ := c3 G1 w' v h4 h5
    exact ⟨v, v', m', G2, h1, hq', c1.trans h3, k1, k2, h6.trans k3, fun k hk => ⟨k4 k (h7 k hk).1, by rw [c2]; exact (h7 k hk).2⟩⟩⟩

theorem TK.perm {mtok : Nat → Bool} {nt0 : Nat} {tok : Nat → Bool} {nt : Nat} {os os' : List Own} (h : TK mtok nt0 tok nt os) (hp : os.Perm os') : TK mtok nt0 tok nt os' :=
  ⟨h.old, h.lt, h.le, fun o ho => h.own o (hp.mem_iff.2 ho), (List.Perm.pairwise_iff (fun {a b} hab t e e' => hab t e' e) hp).1 h.ne⟩
theorem TK.pick3 {mtok : Nat → Bool} {nt0 : Nat} {tok : Nat → Bool} {nt : Nat} {a b c : Own} {os : List Own} (h : TK mtok nt0 tok nt (a :: b :: c :: os)) : TK mtok nt0 tok nt (c :: a :: b :: os) :=
  h.perm (((List.Perm.swap c b os).cons a).trans (List.Perm.swap c a (b :: os)))
theorem TK.put3 {mtok : Nat → Bool} {nt0 : Nat} {tok : Nat → Bool} {nt : Nat} {a b c : Own} {os : List Own} (h : TK mtok nt0 tok nt (c :: a :: b :: os)) : TK mtok nt0 tok nt (a :: b :: c :: os) :=
  h.perm (((List.Perm.swap c b os).cons a).trans (List.Perm.swap c a (b :: os))).symm
theorem TK.pick4 {mtok : Nat → Bool} {nt0 : Nat} {tok : Nat → Bool} {nt : Nat} {a b c d : Own} {os : List Own} (h : TK mtok nt0 tok nt (a :: b :: c :: d :: os)) : TK mtok nt0 tok nt (d :: a :: b :: c :: os) :=
  h.perm ((((List.Perm.swap d c os).cons b).trans (List.Perm.swap d b (c :: os))).cons a |>.trans (List.Perm.swap d a (b :: c :: os)))
theorem TK.put4 {mtok : Nat → Bool} {nt0 : Nat} {tok : Nat → Bool} {nt : Nat} {a b c d : Own} {os : List Own} (h : TK mtok nt0 tok nt (d :: a :: b :: c :: os)) : TK mtok nt0 tok nt (a :: b :: c :: d :: os) :=
  h.perm ((((List.Perm.swap d c os).cons b).trans (List.Perm.swap d b (c :: os))).cons a |>.trans (List.Perm.swap d a (b :: c :: os))).symm

attribute [simp] intsOf convF

end Go.AM
