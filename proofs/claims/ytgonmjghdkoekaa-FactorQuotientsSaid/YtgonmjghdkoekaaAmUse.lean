/-
  The abstract machine, nineteenth part: what makes it short to use.
-/
import Derived.Test.YtgonmjghdkoekaaAmEval2
namespace Go.AM
open Go
set_option linter.unusedSimpArgs false
set_option linter.unusedVariables false

variable {P : Program}

attribute [simp] nilCmp FReg preF FOne FSkip Gd.tt Gd.tf Gd.ft Gd.ff fN fR fW fA AState.ev putT_tl putT_none tlArgs tl_cons tl_nil ofVal ofVal1 lenF idxF sliceF boundF rawOf rawsOf binF unF loadD loadA lb_at lk_cons lk_nil upd_lb yieldA AV.cells? AV.elems? toDs AV.toD rowsOf fillA setCells FCond

@[simp] theorem FOps_nil {cx : Cx} {ops : Array Oper} {dr : Bool} {K : AState → Prop} {t : Nat → AV} {b : Nat → Option (List (List AV))} {k : Nat → Bool} {n : Nat} : FOps P cx ops dr [] K ⟨t, b, k, n⟩ = K ⟨t, b, k, n⟩ := by simp only [FOps]
@[simp] theorem FOps_cons {cx : Cx} {ops : Array Oper} {dr : Bool} {o : Oper} {r : List Oper} {K : AState → Prop} {t : Nat → AV} {b : Nat → Option (List (List AV))} {k : Nat → Bool} {n : Nat} : FOps P cx ops dr (o :: r) K ⟨t, b, k, n⟩ = match o.guard with
    | none => FOne P cx dr o (FOps P cx ops dr r K) ⟨t, b, k, n⟩
    | some (j, want) => match yieldA ops ⟨t, b, k, n⟩ j with
      | some (some c) => Gd c want (FOne P cx dr o (FOps P cx ops dr r K)) (FSkip o.dst (FOps P cx ops dr r K)) ⟨t, b, k, n⟩
      | some none => FSkip o.dst (FOps P cx ops dr r K) ⟨t, b, k, n⟩
      | none => False := by
  simp only [FOps]
  rfl

@[simp] theorem live_full {tok : Nat → Bool} : Own.full.liveP tok = True := rfl
@[simp] theorem kill_full {tok : Nat → Bool} : Own.full.kill tok = tok := rfl
@[simp] theorem live_tok {tok : Nat → Bool} {t : Nat} : (Own.tok t).liveP tok = (tok t = true) := rfl
@[simp] theorem kill_tok {tok : Nat → Bool} {t : Nat} : (Own.tok t).kill tok = upd tok t false := rfl

/-- Slots, one by one. -/
def ToL (p q : Nat → Prop) (fz : Option (Nat × Nat × List (List D))) (l : List (Nat × AV)) : List (Nat × AV) → Prop
  | [] => True
  | (i, v) :: r => To p q fz (tl l i) v ∧ ToL p q fz l r

theorem ToL.all {p q : Nat → Prop} {fz : Option (Nat × Nat × List (List D))} {l : List (Nat × AV)} : ∀ {l' : List (Nat × AV)}, ToL p q fz l l' → ∀ t, To p q fz (tl l t) (tl l' t)
  | [], _, t => .bot
  | (i, v) :: r, h, t => by
    rw [tl_cons]
    split
    · rename_i e; subst e; exact h.1
    · exact ToL.all h.2 t

def BoxL (p q : Nat → Prop) (fz : Option (Nat × Nat × List (List D))) (loc : List (Nat × List (List AV))) : List (Nat × List (List AV)) → Prop
  | [] => True
  | (s, rows') :: r => (∃ rows, lk loc s = some rows ∧ RowsTo p q fz rows rows') ∧ BoxL p q fz loc r

theorem BoxL.all {p q : Nat → Prop} {fz : Option (Nat × Nat × List (List D))} {loc : List (Nat × List (List AV))} : ∀ {loc' : List (Nat × List (List AV))}, BoxL p q fz loc loc' → ∀ s rows', lk loc' s = some rows' → ∃ rows, lk loc s = some rows ∧ RowsTo p q fz rows rows'
  | [], _, s, rows', h => by simp [lk] at h
  | (i, v) :: r, h, s, rows', hs => by
    rw [lk_cons] at hs
    split at hs
    · rename_i e; subst e; cases hs; exact h.1
    · exact BoxL.all h.2 s rows' hs

/-- A weakening that keeps the tokens. -/
theorem Weaks.mk' {cx : Cx} {nt0 nt : Nat} {l l' : List (Nat × AV)} {out : Nat → Option (List (List AV))} {loc loc' : List (Nat × List (List AV))} {tok : Nat → Bool} (hnt : nt0 ≤ nt)
    (hl : ToL (fun k => lb cx.base out loc' k ≠ none) (fun _ => True) none l l') (hb : BoxL (fun k => lb cx.base out loc' k ≠ none) (fun _ => True) none loc loc')
    (ho : ∀ k rows, k < cx.base → out k = some rows → cx.B0 k = some rows ∨ ∀ r ∈ rows, ∀ x ∈ r, OkIn (fun k => lb cx.base out loc' k ≠ none) (fun _ => True) x) :
    Weaks cx nt0 ⟨tl l, lb cx.base out loc, tok, nt⟩ ⟨tl l', lb cx.base out loc', tok, nt⟩ := by
  refine ⟨out, loc, loc', none, rfl, rfl, Nat.le_refl _, hnt, fun t h => ⟨h, .inl rfl⟩, ?_, ?_, (fun _ _ _ h => by cases h), ?_⟩
  · simp only [true_or, Option.map_none]; exact hl.all
  · simp only [true_or, Option.map_none]; exact hb.all
  · simp only [true_or]; exact ho

/-- A weakening that leaves the boxes that came in alone. -/
theorem Weaks.mk {cx : Cx} {nt0 nt : Nat} {l l' : List (Nat × AV)} {out : Nat → Option (List (List AV))} {loc loc' : List (Nat × List (List AV))} {tok : Nat → Bool} (hnt : nt0 ≤ nt) (ho : out = cx.B0)
    (hl : ToL (fun k => lb cx.base out loc' k ≠ none) (fun _ => True) none l l') (hb : BoxL (fun k => lb cx.base out loc' k ≠ none) (fun _ => True) none loc loc') :
    Weaks cx nt0 ⟨tl l, lb cx.base out loc, tok, nt⟩ ⟨tl l', lb cx.base out loc', tok, nt⟩ :=
  Weaks.mk' hnt hl hb fun k rows _ h => .inl (by rw [← ho]; exact h)

/-- The end of a function whose result is data. -/
theorem Fin.data {cx : Cx} {nt0 nt : Nat} {rs : List ResultVar} {l : List (Nat × AV)} {out : Nat → Option (List (List AV))} {loc : List (Nat × List (List AV))} {tok mtok : Nat → Bool} {vs : List AV} {av : AV}
    (hres : resAs P ⟨tl l, lb cx.base out loc, tok, nt⟩ rs = some vs) (hbox : lb cx.base out [] = out) (ho : out = cx.B0) (hm : ∀ t, mtok t = true → t < nt0) (htok : ∀ t, mtok t = true → tok t = true) (hnt : nt0 ≤ nt)
    (hto : To (fun k => lb cx.base out [] k ≠ none) (fun t => nt0 = nt ∨ t < nt0) none (packA vs) av) : Fin P cx nt0 rs (fun v' m' => v' = av ∧ m' = ⟨out, cx.base, mtok, nt0⟩) ⟨tl l, lb cx.base out loc, tok, nt⟩ :=
  ⟨vs, out, loc, none, av, ⟨out, cx.base, mtok, nt0⟩, hres, ⟨rfl, rfl, hnt, Nat.le_refl _, fun t h => ⟨htok t h, .inr (hm t h)⟩, fun _ => .bot, fun s rows' h => by simp [lk] at h, (fun _ _ _ h => by cases h),
    fun k rows _ h => .inl (by rw [← ho]; exact h)⟩, hbox.symm, rfl, by simpa using hto, rfl, rfl⟩

/-! ### Weakenings that simp closes -/
section
variable {p q : Nat → Prop} {fz : Option (Nat × Nat × List (List D))}
@[simp] theorem to_bot (x : AV) : To p q fz x .bot := .bot
@[simp] theorem to_d (x : D) : To p q fz (.d x) (.d x) := .same .d
@[simp] theorem to_data (sz : Nat) (es : List (List D)) (o : Own) : To p q fz (.osl sz es o) (.d (.sl sz es)) := .data
@[simp] theorem to_osl (sz : Nat) (es : List (List D)) (o : Own) : To p (fun _ => True) fz (.osl sz es o) (.osl sz es o) := .same (.osl fun _ _ => trivial)
@[simp] theorem to_full (sz : Nat) (es : List (List D)) : To p q fz (.osl sz es .full) (.osl sz es .full) := .same (.osl fun _ h => by cases h)
@[simp] theorem to_nil0 (sz sz' : Nat) : To p q fz (.osl sz [] .full) (.osl sz' [] .full) := .nil rfl
@[simp] theorem to_emp0 (sz sz' : Nat) (o : Own) : To p q fz (.osl sz [] o) (.d (.sl sz' [])) := .odsub .emp
@[simp] theorem to_emp1 (sz sz' : Nat) : To p q fz (.d (.sl sz [])) (.d (.sl sz' [])) := .dsub .emp
@[simp] theorem to_emp2 (sz sz' : Nat) : To p q fz (.osl 1 [[.sl sz []]] .full) (.osl 1 [[.sl sz' []]] .full) :=
  .osub (.sl rfl (fun i h1 h2 => by simp at h1; subst h1; rfl) (fun i h1 h2 j g1 g2 => by simp at h1; subst h1; simp at g1; subst g1; exact .emp))
@[simp] theorem to_emp3 (sz sz' : Nat) (o : Own) : To p q fz (.osl 1 [[.sl sz []]] o) (.d (.sl 1 [[.sl sz' []]])) :=
  .odsub (.sl rfl (fun i h1 h2 => by simp at h1; subst h1; rfl) (fun i h1 h2 j g1 g2 => by simp at h1; subst h1; simp at g1; subst g1; exact .emp))
@[simp] theorem to_cptr (cs : List D) (off : Nat) : To p q fz (.cptr cs off) (.cptr cs off) := .same .cptr
theorem to_ptr {k i off : Nat} (h : p k) : To p q fz (.ptr k i off) (.ptr k i off) := .same (.ptr h)
@[simp] theorem to_ptr_lb {base s i off : Nat} {out : Nat → Option (List (List AV))} {loc : List (Nat × List (List AV))} : To (fun k => lb base out loc k ≠ none) q fz (.ptr (base + s) i off) (.ptr (base + s) i off) ↔ lk loc s ≠ none := by
  constructor
  · intro h
    cases h with
    | same h => cases h with | ptr h => rw [lb_at] at h; exact h
  · intro h
    exact to_ptr (by rw [lb_at]; exact h)
@[simp] theorem to_msl_lb {base s off n sz : Nat} {out : Nat → Option (List (List AV))} {loc : List (Nat × List (List AV))} : To (fun k => lb base out loc k ≠ none) q fz (.msl (base + s) off n sz) (.msl (base + s) off n sz) ↔ lk loc s ≠ none := by
  constructor
  · intro h
    cases h with
    | same h => cases h with | msl h => rw [lb_at] at h; exact h
  · intro h
    exact .same (.msl (by rw [lb_at]; exact h))
@[simp] theorem okIn_d (x : D) : OkIn p q (.d x) := .d
@[simp] theorem okIn_bot : OkIn p q .bot := .bot
@[simp] theorem okIn_osl (sz : Nat) (es : List (List D)) (o : Own) : OkIn p (fun _ => True) (.osl sz es o) := .osl fun _ _ => trivial
@[simp] theorem okIn_ptr {k i off : Nat} : OkIn p q (.ptr k i off) ↔ p k := ⟨fun h => by cases h; assumption, .ptr⟩
@[simp] theorem okIn_agg {cs : List AV} : OkIn p q (.agg cs) ↔ ∀ c ∈ cs, OkIn p q c := ⟨fun h => by cases h; assumption, .agg⟩
@[simp] theorem okIn_fn {f : Fn} {cs : List AV} : OkIn p q (.fn f cs) ↔ ∀ c ∈ cs, OkIn p q c := ⟨fun h => by cases h; assumption, .fn⟩
theorem to_agg2 {a b c d : AV} (h1 : To p q fz a c) (h2 : To p q fz b d) : To p q fz (.agg [a, b]) (.agg [c, d]) := .agg rfl fun i h _ => by
  match i, h with
  | 0, _ => exact h1
  | 1, _ => exact h2
@[simp] theorem to_tup_nil : To p q fz (.tup []) (.tup []) := .tup rfl fun i h => by simp at h
theorem to_cons_agg {a b : AV} {as bs : List AV} (h : To p q fz a b) (k : To p q fz (.agg as) (.agg bs)) : To p q fz (.agg (a :: as)) (.agg (b :: bs)) := by
  cases k with
  | same k =>
    refine .agg rfl fun i h1 h2 => ?_
    cases i with
    | zero => exact h
    | succ i => exact .same ((okIn_agg.1 k) _ (List.getElem_mem _))
  | agg hl k =>
    refine .agg (by simp [hl]) fun i h1 h2 => ?_
    cases i with
    | zero => exact h
    | succ i => exact k i (by simpa using h1) (by simpa using h2)
theorem to_cons_tup {a b : AV} {as bs : List AV} (h : To p q fz a b) (k : To p q fz (.tup as) (.tup bs)) : To p q fz (.tup (a :: as)) (.tup (b :: bs)) := by
  cases k with
  | same k =>
    refine .tup rfl fun i h1 h2 => ?_
    cases i with
    | zero => exact h
    | succ i => cases k with | tup k => exact .same (k _ (List.getElem_mem _))
  | tup hl k =>
    refine .tup (by simp [hl]) fun i h1 h2 => ?_
    cases i with
    | zero => exact h
    | succ i => exact k i (by simpa using h1) (by simpa using h2)
@[simp] theorem to_cons_agg_iff {a b : AV} {as bs : List AV} : To p q fz (.agg (a :: as)) (.agg (b :: bs)) ↔ To p q fz a b ∧ To p q fz (.agg as) (.agg bs) := by
  constructor
  · intro h
    cases h with
    | same h => have := okIn_agg.1 h; exact ⟨.same (this _ (by simp)), .same (okIn_agg.2 fun c hc => this c (by simp [hc]))⟩
    | agg hl h => exact ⟨h 0 (by simp) (by simp), .agg (by simpa using hl) fun i h1 h2 => h (i + 1) (by simpa using h1) (by simpa using h2)⟩
  · exact fun ⟨h, k⟩ => to_cons_agg h k
@[simp] theorem to_cons_tup_iff {a b : AV} {as bs : List AV} : To p q fz (.tup (a :: as)) (.tup (b :: bs)) ↔ To p q fz a b ∧ To p q fz (.tup as) (.tup bs) := by
  constructor
  · intro h
    cases h with
    | same h =>
      cases h with
      | tup this => exact ⟨.same (this _ (by simp)), .same (.tup fun c hc => this c (by simp [hc]))⟩
    | tup hl h => exact ⟨h 0 (by simp) (by simp), .tup (by simpa using hl) fun i h1 h2 => h (i + 1) (by simpa using h1) (by simpa using h2)⟩
  · exact fun ⟨h, k⟩ => to_cons_tup h k
@[simp] theorem to_nil_agg : To p q fz (.agg []) (.agg []) := .agg rfl fun i h => by simp at h
end

/-! ### What a region with late stores asks of the slots -/
def SideD (t : List (Nat × AV)) : List Oper → Prop
  | [] => True
  | o :: r => (match o.dst with | some d => NP (tl t d) | none => True) ∧ SideD t r
theorem SideD.all {t : List (Nat × AV)} {l : List Oper} (h : SideD t l) : ∀ o ∈ l, ∀ d, o.dst = some d → NP (tl t d) := by
  induction l with
  | nil => intro o ho; simp at ho
  | cons o r ih =>
    intro x hx d hd
    unfold SideD at h
    rcases List.mem_cons.1 hx with e | hx
    · subst e
      have := h.1
      rw [hd] at this
      exact this
    · exact ih h.2 x hx d hd
theorem Side.of {ops : Array Oper} {l : List (Nat × AV)} {b : Nat → Option (List (List AV))} {k : Nat → Bool} {n : Nat} (h : SideD l ops.toList) : Side ops ⟨tl l, b, k, n⟩ :=
  fun o ho d hd => h.all o ho d hd
attribute [simp] SideD NP NK ptrs Far Far1

/-- A loop over a family of states. -/
theorem AL.loopT {cx : Cx} {nt0 : Nat} {K : Exit → AState → Prop} {r : List CI} {S : AState} {c : Code} {α : Type} (T : α → AState) (inv : α → Prop) (μ : α → Nat) (a0 : α) (h0 : inv a0) (hw : Weaks cx nt0 S (T a0))
    (hstep : ∀ a S, inv a → S = T a → AL P cx nt0 (fun e S' => match e with
      | .normal => ∃ a', inv a' ∧ μ a' < μ a ∧ Weaks cx nt0 S' (T a')
      | e => AU P cx nt0 K r e S') [.c c] S) : AL P cx nt0 K (.c (.loop c) :: r) S := by
  refine AL.loop (fun n S => ∃ a, inv a ∧ n = μ a ∧ S = T a) ⟨_, _, hw, a0, h0, rfl, rfl⟩ ?_
  rintro n S ⟨a, ha, rfl, hS⟩
  have := AL.start (hstep a S ha hS)
  simp only [AL]
  refine this.mono fun e S' h => ?_
  cases e with
  | normal =>
    obtain ⟨a', h1, h2, h3⟩ := h
    exact ⟨μ a', T a', h2, h3, a', h1, rfl, rfl⟩
  | _ => simpa only [AU] using h

/-! ### Tokens of a walk -/
/-- The tokens that came in still live; those of the walk's own accumulators live, and are new ones, all different. -/
structure TK (mtok : Nat → Bool) (nt0 : Nat) (tok : Nat → Bool) (nt : Nat) (os : List Own) : Prop where
  old : ∀ t, mtok t = true → tok t = true
  lt : ∀ t, mtok t = true → t < nt0
  le : nt0 ≤ nt
  own : ∀ o ∈ os, ∀ t, o = .tok t → tok t = true ∧ nt0 ≤ t ∧ t < nt
  ne : os.Pairwise fun a b => ∀ t, a = .tok t → b ≠ .tok t

theorem TK.start {mtok : Nat → Bool} {nt0 : Nat} (h : ∀ t, mtok t = true → t < nt0) : TK mtok nt0 mtok nt0 [] := ⟨fun _ h => h, h, Nat.le_refl _, by simp, .nil⟩
theorem TK.full {mtok : Nat → Bool} {nt0 : Nat} {tok : Nat → Bool} {nt : Nat} {os : List Own} (h : TK mtok nt0 tok nt os) : TK mtok nt0 tok nt (.full :: os) :=
  ⟨h.old, h.lt, h.le, fun o ho t e => by
    rcases List.mem_cons.1 ho with rfl | ho
    · cases e
    · exact h.own o ho t e, .cons (fun b _ t e => by cases e) h.ne⟩
theorem TK.live {mtok : Nat → Bool} {nt0 : Nat} {tok : Nat → Bool} {nt : Nat} {o : Own} {os : List Own} (h : TK mtok nt0 tok nt (o :: os)) : o.liveP tok := by
  cases o with
  | full => trivial
  | tok t => exact (h.own _ (by simp) t rfl).1
theorem TK.tail {mtok : Nat → Bool} {nt0 : Nat} {tok : Nat → Bool} {nt : Nat} {o : Own} {os : List Own} (h : TK mtok nt0 tok nt (o :: os)) : TK mtok nt0 tok nt os :=
  ⟨h.old, h.lt, h.le, fun o' ho => h.own o' (by simp [ho]), (List.pairwise_cons.1 h.ne).2⟩
theorem TK.swap {mtok : Nat → Bool} {nt0 : Nat} {tok : Nat → Bool} {nt : Nat} {a b : Own} {os : List Own} (h : TK mtok nt0 tok nt (a :: b :: os)) : TK mtok nt0 tok nt (b :: a :: os) := by
  have h1 := List.pairwise_cons.1 h.ne
  have h2 := List.pairwise_cons.1 h1.2
  refine ⟨h.old, h.lt, h.le, fun o' ho => h.own o' (by simp at ho ⊢; rcases ho with h | h | h <;> simp [h]), ?_⟩
  refine List.pairwise_cons.2 ⟨fun c hc t e => ?_, List.pairwise_cons.2 ⟨fun c hc => h1.1 c (by simp [hc]), h2.2⟩⟩
  rcases List.mem_cons.1 hc with rfl | hc
  · intro e'
    exact h1.1 b (by simp) t e' e
  · exact h2.1 c hc t e
theorem TK.app {mtok : Nat → Bool} {nt0 : Nat} {tok : Nat → Bool} {nt : Nat} {o : Own} {os : List Own} (h : TK mtok nt0 tok nt (o :: os)) : TK mtok nt0 (upd (o.kill tok) nt true) (nt + 1) (.tok nt :: os) := by
  have hp := List.pairwise_cons.1 h.ne
  have key : ∀ t, t < nt → (∀ t', o = .tok t' → t ≠ t') → (upd (o.kill tok) nt true) t = tok t := by
    intro t ht hne
    rw [upd_other _ _ (by omega)]
    cases o with
    | full => rfl
    | tok t' => simp only [Own.kill]; rw [upd_other _ _ (hne t' rfl)]
  have hle := h.le
  refine ⟨fun t ht => ?_, h.lt, by omega, fun o' ho t e => ?_, ?_⟩
  · have hlt := h.lt t ht
    rw [key t (by omega) (fun t' e => by have := (h.own o (by simp) t' e).2.1; omega)]
    exact h.old t ht
  · rcases List.mem_cons.1 ho with rfl | ho
    · cases e
      exact ⟨by rw [upd_same], hle, by omega⟩
    · obtain ⟨h1, h2, h3⟩ := h.own o' (by simp [ho]) t e
      refine ⟨?_, h2, by omega⟩
      rw [key t h3 (fun t' e' => fun e2 => by subst e2; exact hp.1 o' ho t e' e)]
      exact h1
  · refine List.pairwise_cons.2 ⟨fun b hb t e e' => ?_, hp.2⟩
    cases e
    have := (h.own b (by simp [hb]) _ e').2.2
    omega

theorem Stop.of_b {cx : Cx} {fid : FuncId} {args : List AV} {S : AState} {dst : Option Tmp} {K : AState → Prop} {v : AV} {tok' : Nat → Bool} {nt' : Nat} (h : ACalls P fid args ⟨S.box, cx.nb, S.tok, S.nt⟩ fun v' m' => v' = v ∧ m' = ⟨S.box, cx.nb, tok', nt'⟩)
    (hk : K ⟨putT S.tmps dst v, S.box, tok', nt'⟩) : Stop P cx false fid args S dst K := by
  refine h.mono ?_
  rintro v' m' ⟨rfl, rfl⟩
  exact hk

/-- A box that a call finds lies below its own. -/
theorem key_lt {nb k : Nat} {box : Nat → Option (List (List AV))} {r : List (List AV)} (hbox : lb nb box [] = box) (h : box k = some r) : k < nb := by
  rcases Nat.lt_or_ge k nb with h1 | h1
  · exact h1
  · rw [← hbox] at h
    have : ¬ k < nb := by omega
    simp [lb, lk, this] at h

/-! ### Data of this program -/
abbrev ints (xs : List Int) : D := .sl 1 (xs.map fun n => [D.raw (.int .i64 n)])
abbrev I (n : Int) : AV := .d (.raw (.int .i64 n))
abbrev B (b : Bool) : AV := .d (.raw (.bool b))
abbrev NI : AV := .bot

structure E where
  ty : Int
  fr : Int
  to : Int
  deriving DecidableEq, Inhabited

abbrev E.cells (e : E) : List D := [.raw (.int .i64 e.ty), .raw (.int .i64 e.fr), .raw (.int .i64 e.to)]
abbrev edges (es : List E) : D := .sl 3 (es.map E.cells)

structure Gr where
  nodes : List Int
  edges : List E
  deriving DecidableEq, Inhabited

structure Mo where
  nodes : List Int
  edges : List Int
  deriving DecidableEq, Inhabited

abbrev Gr.av (g : Gr) : AV := .agg [.d (ints g.nodes), .d (AM.edges g.edges)]
abbrev Mo.av (m : Mo) : AV := .agg [.d (ints m.nodes), .d (ints m.edges)]

theorem getD_map {α β : Type} (f : α → β) (l : List α) (i : Nat) (d : β) (h : i < l.length) : (l.map f).getD i d = f l[i] := by simp [h]
@[simp] theorem map_at {α β : Type} (f : α → β) (l : List α) (i : Nat) (d : β) (h : i < l.length) : ((l.map f)[i]?).getD d = f l[i] := by simp [h]

end Go.AM
