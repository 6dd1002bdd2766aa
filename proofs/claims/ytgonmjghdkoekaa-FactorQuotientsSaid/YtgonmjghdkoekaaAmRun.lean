/-
  The abstract machine, tenth part: one operation in a frame, calls by contract, and regions: in the text's order, and in every order that Go leaves open.
-/
import Derived.Test.YtgonmjghdkoekaaAmOps8
namespace Go.AM
open Go
set_option linter.unusedSimpArgs false
set_option linter.unusedVariables false

variable {P : Program}

structure AState where
  tmps : Nat → AV
  box : Nat → Option (List (List AV))
  tok : Nat → Bool
  nt : Nat

def AState.ev (S : AState) : Operand → AV
  | .tmp t => S.tmps t
  | .const v => ofVal v
  | .global _ => .bot
  | .func f => .fn (.func f) []

def putT (f : Nat → AV) (dst : Option Tmp) (v : AV) : Nat → AV := match dst with
  | some d => upd f d v
  | none => f

structure RelS (n nb : Nat) (G : Gh) (S : AState) (a : Act) (w : World) : Prop where
  defers : a.defers = []
  size : a.tmps.size = n
  tmps : ∀ t, RV G w (S.tmps t) (a.tmps.getD t undef)
  mem : RelM G ⟨S.box, nb, S.tok, S.nt⟩ w

theorem RelS.ev {n nb : Nat} {G : Gh} {S : AState} {a : Act} {w : World} (h : RelS n nb G S a w) (x : Operand) : RV G w (S.ev x) (a.eval x) := by
  cases x with
  | tmp t => exact h.tmps t
  | const v => exact RV.of_ofVal v
  | global g => exact .bot
  | func f => exact .fn (vs := []) rfl (fun i h => by simp at h)

/-! ### Calls -/
def Enters (P : Program) (f : FuncId) : Prop := ∀ args w, (callFunc f args).run P w = .ok (.enter f args) w

theorem Enters.mk {f : FuncId} {fn : Func} (h : P.funcs[f]? = some fn) (hb : fn.body.isSome = true) (hn : (fn.name == "runtime.NumGoroutine") = false) : Enters P f := by
  intro args w
  obtain ⟨c, hc⟩ := Option.isSome_iff_exists.1 hb
  have hn' : ¬ fn.name = "runtime.NumGoroutine" := by simpa using hn
  simp [callFunc, program, Sem.run, h, hn', hc]

/-- A call, said of all memories that fit: it returns, what it returns reads as Q says, and nothing that never changes has changed. -/
def ACalls (P : Program) (f : FuncId) (args : List AV) (m : AMem) (Q : AV → AMem → Prop) : Prop :=
  Enters P f ∧ ∀ G w vals, RelM G m w → RVs G w args vals → Calls P f vals.toArray w fun e w' => ∃ v av m' G', e = .returned v ∧ Q av m' ∧ m'.nb = m.nb ∧
    RelM G' m' w' ∧ RV G' w' av v ∧ Le G w G' w' ∧ ∀ k, G.bx k = none → G'.bx k = none ∧ m'.box k = m.box k

theorem ACalls.mono {f : FuncId} {args : List AV} {m : AMem} {Q Q' : AV → AMem → Prop} (h : ACalls P f args m Q) (hq : ∀ v m', Q v m' → Q' v m') : ACalls P f args m Q' :=
  ⟨h.1, fun G w vals hm hr => (h.2 G w vals hm hr).mono fun e w' ⟨v, av, m', G', h1, h2, h3⟩ => ⟨v, av, m', G', h1, hq _ _ h2, h3⟩⟩

/-- A call whose outcome is one value, that leaves all boxes alone. -/
def DCall (P : Program) (f : FuncId) (args : List AV) (tok : Nat → Bool) (nt : Nat) (v : AV) (tok' : Nat → Bool) (nt' : Nat) : Prop :=
  ∀ box nb, ACalls P f args ⟨box, nb, tok, nt⟩ fun v' m' => v' = v ∧ m' = ⟨box, nb, tok', nt'⟩

def EffC (P : Program) (o : Oper) (ρ : Operand → AV) (tok : Nat → Bool) (nt : Nat) (v : AV) (tok' : Nat → Bool) (nt' : Nat) : Prop := match o.op with
  | .call c => match c.callee with
    | .value f => match ρ f with
      | .fn (.func fid) caps => DCall P fid (c.args.toList.map ρ ++ caps) tok nt v tok' nt'
      | _ => False
    | _ => False
  | _ => False

inductive Cls where
  | n | r | w | t
  deriving DecidableEq

def cls : Op → Cls
  | .load .. => .r
  | .store .. => .w
  | .box .. => .w
  | .makeSlice .. => .w
  | .call { callee := .builtin .append, .. } => .t
  | .call { callee := .value _, .. } => .t
  | _ => .n

def Eff (P : Program) (base : Nat) (o : Oper) (ρ : Operand → AV) (box : Nat → Option (List (List AV))) (tok : Nat → Bool) (nt : Nat) (v : AV) (box' : Nat → Option (List (List AV))) (tok' : Nat → Bool) (nt' : Nat) : Prop :=
  match cls o.op with
  | .n => EffN P base o ρ v ∧ box' = box ∧ tok' = tok ∧ nt' = nt
  | .r => EffR P o ρ box v ∧ box' = box ∧ tok' = tok ∧ nt' = nt
  | .w => EffW P base o ρ box v box' ∧ tok' = tok ∧ nt' = nt
  | .t => (EffA P o ρ tok nt v tok' nt' ∨ EffC P o ρ tok nt v tok' nt') ∧ box' = box

def Step (P : Program) (base : Nat) (o : Oper) (S S' : AState) : Prop :=
  ∃ v box' tok' nt', Eff P base o S.ev S.box S.tok S.nt v box' tok' nt' ∧ S' = ⟨putT S.tmps o.dst v, box', tok', nt'⟩

/-- What a guard asks of: a value, or nothing where that operation was passed over. -/
def yieldA (ops : Array Oper) (S : AState) (j : Nat) : Option (Option Bool) := match (ops[j]?).bind (·.dst) with
  | some d => match S.tmps d with
    | .d (.raw (.bool b)) => some (some b)
    | .tup [] => some none
    | _ => none
  | none => none

/-- An operation with its guard. -/
def GStep (P : Program) (base : Nat) (ops : Array Oper) (o : Oper) (S S' : AState) : Prop := match o.guard with
  | none => Step P base o S S'
  | some (j, want) => match yieldA ops S j with
    | some b => if b = some want then Step P base o S S' else S' = { S with tmps := putT S.tmps o.dst (.tup []) }
    | none => False

theorem RV.undef {G : Gh} {w : World} : RV G w (.tup []) Go.undef := .tup (vs := []) rfl fun i h => by simp at h

/-! ### One operation is sound -/
theorem RelS.put {n nb : Nat} {G G' : Gh} {S : AState} {a : Act} {w w' : World} (h : RelS n nb G S a w) (hle : Le G w G' w') {dst : Option Tmp} (hd : ∀ d, dst = some d → d < n) {v : AV} {u : Value} (hv : RV G' w' v u)
    {box : Nat → Option (List (List AV))} {tok : Nat → Bool} {nt : Nat} (hm : RelM G' ⟨box, nb, tok, nt⟩ w') : RelS n nb G' ⟨putT S.tmps dst v, box, tok, nt⟩ (a.put dst u) w' := by
  cases dst with
  | none => exact ⟨h.defers, h.size, fun t => (h.tmps t).mono hle, hm⟩
  | some d =>
    refine ⟨h.defers, by simp [Act.put, h.size], fun t => ?_, hm⟩
    have hd' := hd d rfl
    simp only [putT, Act.put]
    by_cases e : t = d
    · subst e
      rw [upd_same]
      have : t < a.tmps.size := by rw [h.size]; exact hd'
      simpa [Array.getD, this] using hv
    · rw [upd_other _ _ e]
      have h1 : (a.tmps.setIfInBounds d u).getD t undef = a.tmps.getD t undef := by
        simp only [Array.getD_eq_getD_getElem?]
        rw [Array.getElem?_setIfInBounds_ne (by omega)]
      rw [h1]
      exact (h.tmps t).mono hle

theorem After.wp {n nb : Nat} {o : Oper} {G : Gh} {S : AState} {a : Act} {w : World} {R : Value → Gh → World → Prop} {K : Act → World → Prop} {Q : Exit → Act → World → Prop}
    (h : After P o a.eval G w R) (hk : ∀ u G' w', Le G w G' w' → R u G' w' → K (a.put o.dst u) w') : o.wp P a w K Q := by
  obtain ⟨nx, u, G', w', h1, h2, h3, h4⟩ := h
  unfold Oper.wp
  rw [h1]
  rcases h2 with rfl | ⟨rfl, rfl⟩
  · exact hk u G' w' h3 h4
  · exact hk undef G' w' h3 h4

/-- What stays with a box that is laid ahead of its allocation. -/
def Kept (base : Nat) (o : Oper) (G G' : Gh) (box box' : Nat → Option (List (List AV))) : Prop := ∀ k, some k ≠ o.dst.map (base + ·) → G.bx k = none → G'.bx k = none ∧ box' k = box k

theorem step_sound {n nb base : Nat} {o : Oper} {S S' : AState} {G : Gh} {a : Act} {w : World} {Q : Exit → Act → World → Prop} (h : Step P base o S S') (hr : RelS n nb G S a w)
    (hd : ∀ d, o.dst = some d → d < n) (hnb : base + n ≤ nb) (hp : Pend P base o G S.box) :
    o.wp P a w (fun a' w' => ∃ G', RelS n nb G' S' a' w' ∧ Le G w G' w' ∧ Kept base o G G' S.box S'.box) Q := by
  obtain ⟨v, box', tok', nt', he, rfl⟩ := h
  have hρ : ∀ x ∈ o.op.operands, RV G w (S.ev x) (a.eval x) := fun x _ => hr.ev x
  have hdn : ∀ s, o.dst = some s → base + s < nb := fun s hs => Nat.lt_of_lt_of_le (Nat.add_lt_add_left (hd s hs) base) hnb
  unfold Eff at he
  split at he
  · obtain ⟨he, rfl, rfl, rfl⟩ := he
    exact (effN_sound he hρ hr.mem hdn hp).wp (n := n) (nb := nb) (S := S) fun u G' w' hle ⟨h1, h2, h3⟩ => ⟨G', hr.put hle hd h1 h2, hle, fun k hk hg => ⟨h3 k hk hg, rfl⟩⟩
  · obtain ⟨he, rfl, rfl, rfl⟩ := he
    obtain ⟨u, g1, g2⟩ := effR_sound he hρ hr.mem
    exact (After.pure (R := fun u G' w' => RV G' w' v u ∧ G' = G ∧ w' = w) g1 ⟨g2, rfl, rfl⟩).wp (n := n) (nb := nb) (S := S) fun u G' w' hle ⟨k1, k2, k3⟩ => by
      subst k2; subst k3
      exact ⟨_, hr.put hle hd k1 hr.mem, hle, fun k hk hg => ⟨hg, rfl⟩⟩
  · obtain ⟨he, rfl, rfl⟩ := he
    exact (effW_sound he hρ hr.mem hdn).wp (n := n) (nb := nb) (S := S) fun u G' w' hle ⟨h1, h2, h3⟩ => ⟨G', hr.put hle hd h1 h2, hle, h3⟩
  · obtain ⟨he, rfl⟩ := he
    rcases he with he | he
    · exact (effA_sound he hρ hr.mem).wp (n := n) (nb := nb) (S := S) fun u G' w' hle ⟨h1, h2, h3⟩ => ⟨G', hr.put hle hd h1 h2, hle, fun k hk hg => ⟨by rw [h3]; exact hg, rfl⟩⟩
    · unfold EffC at he
      split at he
      · rename_i c ho
        split at he
        · rename_i f hcal
          split at he
          · rename_i fid caps hf
            obtain ⟨hen, hc⟩ := he S.box nb
            have hfv := hr.ev f
            rw [hf] at hfv
            generalize hv : a.eval f = fv at hfv
            cases hfv with
            | fn hl hh =>
              rename_i cvs
              have hargs : RVs G w (c.args.toList.map S.ev ++ caps) ((c.args.map a.eval).toList ++ cvs) := by
                refine RVs.append ⟨by simp, fun i h1 h2 => ?_⟩ ⟨hl, hh⟩
                simp only [List.getElem_map, Array.toList_map]
                exact hr.ev _
              have hcalls := hc G w _ hr.mem hargs
              unfold Oper.wp
              have hexec : (execOp a.eval o).run P w = .ok (.enter fid ((c.args.map a.eval).toList ++ cvs).toArray) w := by
                have e : ((c.args.map a.eval).toList ++ cvs).toArray = #[] ++ c.args.map a.eval ++ cvs.toArray := by simp
                simp only [execOp, ho, resolve, hcal, hv, Deferred.ofValue, Sem.run_bind, Sem.run_pure, Result.andThen_ok, invoke, e]
                exact hen _ w
              rw [hexec]
              refine Calls.mono hcalls fun e w' ⟨u, av, m', G', h1, h2, h3, h4, h5, h6, h7⟩ => ?_
              subst h1
              obtain ⟨rfl, rfl⟩ := h2
              exact ⟨G', hr.put h6 hd h5 h4, h6, fun k hk hg => ⟨(h7 k hg).1, rfl⟩⟩
          · exact he.elim
        · exact he.elim
      · exact he.elim

theorem yieldA_spec {n nb : Nat} {ops : Array Oper} {G : Gh} {S : AState} {a : Act} {w : World} {j : Nat} {b : Option Bool} (hr : RelS n nb G S a w) (h : yieldA ops S j = some b) (hd : ∀ o d, ops[j]? = some o → o.dst = some d → d < n) :
    yielded ops a.tmps j = b := by
  unfold yieldA at h
  split at h
  · rename_i d hdst
    split at h
    · rename_i b' hv
      simp only [Option.some.injEq] at h
      subst h
      have h1 := hr.tmps d
      rw [hv] at h1
      have h2 : a.tmps.getD d undef = .bool b' := rawOf_spec rfl h1
      obtain ⟨o, ho, hod⟩ := Option.bind_eq_some_iff.1 hdst
      have hlt : d < a.tmps.size := by rw [hr.size]; exact hd o d ho hod
      have h3 : a.tmps[d]? = some (.bool b') := by
        rw [← h2]
        simp [Array.getD, hlt]
      simp [yielded, hdst, h3]
    · rename_i hv
      simp only [Option.some.injEq] at h
      subst h
      have h1 := hr.tmps d
      rw [hv] at h1
      have h2 : a.tmps.getD d undef = .tuple #[] := by
        generalize a.tmps.getD d undef = x at h1
        cases h1 with
        | tup hl hh =>
          rename_i vs
          have : vs = [] := List.eq_nil_of_length_eq_zero (by simpa using hl.symm)
          subst this
          rfl
      have h3 : ∀ x, a.tmps[d]? = some x → x = .tuple #[] := by
        intro x hx
        rw [← h2]
        simp [Array.getD_eq_getD_getElem?, hx]
      simp only [yielded, hdst, Option.bind_some]
      cases hx : a.tmps[d]? with
      | none => rfl
      | some x => rw [h3 x hx]
    · cases h
  · cases h

theorem gstep_sound {n nb base : Nat} {ops : Array Oper} {i : Nat} {o : Oper} {S S' : AState} {G : Gh} {a : Act} {w : World} {Q : Exit → Act → World → Prop} {K : Act → World → Prop} (hi : ops[i]? = some o) (h : GStep P base ops o S S') (hr : RelS n nb G S a w)
    (hd : ∀ (o : Oper) d, o ∈ ops → o.dst = some d → d < n) (hnb : base + n ≤ nb) (hp : Pend P base o G S.box)
    (hk : ∀ a' w' G', RelS n nb G' S' a' w' → Le G w G' w' → Kept base o G G' S.box S'.box → K a' w') : wpOp P ops Q i K a w := by
  unfold wpOp
  rw [hi]
  simp only []
  have hd' : ∀ d, o.dst = some d → d < n := fun d hdd => hd o d (Array.mem_of_getElem? hi) hdd
  unfold GStep at h
  split at h
  · rename_i hg
    have hw : Region.wanted o (yielded ops a.tmps) = true := by simp [Region.wanted, hg]
    rw [if_pos hw]
    exact .inl (Oper.wp_mono (fun _ _ ⟨G', h1, h2, h3⟩ => hk _ _ G' h1 h2 h3) (step_sound h hr hd' hnb hp))
  · rename_i j want hg
    split at h
    · rename_i b hy
      have hy' := yieldA_spec hr hy (fun o d h1 h2 => hd o d (Array.mem_of_getElem? h1) h2)
      split at h
      · rename_i e
        subst e
        have hw : Region.wanted o (yielded ops a.tmps) = true := by simp [Region.wanted, hg, hy']
        rw [if_pos hw]
        exact .inl (Oper.wp_mono (fun _ _ ⟨G', h1, h2, h3⟩ => hk _ _ G' h1 h2 h3) (step_sound h hr hd' hnb hp))
      · rename_i e
        have hw : ¬ Region.wanted o (yielded ops a.tmps) = true := by simp [Region.wanted, hg, hy', e]
        rw [if_neg hw]
        subst h
        exact hk _ _ G (hr.put (Le.refl G w) hd' RV.undef hr.mem) (Le.refl G w) fun k _ hgk => ⟨hgk, rfl⟩
    · exact h.elim

end Go.AM
