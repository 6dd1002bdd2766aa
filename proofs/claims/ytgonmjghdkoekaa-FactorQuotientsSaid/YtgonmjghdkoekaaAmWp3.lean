/-
  The abstract machine, fifteenth part: the rules for bodies, and the contract of a function out of its body.
-/
import Derived.Test.YtgonmjghdkoekaaAmWp2
namespace Go.AM
open Go
set_option linter.unusedSimpArgs false
set_option linter.unusedVariables false

variable {P : Program}

/-- A piece of a body, from a state of the abstract machine on: it comes to an exit and a state of which K holds. -/
def LeC (cx : Cx) (G0 : Gh) (w0 : World) (G : Gh) (w : World) (S : AState) : Prop := LeB cx.base G0 w0 G w ∧ ∀ k, k < cx.base → G0.bx k = none → S.box k = cx.B0 k

theorem LeC.step {cx : Cx} {G0 G G' : Gh} {w0 w w' : World} {S S' : AState} (h : LeC cx G0 w0 G w S) (k : LeK cx.base G w S.box G' w' S'.box) : LeC cx G0 w0 G' w' S' :=
  ⟨h.1.trans k.leB, fun j hj hg => ((k.2 j hj (by rw [h.1.bx j hj]; exact hg)).2).trans (h.2 j hj hg)⟩

def AT (P : Program) (cx : Cx) (nt0 : Nat) (c : Code) (S : AState) (K : Exit → AState → Prop) : Prop :=
  ∀ G0 w0, Entry cx nt0 G0 → G0.nt ≤ nt0 → ∀ G a w, RelS cx.n cx.nb G S a w → LeC cx G0 w0 G w S →
    c.wp P (fun e a' w' => ∃ S' G', K e S' ∧ RelS cx.n cx.nb G' S' a' w' ∧ LeC cx G0 w0 G' w' S') a w

theorem AT.mono {cx : Cx} {nt0 : Nat} {c : Code} {S : AState} {K K' : Exit → AState → Prop} (h : AT P cx nt0 c S K) (hk : ∀ e S, K e S → K' e S) : AT P cx nt0 c S K' :=
  fun G0 w0 he hn G a w hr hl => wp_mono (h G0 w0 he hn G a w hr hl) fun e a' w' ⟨S', G', h1, h2⟩ => ⟨S', G', hk _ _ h1, h2⟩

/-- The state may be weakened. -/
theorem AT.weak {cx : Cx} {nt0 : Nat} {c : Code} {S S' : AState} {K : Exit → AState → Prop} {out : Nat → Option (List (List AV))} {loc loc' : List (Nat × List (List AV))} {fz : Option (Nat × Nat × List (List D))}
    (h : Weak cx nt0 out loc loc' fz S S') (k : AT P cx nt0 c S' K) : AT P cx nt0 c S K := by
  intro G0 w0 he hn G a w hr hl
  obtain ⟨G', hr', hl', _⟩ := h.sound he hl.1 hr hn
  exact k G0 w0 he hn G' a w hr' ⟨hl', fun j hj hg => by rw [← hl.2 j hj hg, h.hb', h.hb, lb_out hj, lb_out hj]⟩

/-- What a weakening needs, without its parts. -/
def Weaks (cx : Cx) (nt0 : Nat) (S S' : AState) : Prop := ∃ out loc loc' fz, Weak cx nt0 out loc loc' fz S S'

theorem AT.weaks {cx : Cx} {nt0 : Nat} {c : Code} {S S' : AState} {K : Exit → AState → Prop} (h : Weaks cx nt0 S S') (k : AT P cx nt0 c S' K) : AT P cx nt0 c S K := by
  obtain ⟨_, _, _, _, h⟩ := h
  exact AT.weak h k

/-! ### Regions -/
def callFn (o : Oper) (ρ : Operand → AV) : Option (FuncId × List AV) := match o.op with
  | .call c => match c.callee with
    | .value f => match ρ f with
      | .fn (.func fid) caps => some (fid, c.args.toList.map ρ ++ caps)
      | _ => none
    | _ => none
  | _ => none

/-- A slice compared with nil: whether an empty one is nil is not known. -/
def nilCmp (P : Program) (o : Oper) (ρ : Operand → AV) : Option (Bool × List (List D)) := match o.op with
  | .binOp op T x y _ => match elemT P T with
    | some _ => match y with
      | .const (.slice none 0 0) => match (ρ x).elems? with
        | some (_, es) => match op with
          | .eql => some (true, es)
          | .neq => some (false, es)
          | _ => none
        | none => none
      | _ => none
    | none => none
  | _ => none

theorem run_equalIn_nil (d : Nat) {T E : TypeId} (h : P.underlying T = some (.slice E)) (A : Option Addr) (n c : Nat) (w : World) : (Op.equalIn (d + 1) T (.slice A n c) (.slice none 0 0)).run P w = .ok A.isNone w := by
  cases A <;> simp [Op.equalIn, run_underlying h]

theorem run_eql_nil {T E : TypeId} (h : P.underlying T = some (.slice E)) (A : Option Addr) (n c : Nat) (w : World) : (binOp .eql T (.slice A n c) (.slice none 0 0)).run P w = .ok (.bool A.isNone) w := by
  have := run_equalIn_nil 9999 h A n c w
  simp only [binOp, Op.equal, Op.maxDepth, Sem.run_bind, this, Result.andThen_ok, Sem.run_pure]

theorem run_neq_nil {T E : TypeId} (h : P.underlying T = some (.slice E)) (A : Option Addr) (n c : Nat) (w : World) : (binOp .neq T (.slice A n c) (.slice none 0 0)).run P w = .ok (.bool (!A.isNone)) w := by
  have := run_equalIn_nil 9999 h A n c w
  simp only [binOp, Op.equal, Op.maxDepth, Sem.run_bind, this, Result.andThen_ok, Sem.run_pure]

theorem nil_sound {o : Oper} {ρ : Operand → AV} {ρv : Operand → Value} {G : Gh} {w : World} {t : Bool} {es : List (List D)} (h : nilCmp P o ρ = some (t, es)) (hev : ∀ v, ρv (.const v) = v) (hρ : ∀ x ∈ o.op.operands, RV G w (ρ x) (ρv x)) :
    ∃ b, (es ≠ [] → b = !t) ∧ (execOp ρv o).run P w = .ok (.value (.bool b)) w := by
  unfold nilCmp at h
  split at h
  · rename_i op T x y T' ho
    split at h
    · rename_i E hE
      have hu : P.underlying T = some (.slice E) := by
        unfold elemT at hE
        split at hE
        · cases hE; assumption
        · cases hE
      split at h
      · split at h
        · rename_i sz es' hel
          have hx := (hρ x (by rw [ho]; simp [Op.operands])).elems hel
          generalize hv : ρv x = xv at hx
          cases hx with
          | sl u hcap hmax hsz hA hc hr =>
            rename_i A cap
            split at h
            · cases h
              refine ⟨A.isNone, fun hne => ?_, ?_⟩
              · obtain ⟨a, rfl⟩ := hA hne; rfl
              · have he : ∀ op x y, (eqGuard op T x y (.slice A es.length cap) (.slice none 0 0)).run P w = .ok () w := fun op x y => by cases op <;> rfl
                simp only [execOp, ho, hv, hev, Sem.run_bind, he, Result.andThen_ok, run_eql_nil hu, Sem.run_pure]
            · cases h
              refine ⟨!A.isNone, fun hne => ?_, ?_⟩
              · obtain ⟨a, rfl⟩ := hA hne; rfl
              · have he : ∀ op x y, (eqGuard op T x y (.slice A es.length cap) (.slice none 0 0)).run P w = .ok () w := fun op x y => by cases op <;> rfl
                simp only [execOp, ho, hv, hev, Sem.run_bind, he, Result.andThen_ok, run_neq_nil hu, Sem.run_pure]
            · cases h
        · cases h
      · cases h
    · cases h
  · cases h

/-- One operation, its calls by whatever contract. -/
def Op1 (P : Program) (cx : Cx) (o : Oper) (S : AState) (K : AState → Prop) : Prop := match callFn o S.ev with
  | some (fid, args) => ACalls P fid args ⟨S.box, cx.nb, S.tok, S.nt⟩ fun v m' => K ⟨putT S.tmps o.dst v, m'.box, m'.tok, m'.nt⟩
  | none => (∃ S1, Step P cx.base o S S1 ∧ K S1) ∨ ∃ t es, nilCmp P o S.ev = some (t, es) ∧ ∀ b, (es ≠ [] → b = !t) → K ⟨putT S.tmps o.dst (.d (.raw (.bool b))), S.box, S.tok, S.nt⟩

def AOps (P : Program) (cx : Cx) (ops : Array Oper) : List Oper → AState → (AState → Prop) → Prop
  | [], S, K => K S
  | o :: r, S, K => match o.guard with
    | none => Op1 P cx o S fun S1 => AOps P cx ops r S1 K
    | some (j, want) => match yieldA ops S j with
      | some b => (b = some want → Op1 P cx o S fun S1 => AOps P cx ops r S1 K) ∧ (b ≠ some want → AOps P cx ops r { S with tmps := putT S.tmps o.dst (.tup []) } K)
      | none => False

/-- Boxes are laid ahead of the allocations. -/
def PreB (P : Program) (base : Nat) : List Oper → (Nat → Option (List (List AV))) → ((Nat → Option (List (List AV))) → Prop) → Prop
  | [], b, K => K b
  | o :: r, b, K => match o.op, o.dst with
    | .alloc T, some s => match zeroT P T with
      | some zs => b (base + s) = none ∧ PreB P base r (upd b (base + s) (some [zs.map ofVal1])) K
      | none => False
    | _, _ => PreB P base r b K

def ARegion (P : Program) (cx : Cx) (ops : Array Oper) (draw : Bool) (S : AState) (K : AState → Prop) : Prop :=
  PreB P cx.base ops.toList S.box fun b => match draw with
    | true => ∃ S', ARun P cx.base ops ops.toList { S with box := b } S' ∧ K S'
    | false => AOps P cx ops ops.toList { S with box := b } K

theorem RelM.pre {G : Gh} {m : AMem} {w : World} (h : RelM G m w) {k : Nat} (hk : m.box k = none) (hnb : k < m.nb) (rows : List (List AV)) : RelM G { m with box := upd m.box k (some rows) } w := by
  have hbx := h.nobox k hk
  constructor
  case box =>
    intro j rs b sz hj hb
    by_cases e : j = k
    · subst e; rw [hbx] at hb; cases hb
    · simp only at hj
      rw [upd_other _ _ e] at hj
      exact h.box j rs b sz hj hb
  case nobox =>
    intro j hj
    by_cases e : j = k
    · subst e; exact hbx
    · simp only at hj
      rw [upd_other _ _ e] at hj
      exact h.nobox j hj
  case inj => exact h.inj
  case nb =>
    intro j hj
    simp only at hj ⊢
    rw [upd_other _ _ (by omega)]
    exact h.nb j hj
  case nt => exact h.nt
  case toks => exact h.toks
  case tokb => exact h.tokb
  case tinj => exact h.tinj
  case tnt => exact h.tnt
  case fresh => exact h.fresh

def allocs (base : Nat) (l : List Oper) : List Nat := l.filterMap fun o => match o.op, o.dst with
  | .alloc _, some s => some (base + s)
  | _, _ => none

theorem preB_sound {base n nb : Nat} (hnb : base + n ≤ nb) {K : (Nat → Option (List (List AV))) → Prop} : ∀ (l : List Oper) (b0 : Nat → Option (List (List AV))) {G : Gh} {S : AState} {a : Act} {w : World}, RelS n nb G { S with box := b0 } a w →
    (∀ o ∈ l, ∀ d, o.dst = some d → d < n) → (l.filterMap fun o => match o.op, o.dst with | .alloc _, some s => some (base + s) | _, _ => none).Nodup → PreB P base l b0 K →
    ∃ b, K b ∧ RelS n nb G { S with box := b } a w ∧ (∀ o ∈ l, Pend P base o G b) ∧ ∀ k, k ∉ allocs base l → b k = b0 k
  | [], b0, G, S, a, w, hr, _, _, h => ⟨b0, h, hr, by simp, fun _ _ => rfl⟩
  | o :: l, b0, G, S, a, w, hr, hd, hnd, h => by
    unfold PreB at h
    split at h
    · rename_i T s hop hs
      split at h
      · rename_i zs hz
        obtain ⟨h1, h2⟩ := h
        have hlt : base + s < nb := Nat.lt_of_lt_of_le (Nat.add_lt_add_left (hd o (by simp) s hs) base) hnb
        have hbx := hr.mem.nobox _ h1
        have hr' : RelS n nb G { S with box := upd b0 (base + s) (some [zs.map ofVal1]) } a w := ⟨hr.defers, hr.size, hr.tmps, hr.mem.pre h1 hlt _⟩
        have hnd' := hnd
        simp only [List.filterMap_cons, hop, hs, List.nodup_cons] at hnd'
        obtain ⟨b, k1, k2, k3, k4⟩ := preB_sound hnb l _ hr' (fun o ho => hd o (by simp [ho])) hnd'.2 h2
        have hb : b (base + s) = some [zs.map ofVal1] := by
          rw [k4 _ hnd'.1, upd_same]
        refine ⟨b, k1, k2, fun o' ho' => ?_, fun k hk => ?_⟩
        · rcases List.mem_cons.1 ho' with rfl | ho'
          · unfold Pend
            rw [hop, hs]
            exact ⟨zs, hz, hb, hbx⟩
          · exact k3 o' ho'
        · simp only [allocs, List.filterMap_cons, hop, hs, List.mem_cons, not_or] at hk
          rw [k4 k hk.2, upd_other _ _ hk.1]
      · exact h.elim
    · rename_i hno
      have hnd' : (l.filterMap fun o => match o.op, o.dst with | .alloc _, some s => some (base + s) | _, _ => none).Nodup := by
        rw [List.filterMap_cons] at hnd
        split at hnd
        · exact hnd
        · exact (List.nodup_cons.1 hnd).2
      obtain ⟨b, k1, k2, k3, k4⟩ := preB_sound hnb l b0 hr (fun o ho => hd o (by simp [ho])) hnd' h
      refine ⟨b, k1, k2, fun o' ho' => ?_, fun k hk => ?_⟩
      · rcases List.mem_cons.1 ho' with rfl | ho'
        · unfold Pend
          split
          · rename_i T s g1 g2
            exact absurd g2 (fun e => hno T s g1 e)
          · trivial
        · exact k3 o' ho'
      · refine k4 k fun hk' => hk ?_
        simp only [allocs, List.mem_filterMap] at hk' ⊢
        obtain ⟨x, hx, he⟩ := hk'
        exact ⟨x, List.mem_cons_of_mem _ hx, he⟩

/-- No two allocations, nor an allocation and another operation, write one slot. -/
theorem allocOk_nodup {base : Nat} {ops : Array Oper} (h : allocOk ops = true) : (ops.toList.filterMap fun o => match o.op, o.dst with | .alloc _, some s => some (base + s) | _, _ => none).Nodup := by
  have key : ∀ (l : List Oper) (k : Nat), ops.toList.drop k = l → (l.filterMap fun o => match o.op, o.dst with | .alloc _, some s => some (base + s) | _, _ => none).Nodup := by
    intro l
    induction l with
    | nil => intro k _; simp
    | cons o l ih =>
      intro k hk
      have hl : ops.toList.drop (k + 1) = l := by
        have := congrArg List.tail hk
        simpa [List.tail_drop] using this
      have ho : ops.toList[k]? = some o := by
        have := congrArg (·[0]?) hk
        simpa using this
      have hks : k < ops.size := by
        have := (List.getElem?_eq_some_iff.1 ho).1
        simpa using this
      rw [List.filterMap_cons]
      split
      · exact ih (k + 1) hl
      · rename_i y hy
        refine List.nodup_cons.2 ⟨fun hm => ?_, ih (k + 1) hl⟩
        obtain ⟨o', ho', hy'⟩ := List.mem_filterMap.1 hm
        obtain ⟨j, hj, rfl⟩ := List.getElem_of_mem ho'
        have hjo : ops[k + 1 + j]? = some l[j] := by
          have : ops.toList[k + 1 + j]? = some l[j] := by
            rw [← List.getElem?_drop, hl]
            exact List.getElem?_eq_getElem hj
          simpa using this
        have hjs := (Array.getElem?_eq_some_iff.1 hjo).1
        have ho2 : ops[k]? = some o := by simpa using ho
        have := List.all_eq_true.1 (List.all_eq_true.1 h k (by simpa using hks)) (k + 1 + j) (by simpa using hjs)
        rw [ho2, hjo] at this
        have hne : ¬ k = k + 1 + j := by omega
        split at hy
        · rename_i T s g1 g2
          split at hy'
          · rename_i T' s' g1' g2'
            have : s = s' := Nat.add_left_cancel ((Option.some.inj hy).trans (Option.some.inj hy').symm)
            simp [hne, g1, isAlloc, g2, g2', this] at *
          · cases hy'
        · cases hy
  exact key ops.toList 0 rfl

theorem aops_sound {cx : Cx} {ops : Array Oper} {Q : Exit → Act → World → Prop} {G0 : Gh} {w0 : World} {K : AState → Prop} (hdst : ∀ (o : Oper) d, o ∈ ops → o.dst = some d → d < cx.n) (hnb : cx.base + cx.n ≤ cx.nb) (hal : allocOk ops = true)
    (hQ : ∀ S a' w' G', K S → RelS cx.n cx.nb G' S a' w' → LeC cx G0 w0 G' w' S → Q .normal a' w') : ∀ (l : List Oper) (k : Nat) (S : AState) (a : Act) (w : World) (G : Gh), ops.toList.drop k = l →
    (∀ o ∈ l, Pend P cx.base o G S.box) → RelS cx.n cx.nb G S a w → LeC cx G0 w0 G w S → AOps P cx ops l S K → wpOps P ops Q (List.range' k l.length) a w
  | [], k, S, a, w, G, _, _, hr, hl, h => by
    simp only [List.length_nil, List.range'_zero, wpOps]
    exact hQ S a w G h hr hl
  | o :: l, k, S, a, w, G, hk, hp, hr, hl, h => by
    have hl' : ops.toList.drop (k + 1) = l := by
      have := congrArg List.tail hk
      simpa [List.tail_drop] using this
    have ho : ops[k]? = some o := by
      have := congrArg (·[0]?) hk
      have h1 : ops.toList[k]? = some o := by simpa using this
      simpa using h1
    have hom : o ∈ ops := Array.mem_of_getElem? ho
    have hd' : ∀ d, o.dst = some d → d < cx.n := fun d hd => hdst o d hom hd
    simp only [List.length_cons, List.range'_succ]
    rw [wpOps_cons]
    -- what is left, from a later state on
    have rest : ∀ S1 a1 w1 G1, AOps P cx ops l S1 K → RelS cx.n cx.nb G1 S1 a1 w1 → LeC cx G0 w0 G1 w1 S1 → Kept cx.base o G G1 S.box S1.box → wpOps P ops Q (List.range' (k + 1) l.length) a1 w1 := by
      intro S1 a1 w1 G1 h1 hr1 hl1 hk1
      refine aops_sound hdst hnb hal hQ l (k + 1) S1 a1 w1 G1 hl' (fun o' ho' => ?_) hr1 hl1 h1
      have hpo := hp o' (by simp [ho'])
      unfold Pend at hpo ⊢
      split at hpo
      · rename_i T s hop hds
        obtain ⟨zs, g1, g2, g3⟩ := hpo
        obtain ⟨j, hj, rfl⟩ := List.getElem_of_mem ho'
        have hjo : ops[k + 1 + j]? = some l[j] := by
          have : ops.toList[k + 1 + j]? = some l[j] := by
            rw [← List.getElem?_drop, hl']
            exact List.getElem?_eq_getElem hj
          simpa using this
        have hjs := (Array.getElem?_eq_some_iff.1 hjo).1
        have hks := (Array.getElem?_eq_some_iff.1 ho).1
        have hall := List.all_eq_true.1 (List.all_eq_true.1 hal (k + 1 + j) (by simpa using hjs)) k (by simpa using hks)
        rw [hjo, ho] at hall
        have hne : ¬ k + 1 + j = k := by omega
        have hdne : l[j].dst ≠ o.dst := by
          simp only [Bool.or_eq_true, beq_iff_eq, hne, false_or, hop, isAlloc, Bool.not_true, Bool.false_eq_true] at hall
          simpa using hall
        have := hk1 (cx.base + s) (fun e => hdne (by
          rw [hds]
          cases hod : o.dst with
          | none => rw [hod] at e; cases e
          | some d =>
            rw [hod] at e
            simp only [Option.map_some, Option.some.injEq] at e
            have : s = d := Nat.add_left_cancel e
            rw [this])) g3
        exact ⟨zs, g1, by rw [this.2]; exact g2, this.1⟩
      · trivial
    -- one operation
    have one : Op1 P cx o S (fun S1 => AOps P cx ops l S1 K) → o.wp P a w (wpOps P ops Q (List.range' (k + 1) l.length)) Q := by
      intro h1
      unfold Op1 at h1
      split at h1
      · rename_i fid args hcf
        unfold callFn at hcf
        split at hcf
        · rename_i c hop
          split at hcf
          · rename_i f hcal
            split at hcf
            · rename_i fid' caps hf
              simp only [Option.some.injEq, Prod.mk.injEq] at hcf
              obtain ⟨rfl, rfl⟩ := hcf
              obtain ⟨hen, hc⟩ := h1
              have hfv := hr.ev f
              rw [hf] at hfv
              generalize hv : a.eval f = fv at hfv
              cases hfv with
              | fn hlen hh =>
                rename_i cvs
                have hargs : RVs G w (c.args.toList.map S.ev ++ caps) ((c.args.map a.eval).toList ++ cvs) := by
                  refine RVs.append ⟨by simp, fun i h1 h2 => ?_⟩ ⟨hlen, hh⟩
                  simp only [List.getElem_map, Array.toList_map]
                  exact hr.ev _
                have hcalls := hc G w _ hr.mem hargs
                unfold Oper.wp
                have hexec : (execOp a.eval o).run P w = .ok (.enter fid' ((c.args.map a.eval).toList ++ cvs).toArray) w := by
                  have e : ((c.args.map a.eval).toList ++ cvs).toArray = #[] ++ c.args.map a.eval ++ cvs.toArray := by simp
                  simp only [execOp, hop, resolve, hcal, hv, Deferred.ofValue, Sem.run_bind, Sem.run_pure, Result.andThen_ok, invoke, e]
                  exact hen _ w
                rw [hexec]
                refine Calls.mono hcalls fun e w' ⟨u, av, m', G', g1, g2, g3, g4, g5, g6, g7⟩ => ?_
                subst g1
                have hmm : RelM G' ⟨m'.box, cx.nb, m'.tok, m'.nt⟩ w' := by
                  have : (⟨m'.box, cx.nb, m'.tok, m'.nt⟩ : AMem) = m' := by cases m'; simp at g3; simp [g3]
                  rw [this]; exact g4
                have hr1 := hr.put g6 hd' g5 hmm
                exact rest _ _ _ G' g2 hr1 (hl.step ⟨g6, fun k _ hg => g7 k hg⟩) fun k _ hg => g7 k hg
            · cases hcf
          · cases hcf
        · cases hcf
      · rcases h1 with ⟨S1, hs, h2⟩ | ⟨t, es, hn, h2⟩
        · exact Oper.wp_mono (fun a1 w1 ⟨G1, k1, k2, k3⟩ => rest S1 a1 w1 G1 h2 k1 (hl.step (k3.leK k2)) k3) (step_sound hs hr hd' hnb (hp o (by simp)))
        · obtain ⟨b, hb, hrun⟩ := nil_sound hn (fun _ => rfl) (fun x _ => hr.ev x)
          have haf : After P o a.eval G w fun u G' w' => u = .bool b ∧ G' = G ∧ w' = w := After.pure hrun ⟨rfl, rfl, rfl⟩
          refine haf.wp (n := cx.n) (nb := cx.nb) (S := S) fun u G' w' hle ⟨k1, k2, k3⟩ => ?_
          subst k1; subst k2; subst k3
          have hr1 := hr.put hle hd' (RV.raw (G := G') (w := w') (v := .bool b) rfl) hr.mem
          exact rest _ _ _ G' (h2 b hb) hr1 (hl.step ⟨hle, fun k _ hg => ⟨hg, rfl⟩⟩) fun k _ hg => ⟨hg, rfl⟩
    unfold wpOp
    rw [ho]
    simp only []
    unfold AOps at h
    split at h
    · rename_i hg
      have hw : Region.wanted o (yielded ops a.tmps) = true := by simp [Region.wanted, hg]
      rw [if_pos hw]
      exact .inl (one h)
    · rename_i j want hg
      split at h
      · rename_i b hy
        have hy' := yieldA_spec hr hy (fun o d h1 h2 => hdst o d (Array.mem_of_getElem? h1) h2)
        by_cases e : b = some want
        · have hw : Region.wanted o (yielded ops a.tmps) = true := by simp [Region.wanted, hg, hy', e]
          rw [if_pos hw]
          exact .inl (one (h.1 e))
        · have hw : ¬ Region.wanted o (yielded ops a.tmps) = true := by simp [Region.wanted, hg, hy', e]
          rw [if_neg hw]
          exact rest _ _ _ G (h.2 e) (hr.put (Le.refl G w) hd' RV.undef hr.mem) (hl.step (LeK.refl _ _ _ _)) fun k _ hgk => ⟨hgk, rfl⟩
      · exact h.elim

end Go.AM
