/-
 Parts of the proof, as merged from many texts: a machine over data, what the functions compute, plain laws.
-/
import Derived.Test.YtainalmfffjnjaaGreatDoorPKS2
set_option linter.unusedSimpArgs false
set_option linter.unusedVariables false
namespace Go.AM
open Go
variable {P : Program}
def LeC (cx : Cx) (G0 : Gh) (w0 : World) (G : Gh) (w : World) (S : AState) : Prop := LeB cx.base G0 w0 G w ∧ ∀ k, k < cx.base → G0.bx k = none → S.box k = cx.B0 k
theorem LeC.step {cx : Cx} {G0 G G' : Gh} {w0 w w' : World} {S S' : AState} (h : LeC cx G0 w0 G w S) (k : LeK cx.base G w S.box G' w' S'.box) : LeC cx G0 w0 G' w' S' :=
 ⟨h.1.trans k.leB, fun j hj hg => ((k.2 j hj (by rw [h.1.bx j hj]; exact hg)).2).trans (h.2 j hj hg)⟩
def AT (P : Program) (cx : Cx) (nt0 : Nat) (c : Code) (S : AState) (K : Exit → AState → Prop) : Prop :=
 ∀ G0 w0, Entry cx nt0 G0 → G0.nt ≤ nt0 → ∀ G a w, RelS cx.n cx.nb G S a w → LeC cx G0 w0 G w S →
  c.wp P (fun e a' w' => ∃ S' G', K e S' ∧ RelS cx.n cx.nb G' S' a' w' ∧ LeC cx G0 w0 G' w' S') a w
theorem AT.mono {cx : Cx} {nt0 : Nat} {c : Code} {S : AState} {K K' : Exit → AState → Prop} (h : AT P cx nt0 c S K) (hk : ∀ e S, K e S → K' e S) : AT P cx nt0 c S K' :=
 fun G0 w0 he hn G a w hr hl => wp_mono (h G0 w0 he hn G a w hr hl) fun e a' w' ⟨S', G', h1, h2⟩ => ⟨S', G', hk _ _ h1, h2⟩
theorem AT.weak {cx : Cx} {nt0 : Nat} {c : Code} {S S' : AState} {K : Exit → AState → Prop} {out : Bxs} {loc loc' : List (Nat × List (List AV))} {fz : Option (Nat × Nat × List (List D))}
  (h : Weak cx nt0 out loc loc' fz S S') (k : AT P cx nt0 c S' K) : AT P cx nt0 c S K := by
 intro G0 w0 he hn G a w hr hl
 obtain ⟨G', hr', hl', _⟩ := h.sound he hl.1 hr hn
 exact k G0 w0 he hn G' a w hr' ⟨hl', fun j hj hg => by rw [← hl.2 j hj hg, h.hb', h.hb, lb_out hj, lb_out hj]⟩
def Weaks (cx : Cx) (nt0 : Nat) (S S' : AState) : Prop := ∃ out loc loc' fz, Weak cx nt0 out loc loc' fz S S'
theorem AT.weaks {cx : Cx} {nt0 : Nat} {c : Code} {S S' : AState} {K : Exit → AState → Prop} (h : Weaks cx nt0 S S') (k : AT P cx nt0 c S' K) : AT P cx nt0 c S K := by
 obtain ⟨_, _, _, _, h⟩ := h
 exact AT.weak h k
def callFn (o : Oper) (ρ : Operand → AV) : Option (FuncId × List AV) := match o.op with
 | .call c => match c.callee with
  | .value f => match ρ f with
   | .fn (.func fid) caps => some (fid, c.args.toList.map ρ ++ caps)
   | _ => none
  | _ => none
 | _ => none
def nilCmp (P : Program) (o : Oper) (ρ : Operand → AV) : Option (Bool × List (List D)) := match o.op with
 | .binOp op T x y _ => match elemT P T with
  | some _ => match y with
   | .const (.slice none 0 0) => match ρ x with
    | .d (.raw (.slice none 0 0)) => match op with
     | .eql => some (false, [[]])
     | .neq => some (true, [[]])
     | _ => none
    | xa => match xa.elems? with
     | some (_, es) => match op with
      | .eql => some (true, es)
      | .neq => some (false, es)
      | _ => none
     | none => none
   | _ => none
  | none => none
 | _ => none
theorem run_equalIn_nil (d : Nat) {T E : TypeId} (h : P.underlying T = some (.slice E)) (A : Option Addr) (n c : Nat) (w : World) : (Op.equalIn (d + 1) T (.slice A n c) (.slice none 0 0)).run P w = .ok A.isNone w := by
 cases A <;> simp [Op.equalIn, run_underlying h]
theorem run_eql_nil {T E : TypeId} (h : P.underlying T = some (.slice E)) (A : Option Addr) (n c : Nat) (w : World) : (binOp .eql T (.slice A n c) (.slice none 0 0)).run P w = .ok (.bool A.isNone) w := by
 have := run_equalIn_nil 9999 h A n c w
 simp only [binOp, Op.equal, Op.maxDepth, Sem.run_bind, this, Result.andThen_ok, Sem.run_pure]
theorem run_neq_nil {T E : TypeId} (h : P.underlying T = some (.slice E)) (A : Option Addr) (n c : Nat) (w : World) : (binOp .neq T (.slice A n c) (.slice none 0 0)).run P w = .ok (.bool (!A.isNone)) w := by
 have := run_equalIn_nil 9999 h A n c w
 simp only [binOp, Op.equal, Op.maxDepth, Sem.run_bind, this, Result.andThen_ok, Sem.run_pure]
theorem nil_sound {o : Oper} {ρ : Operand → AV} {ρv : Operand → Value} {G : Gh} {w : World} {t : Bool} {es : List (List D)} (h : nilCmp P o ρ = some (t, es)) (hev : ∀ v, ρv (.const v) = v) (hρ : ∀ x ∈ o.op.operands, RV G w (ρ x) (ρv x)) :
  ∃ b, (es ≠ [] → b = !t) ∧ (execOp ρv o).run P w = .ok (.value (.bool b)) w := by
 unfold nilCmp at h
 split at h
 ·rename_i op T x y T' ho
  split at h
  ·rename_i E hE
   have hu : P.underlying T = some (.slice E) := by
    unfold elemT at hE
    split at hE
    ·cases hE; assumption
    ·cases hE
   split at h
   ·split at h
    ·rename_i hxe
     have hx := hρ x (by rw [ho]; simp [Op.operands])
     rw [hxe] at hx
     generalize hv : ρv x = xv at hx
     cases hx with
     | d hx =>
      cases hx with
      | raw _ =>
       have he : ∀ op x y, (eqGuard op T x y (.slice none 0 0) (.slice none 0 0)).run P w = .ok () w := fun op x y => by cases op <;> rfl
       split at h
       ·cases h
        refine ⟨true, fun _ => rfl, ?_⟩
        simp only [execOp, ho, hv, hev, Sem.run_bind, he, Result.andThen_ok, run_eql_nil hu, Sem.run_pure, Option.isNone_none]
       ·cases h
        refine ⟨false, fun _ => rfl, ?_⟩
        simp only [execOp, ho, hv, hev, Sem.run_bind, he, Result.andThen_ok, run_neq_nil hu, Sem.run_pure, Option.isNone_none, Bool.not_true]
       ·cases h
    ·split at h
     ·rename_i sz es' hel
      have hx := (hρ x (by rw [ho]; simp [Op.operands])).elems hel
      generalize hv : ρv x = xv at hx
      cases hx with
      | sl u hcap hmax hsz hA hc hr =>
       rename_i A cap
       split at h
       ·cases h
        refine ⟨A.isNone, fun hne => ?_, ?_⟩
        ·obtain ⟨a, rfl⟩ := hA hne; rfl
        ·have he : ∀ op x y, (eqGuard op T x y (.slice A es.length cap) (.slice none 0 0)).run P w = .ok () w := fun op x y => by cases op <;> rfl
         simp only [execOp, ho, hv, hev, Sem.run_bind, he, Result.andThen_ok, run_eql_nil hu, Sem.run_pure]
       ·cases h
        refine ⟨!A.isNone, fun hne => ?_, ?_⟩
        ·obtain ⟨a, rfl⟩ := hA hne; rfl
        ·have he : ∀ op x y, (eqGuard op T x y (.slice A es.length cap) (.slice none 0 0)).run P w = .ok () w := fun op x y => by cases op <;> rfl
         simp only [execOp, ho, hv, hev, Sem.run_bind, he, Result.andThen_ok, run_neq_nil hu, Sem.run_pure]
       ·cases h
     ·cases h
   ·cases h
  ·cases h
 ·cases h
def Op1 (P : Program) (cx : Cx) (o : Oper) (S : AState) (K : AState → Prop) : Prop := match callFn o S.ev with
 | some (fid, args) => ACalls P fid args ⟨S.box, cx.nb, S.tok, S.nt⟩ fun v m' => K ⟨putT S.tmps o.dst v, m'.box, m'.tok, m'.nt⟩
 | none => (∃ S1, Step P false cx.base o S S1 ∧ K S1) ∨ ∃ t es, nilCmp P o S.ev = some (t, es) ∧ ∀ b, (es ≠ [] → b = !t) → K ⟨putT S.tmps o.dst (.d (.raw (.bool b))), S.box, S.tok, S.nt⟩
def AOps (P : Program) (cx : Cx) (ops : Array Oper) : List Oper → AState → (AState → Prop) → Prop
 | [], S, K => K S
 | o :: r, S, K => match o.guard with
  | none => Op1 P cx o S fun S1 => AOps P cx ops r S1 K
  | some (j, want) => match yieldA ops S j with
   | some b => (b = some want → Op1 P cx o S fun S1 => AOps P cx ops r S1 K) ∧ (b ≠ some want → AOps P cx ops r { S with tmps := putT S.tmps o.dst (.tup []) } K)
   | none => False
def PreB (P : Program) (base : Nat) : List Oper → (Bxs) → ((Bxs) → Prop) → Prop
 | [], b, K => K b
 | o :: r, b, K => match o.op, o.dst with
  | .alloc T, some s => match zeroT P T with
   | some zs => b (base + s) = none ∧ PreB P base r (upd b (base + s) (some [zrow (base + s) T zs])) K
   | none => False
  | _, _ => PreB P base r b K
def ARegion (P : Program) (cx : Cx) (ops : Array Oper) (draw : Bool) (S : AState) (K : AState → Prop) : Prop :=
 PreB P cx.base ops.toList S.box fun b => match draw with
  | true => ∃ S', ARun P false cx.base ops ops.toList { S with box := b } S' ∧ K S'
  | false => AOps P cx ops ops.toList { S with box := b } K
theorem RelM.pre {G : Gh} {m : AMem} {w : World} (h : RelM G m w) {k : Nat} (hk : m.box k = none) (hnb : k < m.nb) (rows : List (List AV)) : RelM G { m with box := upd m.box k (some rows) } w := by
 have hbx := h.nobox k hk
 constructor
 case box =>
  intro j rs b sz hj hb
  by_cases e : j = k
  ·subst e; rw [hbx] at hb; cases hb
  ·simp only at hj
   rw [upd_other _ _ e] at hj
   exact h.box j rs b sz hj hb
 case nobox =>
  intro j hj
  by_cases e : j = k
  ·subst e; exact hbx
  ·simp only at hj
   rw [upd_other _ _ e] at hj
   exact h.nobox j hj
 case inj => exact h.inj
 case nb =>
  intro j hj
  simp only at hj ⊢
  rw [upd_other _ _ (by omega)]
  exact h.nb j hj
 case nt => exact h.nt
 case toks => exact h.toks
 case tokb => exact h.tokb
 case tinj => exact h.tinj
 case tnt => exact h.tnt
 case fresh => exact h.fresh
def allocs (base : Nat) (l : List Oper) : List Nat := l.filterMap fun o => match o.op, o.dst with
 | .alloc _, some s => some (base + s)
 | _, _ => none
theorem preB_sound {base n nb : Nat} (hnb : base + n ≤ nb) {K : (Bxs) → Prop} : ∀ (l : List Oper) (b0 : Bxs) {G : Gh} {S : AState} {a : Act} {w : World}, RelS n nb G { S with box := b0 } a w →
  (∀ o ∈ l, ∀ d, o.dst = some d → d < n) → (l.filterMap fun o => match o.op, o.dst with | .alloc _, some s => some (base + s) | _, _ => none).Nodup → PreB P base l b0 K →
  ∃ b, K b ∧ RelS n nb G { S with box := b } a w ∧ (∀ o ∈ l, Pend P base o G b) ∧ ∀ k, k ∉ allocs base l → b k = b0 k
 | [], b0, G, S, a, w, hr, _, _, h => ⟨b0, h, hr, by simp, fun _ _ => rfl⟩
 | o :: l, b0, G, S, a, w, hr, hd, hnd, h => by
  unfold PreB at h
  split at h
  ·rename_i T s hop hs
   split at h
   ·rename_i zs hz
    obtain ⟨h1, h2⟩ := h
    have hlt : base + s < nb := Nat.lt_of_lt_of_le (Nat.add_lt_add_left (hd o (by simp) s hs) base) hnb
    have hbx := hr.mem.nobox _ h1
    have hr' : RelS n nb G { S with box := upd b0 (base + s) (some [zrow (base + s) T zs]) } a w := ⟨hr.defers, hr.size, hr.tmps, hr.mem.pre h1 hlt _⟩
    have hnd' := hnd
    simp only [List.filterMap_cons, hop, hs, List.nodup_cons] at hnd'
    obtain ⟨b, k1, k2, k3, k4⟩ := preB_sound hnb l _ hr' (fun o ho => hd o (by simp [ho])) hnd'.2 h2
    have hb : b (base + s) = some [zrow (base + s) T zs] := by
     rw [k4 _ hnd'.1, upd_same]
    refine ⟨b, k1, k2, fun o' ho' => ?_, fun k hk => ?_⟩
    ·rcases List.mem_cons.1 ho' with rfl | ho'
     ·unfold Pend
      rw [hop, hs]
      exact ⟨zs, hz, hb, hbx⟩
     ·exact k3 o' ho'
    ·simp only [allocs, List.filterMap_cons, hop, hs, List.mem_cons, not_or] at hk
     rw [k4 k hk.2, upd_other _ _ hk.1]
   ·exact h.elim
  ·rename_i hno
   have hnd' : (l.filterMap fun o => match o.op, o.dst with | .alloc _, some s => some (base + s) | _, _ => none).Nodup := by
    rw [List.filterMap_cons] at hnd
    split at hnd
    ·exact hnd
    ·exact (List.nodup_cons.1 hnd).2
   obtain ⟨b, k1, k2, k3, k4⟩ := preB_sound hnb l b0 hr (fun o ho => hd o (by simp [ho])) hnd' h
   refine ⟨b, k1, k2, fun o' ho' => ?_, fun k hk => ?_⟩
   ·rcases List.mem_cons.1 ho' with rfl | ho'
    ·unfold Pend
     split
     ·rename_i T s g1 g2
      exact absurd g2 (fun e => hno T s g1 e)
     ·trivial
    ·exact k3 o' ho'
   ·refine k4 k fun hk' => hk ?_
    simp only [allocs, List.mem_filterMap] at hk' ⊢
    obtain ⟨x, hx, he⟩ := hk'
    exact ⟨x, List.mem_cons_of_mem _ hx, he⟩
theorem allocOk_nodup {base : Nat} {ops : Array Oper} (h : allocOk ops = true) : (ops.toList.filterMap fun o => match o.op, o.dst with | .alloc _, some s => some (base + s) | _, _ => none).Nodup := by
 have key : ∀ (l : List Oper) (k : Nat), ops.toList.drop k = l → (l.filterMap fun o => match o.op, o.dst with | .alloc _, some s => some (base + s) | _, _ => none).Nodup := by
  intro l
  induction l with
  | nil => intro k _; simp
  | cons o l ih =>
   intro k hk
   have hl : ops.toList.drop (k + 1) = l := by
    have := congrArg List.tail hk
    simpa [List.tail_drop] using this
   have ho : ops.toList[k]? = some o := by
    have := congrArg (·[0]?) hk
    simpa using this
   have hks : k < ops.size := by
    have := (List.getElem?_eq_some_iff.1 ho).1
    simpa using this
   rw [List.filterMap_cons]
   split
   ·exact ih (k + 1) hl
   ·rename_i y hy
    refine List.nodup_cons.2 ⟨fun hm => ?_, ih (k + 1) hl⟩
    obtain ⟨o', ho', hy'⟩ := List.mem_filterMap.1 hm
    obtain ⟨j, hj, rfl⟩ := List.getElem_of_mem ho'
    have hjo : ops[k + 1 + j]? = some l[j] := by
     have : ops.toList[k + 1 + j]? = some l[j] := by
      rw [← List.getElem?_drop, hl]
      exact List.getElem?_eq_getElem hj
     simpa using this
    have hjs := (Array.getElem?_eq_some_iff.1 hjo).1
    have ho2 : ops[k]? = some o := by simpa using ho
    have := List.all_eq_true.1 (List.all_eq_true.1 h k (by simpa using hks)) (k + 1 + j) (by simpa using hjs)
    rw [ho2, hjo] at this
    have hne : ¬ k = k + 1 + j := by omega
    split at hy
    ·rename_i T s g1 g2
     split at hy'
     ·rename_i T' s' g1' g2'
      have : s = s' := Nat.add_left_cancel ((Option.some.inj hy).trans (Option.some.inj hy').symm)
      simp [hne, g1, isAlloc, g2, g2', this] at *
     ·cases hy'
    ·cases hy
 exact key ops.toList 0 rfl
theorem aops_sound {cx : Cx} {ops : Array Oper} {Q : Exit → Act → World → Prop} {G0 : Gh} {w0 : World} {K : AState → Prop} (hdst : ∀ (o : Oper) d, o ∈ ops → o.dst = some d → d < cx.n) (hnb : cx.base + cx.n ≤ cx.nb) (hal : allocOk ops = true)
  (hQ : ∀ S a' w' G', K S → RelS cx.n cx.nb G' S a' w' → LeC cx G0 w0 G' w' S → Q .normal a' w') : ∀ (l : List Oper) (k : Nat) (S : AState) (a : Act) (w : World) (G : Gh), ops.toList.drop k = l →
  (∀ o ∈ l, Pend P cx.base o G S.box) → RelS cx.n cx.nb G S a w → LeC cx G0 w0 G w S → AOps P cx ops l S K → wpOps P ops Q (List.range' k l.length) a w
 | [], k, S, a, w, G, _, _, hr, hl, h => by
  simp only [List.length_nil, List.range'_zero, wpOps]
  exact hQ S a w G h hr hl
 | o :: l, k, S, a, w, G, hk, hp, hr, hl, h => by
  have hl' : ops.toList.drop (k + 1) = l := by
   have := congrArg List.tail hk
   simpa [List.tail_drop] using this
  have ho : ops[k]? = some o := by
   have := congrArg (·[0]?) hk
   have h1 : ops.toList[k]? = some o := by simpa using this
   simpa using h1
  have hom : o ∈ ops := Array.mem_of_getElem? ho
  have hd' : ∀ d, o.dst = some d → d < cx.n := fun d hd => hdst o d hom hd
  simp only [List.length_cons, List.range'_succ]
  rw [wpOps_cons]
  -- what is left, from a later state on
  have rest : ∀ S1 a1 w1 G1, AOps P cx ops l S1 K → RelS cx.n cx.nb G1 S1 a1 w1 → LeC cx G0 w0 G1 w1 S1 → Kept cx.base o G G1 S.box S1.box → wpOps P ops Q (List.range' (k + 1) l.length) a1 w1 := by
   intro S1 a1 w1 G1 h1 hr1 hl1 hk1
   refine aops_sound hdst hnb hal hQ l (k + 1) S1 a1 w1 G1 hl' (fun o' ho' => ?_) hr1 hl1 h1
   have hpo := hp o' (by simp [ho'])
   unfold Pend at hpo ⊢
   split at hpo
   ·rename_i T s hop hds
    obtain ⟨zs, g1, g2, g3⟩ := hpo
    obtain ⟨j, hj, rfl⟩ := List.getElem_of_mem ho'
    have hjo : ops[k + 1 + j]? = some l[j] := by
     have : ops.toList[k + 1 + j]? = some l[j] := by
      rw [← List.getElem?_drop, hl']
      exact List.getElem?_eq_getElem hj
     simpa using this
    have hjs := (Array.getElem?_eq_some_iff.1 hjo).1
    have hks := (Array.getElem?_eq_some_iff.1 ho).1
    have hall := List.all_eq_true.1 (List.all_eq_true.1 hal (k + 1 + j) (by simpa using hjs)) k (by simpa using hks)
    rw [hjo, ho] at hall
    have hne : ¬ k + 1 + j = k := by omega
    have hdne : l[j].dst ≠ o.dst := by
     simp only [Bool.or_eq_true, beq_iff_eq, hne, false_or, hop, isAlloc, Bool.not_true, Bool.false_eq_true] at hall
     simpa using hall
    have := hk1 (cx.base + s) (fun e => hdne (by
     rw [hds]
     cases hod : o.dst with
     | none => rw [hod] at e; cases e
     | some d =>
      rw [hod] at e
      simp only [Option.map_some, Option.some.injEq] at e
      have : s = d := Nat.add_left_cancel e
      rw [this])) g3
    exact ⟨zs, g1, by rw [this.2]; exact g2, this.1⟩
   ·trivial
  -- one operation
  have one : Op1 P cx o S (fun S1 => AOps P cx ops l S1 K) → o.wp P a w (wpOps P ops Q (List.range' (k + 1) l.length)) Q := by
   intro h1
   unfold Op1 at h1
   split at h1
   ·rename_i fid args hcf
    unfold callFn at hcf
    split at hcf
    ·rename_i c hop
     split at hcf
     ·rename_i f hcal
      split at hcf
      ·rename_i fid' caps hf
       simp only [Option.some.injEq, Prod.mk.injEq] at hcf
       obtain ⟨rfl, rfl⟩ := hcf
       obtain ⟨hen, hc⟩ := h1
       have hfv := hr.ev f
       rw [hf] at hfv
       generalize hv : a.eval f = fv at hfv
       cases hfv with
       | fn hlen hh =>
        rename_i cvs
        have hargs : RVs G w (c.args.toList.map S.ev ++ caps) ((c.args.map a.eval).toList ++ cvs) := by
         refine RVs.append ⟨by simp, fun i h1 h2 => ?_⟩ ⟨hlen, hh⟩
         simp only [List.getElem_map, Array.toList_map]
         exact hr.ev _
        have hcalls := hc G w _ hr.mem hargs
        unfold Oper.wp
        have hexec : (execOp a.eval o).run P w = .ok (.enter fid' ((c.args.map a.eval).toList ++ cvs).toArray) w := by
         have e : ((c.args.map a.eval).toList ++ cvs).toArray = #[] ++ c.args.map a.eval ++ cvs.toArray := by simp
         simp only [execOp, hop, resolve, hcal, hv, Deferred.ofValue, Sem.run_bind, Sem.run_pure, Result.andThen_ok, invoke, e]
         exact hen _ w
        rw [hexec]
        refine Calls.mono hcalls fun e w' ⟨u, av, m', G', g1, g2, g3, g4, g5, g6, g7⟩ => ?_
        subst g1
        have hmm : RelM G' ⟨m'.box, cx.nb, m'.tok, m'.nt⟩ w' := by
         have : (⟨m'.box, cx.nb, m'.tok, m'.nt⟩ : AMem) = m' := by cases m'; simp at g3; simp [g3]
         rw [this]; exact g4
        have hr1 := hr.put g6 hd' g5 hmm
        exact rest _ _ _ G' g2 hr1 (hl.step ⟨g6, fun k _ hg => g7 k hg⟩) fun k _ hg => g7 k hg
      ·cases hcf
     ·cases hcf
    ·cases hcf
   ·rcases h1 with ⟨S1, hs, h2⟩ | ⟨t, es, hn, h2⟩
    ·exact Oper.wp_mono (fun a1 w1 ⟨G1, k1, k2, k3⟩ => rest S1 a1 w1 G1 h2 k1 (hl.step (k3.leK k2)) k3) (step_sound hs hr hd' hnb (hp o (by simp)))
    ·obtain ⟨b, hb, hrun⟩ := nil_sound hn (fun _ => rfl) (fun x _ => hr.ev x)
     have haf : After P o a.eval G w fun u G' w' => u = .bool b ∧ G' = G ∧ w' = w := After.pure hrun ⟨rfl, rfl, rfl⟩
     refine haf.wp (n := cx.n) (nb := cx.nb) (S := S) fun u G' w' hle ⟨k1, k2, k3⟩ => ?_
     subst k1; subst k2; subst k3
     have hr1 := hr.put hle hd' (RV.raw (G := G') (w := w') (v := .bool b) rfl) hr.mem
     exact rest _ _ _ G' (h2 b hb) hr1 (hl.step ⟨hle, fun k _ hg => ⟨hg, rfl⟩⟩) fun k _ hg => ⟨hg, rfl⟩
  unfold wpOp
  rw [ho]
  simp only []
  unfold AOps at h
  split at h
  ·rename_i hg
   have hw : Region.wanted o (yielded ops a.tmps) = true := by simp [Region.wanted, hg]
   rw [if_pos hw]
   exact .inl (one h)
  ·rename_i j want hg
   split at h
   ·rename_i b hy
    have hy' := yieldA_spec hr hy (fun o d h1 h2 => hdst o d (Array.mem_of_getElem? h1) h2)
    by_cases e : b = some want
    ·have hw : Region.wanted o (yielded ops a.tmps) = true := by simp [Region.wanted, hg, hy', e]
     rw [if_pos hw]
     exact .inl (one (h.1 e))
    ·have hw : ¬ Region.wanted o (yielded ops a.tmps) = true := by simp [Region.wanted, hg, hy', e]
     rw [if_neg hw]
     exact rest _ _ _ G (h.2 e) (hr.put (Le.refl G w) hd' RV.undef hr.mem) (hl.step (LeK.refl _ _ _ _)) fun k _ hgk => ⟨hgk, rfl⟩
   ·exact h.elim
end Go.AM
namespace Go.AM
open Go
variable {P : Program}
theorem RelS.drew {n nb : Nat} {G : Gh} {S : AState} {a : Act} {w : World} (h : RelS n nb G S a w) : RelS n nb G S a w.drew :=
 ⟨h.defers, h.size, fun t => (h.tmps t).mono Le.drew, h.mem.drew⟩
theorem dstOk_spec {n : Nat} {ops : Array Oper} (h : dstOk n ops = true) : ∀ (o : Oper) d, o ∈ ops → o.dst = some d → d < n := by
 intro o d ho hod
 have := List.all_eq_true.1 h o (by simpa using ho)
 rw [hod] at this
 simpa using this
def regionOk (n : Nat) (ops : Array Oper) (draw : Bool) : Bool := allocOk ops && dstOk n ops && (!draw || regOk ops)
theorem AT.region {cx : Cx} {nt0 id : Nat} {ops : Array Oper} {draw : Bool} {S : AState} {K : Exit → AState → Prop} (hf : P.follows .mixedOrders = true) (hnb : cx.base + cx.n ≤ cx.nb) (hok : regionOk cx.n ops draw = true)
  (h : ARegion P cx ops draw S (K .normal)) : AT P cx nt0 (.region id ops draw) S K := by
 simp only [regionOk, Bool.and_eq_true, Bool.or_eq_true, Bool.not_eq_true'] at hok
 obtain ⟨⟨hal, hdst⟩, hreg⟩ := hok
 intro G0 w0 he hn G a w hr hl
 have hd := dstOk_spec hdst
 obtain ⟨b, hb, hr1, hp, hkeep⟩ := preB_sound hnb ops.toList S.box (S := S) hr (fun o ho d hod => hd o d (by simpa using ho) hod) (allocOk_nodup hal) h
 have hl1 : LeC cx G0 w0 G w { S with box := b } := ⟨hl.1, fun k hk hg => by
  rw [← hl.2 k hk hg]
  refine hkeep k fun hm => ?_
  obtain ⟨o, ho, he⟩ := List.mem_filterMap.1 hm
  split at he
  ·rename_i T s h1 h2
   simp only [Option.some.injEq] at he
   subst he
   exact absurd hk (by simp)
  ·cases he⟩
 cases draw with
 | false =>
  simp only at hb
  refine wp_region ?_
  have := aops_sound (cx := cx) (Q := fun e a' w' => ∃ S' G', K e S' ∧ RelS cx.n cx.nb G' S' a' w' ∧ LeC cx G0 w0 G' w' S') (K := K .normal) (G0 := G0) (w0 := w0) hd hnb hal (fun S' a' w' G' h1 h2 h3 => ⟨S', G', h1, h2, h3⟩) ops.toList 0 { S with box := b } a w G (by simp) hp hr1 hl1 hb
  simpa [List.range_eq_range'] using this
 | true =>
  simp only at hb
  obtain ⟨S', hrun, hK⟩ := hb
  refine wp_region_any hf ?_
  have hreg' : regOk ops = true := by simpa using hreg
  have hrd : RelS cx.n cx.nb G { S with box := b } a w.drew := hr1.drew
  have hld : LeC cx G0 w0 G w.drew { S with box := b } := hl1.step ⟨Le.drew, fun k _ hg => ⟨hg, rfl⟩⟩
  refine any_sound (n := cx.n) (nb := cx.nb) (base := cx.base) (Sf := S') (G0 := G) (w0 := w.drew) (b0 := b) hreg' hal hdst hnb (fun a' w' G' h1 h2 => ⟨S', G', hK, h1, hld.step h2⟩) ops.size (Array.replicate ops.size false) (List.range ops.size) { S with box := b } a w.drew G (by simp) ?_ (by simp) ?_ (IRun.of_all hrun) hrd ?_ (LeK.refl _ _ _ _)
  ·rw [List.filter_eq_self.2]
   intro i hi
   simp at hi
   simp [Array.getD, hi]
  ·intro i o ho hlst
   have hi := (Array.getElem?_eq_some_iff.1 ho).1
   simp [Array.getD, hi] at hlst
  ·intro i _ o ho
   exact hp o (by simpa using Array.mem_of_getElem? ho)
theorem AT.region2 {cx : Cx} {nt0 id : Nat} {ops : Array Oper} {S : AState} {K : Exit → AState → Prop} (hf : P.follows .mixedOrders = true) (hnb : cx.base + cx.n ≤ cx.nb) (hok : (allocOk ops && dstOk cx.n ops && regOk2 ops) = true) (hside : Side ops S)
  (h : ARegion P cx ops true S (fun S' => Far S' (ptrs ops.toList) ∧ K .normal S')) : AT P cx nt0 (.region id ops true) S K := by
 simp only [Bool.and_eq_true] at hok
 obtain ⟨⟨hal, hdst⟩, hreg⟩ := hok
 intro G0 w0 he hn G a w hr hl
 have hd := dstOk_spec hdst
 obtain ⟨b, hb, hr1, hp, hkeep⟩ := preB_sound hnb ops.toList S.box (S := S) hr (fun o ho d hod => hd o d (by simpa using ho) hod) (allocOk_nodup hal) h
 have hl1 : LeC cx G0 w0 G w { S with box := b } := ⟨hl.1, fun k hk hg => by
  rw [← hl.2 k hk hg]
  refine hkeep k fun hm => ?_
  obtain ⟨o, ho, he⟩ := List.mem_filterMap.1 hm
  split at he
  ·rename_i T s h1 h2
   simp only [Option.some.injEq] at he
   subst he
   exact absurd hk (by simp)
  ·cases he⟩
 simp only at hb
 obtain ⟨S', hrun, hfar, hK⟩ := hb
 refine wp_region_any hf ?_
 have hrd : RelS cx.n cx.nb G { S with box := b } a w.drew := hr1.drew
 have hld : LeC cx G0 w0 G w.drew { S with box := b } := hl1.step ⟨Le.drew, fun k _ hg => ⟨hg, rfl⟩⟩
 refine any_sound2 (n := cx.n) (nb := cx.nb) (base := cx.base) (Sf := S') (G0 := G) (w0 := w.drew) (b0 := b) hreg hal hdst hnb hfar (fun a' w' G' h1 h2 => ⟨S', G', hK, h1, hld.step h2⟩) ops.size (Array.replicate ops.size false) (List.range ops.size) { S with box := b } a w.drew G rfl hside (by simp) ?_ (by simp) ?_ (IRun.of_all hrun) hrd ?_ (LeK.refl _ _ _ _)
 ·rw [List.filter_eq_self.2]
  intro i hi
  simp at hi
  simp [Array.getD, hi]
 ·intro i o ho hlst
  have hi := (Array.getElem?_eq_some_iff.1 ho).1
  simp [Array.getD, hi] at hlst
 ·intro i _ o ho
  exact hp o (by simpa using Array.mem_of_getElem? ho)
def awp (P : Program) (cx : Cx) (nt0 : Nat) : Code → AState → (Exit → AState → Prop) → Prop
 | .skip, S, K => K .normal S
 | .region _ ops draw, S, K => ARegion P cx ops draw S (K .normal)
 | .seq a b, S, K => awp P cx nt0 a S fun e S' => match e with
  | .normal => awp P cx nt0 b S' K
  | e => K e S'
 | .cond c a b, S, K => match S.ev c with
  | .d (.raw (.bool t)) => (t = true → awp P cx nt0 a S K) ∧ (t = false → awp P cx nt0 b S K)
  | _ => False
 | .block id c, S, K => awp P cx nt0 c S fun e S' => match e with
  | .exit j => if j = id then K .normal S' else K (.exit j) S'
  | e => K e S'
 | .loop c, S, K => AT P cx nt0 (.loop c) S K
 | .exit id, S, K => K (.exit id) S
 | .ret, S, K => K .ret S
 | _, _, _ => False
theorem exists_least {p : Nat → Prop} (h : ∃ n, p n) : ∃ n, p n ∧ ∀ m, p m → n ≤ m := by
 obtain ⟨n, hn⟩ := h
 induction n using Nat.strongRecOn with
 | ind n ih =>
  by_cases hm : ∃ m, m < n ∧ p m
  ·obtain ⟨m, hmn, hp⟩ := hm
   exact ih m hmn hp
  ·exact ⟨n, hn, fun m hp => by
    rcases Nat.lt_or_ge m n with h | h
    ·exact absurd ⟨m, h, hp⟩ hm
    ·exact h⟩
theorem AT.loop {cx : Cx} {nt0 : Nat} {c : Code} {S : AState} {K : Exit → AState → Prop} (I : Nat → AState → Prop) (h0 : ∃ n S0, Weaks cx nt0 S S0 ∧ I n S0)
  (hstep : ∀ n S, I n S → AT P cx nt0 c S fun e S' => match e with
   | .normal => ∃ m S'', m < n ∧ Weaks cx nt0 S' S'' ∧ I m S''
   | e => K e S') : AT P cx nt0 (.loop c) S K := by
 classical
 obtain ⟨n0, S0, hw, hI⟩ := h0
 refine AT.weaks hw ?_
 intro G0 w0 he hn G a w hr hl
 let good : Act → World → Nat → Prop := fun a w n => ∃ S G, I n S ∧ RelS cx.n cx.nb G S a w ∧ LeC cx G0 w0 G w S
 refine wp_loop (fun a w => ∃ n, good a w n) (fun a w => if h : ∃ n, good a w n then Classical.choose (exists_least h) else 0) ⟨n0, S0, G, hI, hr, hl⟩ ?_
 intro a w hg
 obtain ⟨hc1, hc2⟩ := Classical.choose_spec (exists_least hg)
 have hmu : (if h : ∃ n, good a w n then Classical.choose (exists_least h) else 0) = Classical.choose (exists_least hg) := by rw [dif_pos hg]
 obtain ⟨S1, G1, hI1, hr1, hl1⟩ := hc1
 refine wp_mono (hstep _ S1 hI1 G0 w0 he hn G1 a w hr1 hl1) ?_
 rintro e a' w' ⟨S', G', h1, h2, h3⟩
 cases e with
 | normal =>
  obtain ⟨m, S'', hlt, ⟨out, loc, loc', fz, hwk⟩, hIm⟩ := h1
  obtain ⟨G'', hr'', hl'', _⟩ := hwk.sound he h3.1 h2 hn
  have hgood : good a' w' m := ⟨S'', G'', hIm, hr'', hl'', fun j hj hg => by rw [← h3.2 j hj hg, hwk.hb', hwk.hb, lb_out hj, lb_out hj]⟩
  refine ⟨⟨m, hgood⟩, ?_⟩
  have hex : ∃ n, good a' w' n := ⟨m, hgood⟩
  show (if h : ∃ n, good a' w' n then Classical.choose (exists_least h) else 0) < (if h : ∃ n, good a w n then Classical.choose (exists_least h) else 0)
  rw [dif_pos hex, dif_pos hg]
  exact Nat.lt_of_le_of_lt ((Classical.choose_spec (exists_least hex)).2 m hgood) hlt
 | _ => exact ⟨S', G', h1, h2, h3⟩
def resA (P : Program) (S : AState) : ResultVar → Option AV
 | .tmp t => some (S.tmps t)
 | .cell a T => match aggT P T, szOf P T, S.tmps a with
  | some ag, some n, .ptr k i off => match S.box k with
   | some rows => match rows[i]? with
    | some r => loadA ag n r off
    | none => none
   | none => none
  | _, _, _ => none
def resAs (P : Program) (S : AState) : List ResultVar → Option (List AV)
 | [] => some []
 | r :: rs => match resA P S r, resAs P S rs with
  | some v, some vs => some (v :: vs)
  | _, _ => none
def packA : List AV → AV
 | [v] => v
 | vs => .tup vs
def Fin (P : Program) (cx : Cx) (nt0 : Nat) (rs : List ResultVar) (Q : AV → AMem → Prop) (S : AState) : Prop :=
 ∃ vs out loc fz av' m', resAs P S rs = some vs ∧ Weak cx nt0 out loc [] fz S ⟨fun _ => .bot, lb cx.base out [], m'.tok, m'.nt⟩ ∧ m'.box = lb cx.base out [] ∧ m'.nb = cx.base ∧
  To (fun k => lb cx.base out [] k ≠ none) (fun t => m'.nt = S.nt ∨ t < m'.nt) (fz.map fun x => (cx.base + x.1, x.2)) (packA vs) av' ∧ Q av' m'
theorem resA_sound {n nb : Nat} {G : Gh} {S : AState} {a : Act} {w : World} (hr : RelS n nb G S a w) {r : ResultVar} {v : AV} (h : resA P S r = some v) :
  ∃ u, ((match r with | .tmp t => pure (a.tmps.getD t undef) | .cell x T => do loadVar T (← asAddr (a.tmps.getD x undef))) : Sem Value).run P w = .ok u w ∧ RV G w v u := by
 cases r with
 | tmp t =>
  simp only [resA, Option.some.injEq] at h
  subst h
  exact ⟨_, rfl, hr.tmps t⟩
 | cell x T =>
  -- a load by the name
  have hE : EffR P { dst := none, op := .load T (.tmp x), type := T, pos := "", after := #[], guard := none } S.ev S.box v := by
   unfold EffR
   simp only [resA] at h
   simp only [AState.ev]
   cases h1 : aggT P T with
   | none => rw [h1] at h; cases h
   | some ag =>
    cases h2 : szOf P T with
    | none => rw [h1, h2] at h; cases h
    | some n =>
     rw [h1, h2] at h
     cases h3 : S.tmps x with
     | ptr k i off =>
      rw [h3] at h
      simp only at h ⊢
      cases h4 : S.box k with
      | none => rw [h4] at h; cases h
      | some rows =>
       rw [h4] at h
       simp only at h ⊢
       cases h5 : rows[i]? with
       | none => rw [h5] at h; cases h
       | some r => rw [h5] at h; exact h
     | _ => rw [h3] at h; cases h
  obtain ⟨u, h1, h2⟩ := effR_sound (ρv := a.eval) hE (fun y _ => hr.ev y) hr.mem
  refine ⟨u, ?_, h2⟩
  simp only [execOp, Instr.loadAt, Act.eval] at h1
  cases hp : a.tmps.getD x undef with
  | pointer q =>
   cases q with
   | none => rw [hp] at h1; simp [Instr.sureAddr, stuck, Sem.run] at h1
   | some q =>
    rw [hp] at h1
    simp only [hp, Instr.sureAddr, asAddr, Sem.run_bind, Sem.run_pure, Result.andThen_ok] at h1 ⊢
    cases hv : (loadVar T q).run P w with
    | ok u' w' => rw [hv] at h1; simp at h1; rw [h1.1, h1.2]
    | halt hh w' => rw [hv] at h1; simp at h1
  | _ => rw [hp] at h1; simp [Instr.sureAddr, stuck, Sem.run] at h1
theorem results_sound {n nb : Nat} {G : Gh} {S : AState} {a : Act} {w : World} (hr : RelS n nb G S a w) {fn : Func} {vs : List AV} (h : resAs P S fn.results.toList = some vs) : ∃ u, (results fn a.tmps).run P w = .ok u w ∧ RV G w (packA vs) u := by
 have key : ∀ (rs : List ResultVar) (vs : List AV), resAs P S rs = some vs → ∃ us, (rs.mapM (m := Sem) fun
   | .tmp t => pure (a.tmps.getD t undef)
   | .cell x T => do loadVar T (← asAddr (a.tmps.getD x undef))).run P w = .ok us w ∧ RVs G w vs us := by
  intro rs
  induction rs with
  | nil =>
   intro vs h
   simp only [resAs, Option.some.injEq] at h
   subst h
   exact ⟨[], rfl, RVs.nil⟩
  | cons r rs ih =>
   intro vs h
   simp only [resAs] at h
   split at h
   ·rename_i v vs' h1 h2
    simp only [Option.some.injEq] at h
    subst h
    obtain ⟨u, g1, g2⟩ := resA_sound hr h1
    obtain ⟨us, g3, g4⟩ := ih vs' h2
    refine ⟨u :: us, ?_, g4.cons g2⟩
    rw [List.mapM_cons]
    simp only [Sem.run_bind, Sem.run_pure]
    rw [g1]
    simp only [Result.andThen_ok, g3, Sem.run_pure]
   ·cases h
 obtain ⟨us, h1, h2⟩ := key fn.results.toList vs h
 have hrun : (results fn a.tmps).run P w = .ok (if h : us.toArray.size = 1 then us.toArray[0] else .tuple us.toArray) w := by
  unfold results
  rw [Array.mapM_eq_mapM_toList]
  simp only [map_eq_pure_bind, Sem.run_bind]
  erw [h1]
  simp only [Result.andThen_ok, Sem.run_pure]
 refine ⟨_, hrun, ?_⟩
 have hl := h2.1
 match vs, us, h2, hl with
 | [], [], h2, _ => exact .tup rfl h2.2
 | [v], [u], h2, _ => exact h2.2 0 (by simp) (by simp)
 | v1 :: v2 :: vs, u1 :: u2 :: us, h2, _ =>
  have : ¬ (u1 :: u2 :: us).toArray.size = 1 := by simp
  rw [dif_neg this]
  exact .tup h2.1 h2.2
def tlArgs (k : Nat) : List AV → List (Nat × AV)
 | [] => []
 | a :: r => (k, a) :: tlArgs (k + 1) r
theorem tl_tlArgs : ∀ (l : List AV) (k t : Nat), tl (tlArgs k l) t = if k ≤ t then l.getD (t - k) .bot else .bot
 | [], k, t => by simp [tlArgs, tl]
 | a :: l, k, t => by
  simp only [tlArgs, tl, tl_tlArgs l (k + 1) t]
  by_cases h : t = k
  ·subst h; simp
  ·by_cases h2 : k ≤ t
   ·have h3 : k + 1 ≤ t := by omega
    have h4 : t - k = (t - (k + 1)) + 1 := by omega
    simp [h, h2, h3, h4]
   ·have h3 : ¬ k + 1 ≤ t := by omega
    simp [h, h2, h3]
theorem ACalls.of_body {f : FuncId} {fn : Func} {c : Code} {args : List AV} {m : AMem} {Q : AV → AMem → Prop} (hfn : P.funcs[f]? = some fn) (hb : fn.body = some c) (hname : (fn.name == "runtime.NumGoroutine") = false)
  (hf : P.follows .mixedOrders = true) (_hok : true = true) (hn : args.length ≤ fn.ntmps)
  (h : lb m.nb m.box [] = m.box → (∀ t, m.tok t = true → t < m.nt) → AT P ⟨m.nb, m.nb + fn.ntmps, fn.ntmps, m.box⟩ m.nt c ⟨tl (tlArgs 0 args), lb m.nb m.box [], m.tok, m.nt⟩
   fun e S => (e = .normal ∨ e = .ret) ∧ Fin P ⟨m.nb, m.nb + fn.ntmps, fn.ntmps, m.box⟩ m.nt fn.results.toList Q S) : ACalls P f args m Q := by
 refine ⟨Enters.mk hfn (by rw [hb]; rfl) hname, fun G w vals hm hr => ?_⟩
 have hbox : lb m.nb m.box [] = m.box := by
  funext k
  simp only [lb, lk]
  split
  ·rfl
  ·rename_i hk
   exact (hm.nb k (by omega)).symm
 have hat := h hbox (fun t ht => (hm.toks t ht).1)
 refine calls_of_wp hfn hb ?_
 let cx : Cx := ⟨m.nb, m.nb + fn.ntmps, fn.ntmps, m.box⟩
 have hE : Entry cx m.nt G := by
  intro k rows hk hrows hg r hrm x hxm
  cases hgk : G.bx k with
  | none => exact absurd hgk hg
  | some y =>
   obtain ⟨b, sz⟩ := y
   obtain ⟨_, cs, e, _, _, hR, _⟩ := hm.box k rows b sz hrows hgk
   have hxf : x ∈ rows.flatten := List.mem_flatten.2 ⟨r, hrm, hxm⟩
   obtain ⟨i, hi, rfl⟩ := List.getElem_of_mem hxf
   refine (hR.2 i hi (by rw [← hR.1]; exact hi)).ok (fun k' y' hk' => ?_) (fun t ht => by rw [← hm.nt]; exact ht)
   rcases Nat.lt_or_ge k' m.nb with h1 | h1
   ·exact h1
   ·rw [hm.nobox k' (hm.nb k' h1)] at hk'; cases hk'
 have hS : RelS cx.n cx.nb G ⟨tl (tlArgs 0 args), lb m.nb m.box [], m.tok, m.nt⟩ { tmps := vals.toArray ++ Array.replicate (fn.ntmps - vals.toArray.size) undef, defers := [] } w := by
  refine ⟨rfl, ?_, fun t => ?_, ?_⟩
  ·have := hr.1
   simp
   show _ = fn.ntmps
   omega
  ·show RV G w (tl (tlArgs 0 args) t) _
   rw [tl_tlArgs]
   simp only [Nat.zero_le, ↓reduceIte, Nat.sub_zero]
   by_cases ht : t < args.length
   ·have ht' : t < vals.length := by rw [← hr.1]; exact ht
    have h1 : args.getD t .bot = args[t] := by simp [ht]
    have h2 : (vals.toArray ++ Array.replicate (fn.ntmps - vals.toArray.size) undef).getD t undef = vals[t] := by
     simp only [Array.getD_eq_getD_getElem?]
     rw [Array.getElem?_append_left (by simpa using ht')]
     simp [ht']
    rw [h1, h2]
    exact hr.2 t ht ht'
   ·have h1 : args.getD t .bot = .bot := by simp [ht]
    rw [h1]
    exact .bot
  ·rw [hbox]
   constructor
   case box => exact hm.box
   case nobox => exact hm.nobox
   case inj => exact hm.inj
   case nb => intro k hk; exact hm.nb k (by simp only [cx] at hk; omega)
   case nt => exact hm.nt
   case toks => exact hm.toks
   case tokb => exact hm.tokb
   case tinj => exact hm.tinj
   case tnt => exact hm.tnt
   case fresh => exact hm.fresh
 have hL : LeC cx G w G w ⟨tl (tlArgs 0 args), lb m.nb m.box [], m.tok, m.nt⟩ := ⟨LeB.refl _ _ _, fun k hk _ => by
  show lb m.nb m.box [] k = m.box k
  rw [hbox]⟩
 refine wp_mono (hat G w hE (by rw [hm.nt]; exact Nat.le_refl _) G _ w hS hL) ?_
 rintro e a' w' ⟨S', G', ⟨he, hfin⟩, hr', hl'⟩
 obtain ⟨vs, out, loc, fz, av', m', g1, g2, g3, g4, g5, g6⟩ := hfin
 obtain ⟨u, hu, hru⟩ := results_sound hr' g1
 obtain ⟨G'', hr'', hl'', hto⟩ := g2.sound hE hl'.1 hr' (by rw [hm.nt]; exact Nat.le_refl _)
 have hfin2 : a'.defers = [] ∧ ∃ v, (results fn a'.tmps).run P w' = .ok v w' ∧ ∃ v_1 av m' G', Ending.returned v = .returned v_1 ∧ Q av m' ∧ m'.nb = m.nb ∧ RelM G' m' w' ∧ RV G' w' av v_1 ∧ Le G w G' w' ∧ ∀ k, G.bx k = none → G'.bx k = none ∧ m'.box k = m.box k := by
  refine ⟨hr'.defers, u, hu, u, av', m', G'', rfl, g6, g4, ?_, hto hru g5, ?_, ?_⟩
  ·have hm'' := hr''.mem
   simp only at hm''
   constructor
   case box => intro k rows b sz hk hb; exact hm''.box k rows b sz (by rw [← g3]; exact hk) hb
   case nobox => intro k hk; exact hm''.nobox k (by rw [← g3]; exact hk)
   case inj => exact hm''.inj
   case nb =>
    intro k hk
    rw [g3]
    have : ¬ k < m.nb := by
     have : m'.nb = m.nb := g4
     omega
    simp [lb, lk, this]
   case nt => exact hm''.nt
   case toks => exact hm''.toks
   case tokb => exact hm''.tokb
   case tinj => exact hm''.tinj
   case tnt => exact hm''.tnt
   case fresh => exact hm''.fresh
  ·refine ⟨hl''.os, hl''.tape, hl''.output, hl''.size, hl''.whole, hl''.part, fun k x hx => ?_, hl''.nt, hl''.tk, hl''.ty⟩
   have hk : k < cx.base := by
    rcases Nat.lt_or_ge k m.nb with h1 | h1
    ·exact h1
    ·rw [hm.nobox k (hm.nb k h1)] at hx; cases hx
   rw [hl''.bx k hk]
   exact hx
  ·intro k hk
   rcases Nat.lt_or_ge k cx.base with h1 | h1
   ·refine ⟨by rw [hl''.bx k h1]; exact hk, ?_⟩
    have e1 := hl'.2 k h1 hk
    rw [g3, lb_out h1]
    rw [g2.hb, lb_out h1] at e1
    exact e1
   ·have hn' : m'.box k = none := by
     rw [g3]
     have : ¬ k < m.nb := by simp only [cx] at h1; omega
     simp [lb, lk, this]
    exact ⟨hr''.mem.nobox k (by simp only; rw [← g3]; exact hn'), by rw [hn', hm.nb k h1]⟩
 rcases he with rfl | rfl
 ·exact hfin2
 ·exact hfin2
end Go.AM
namespace Go.AM
open Go
variable {P : Program}
theorem binOK_iff {op : BinOp} {T : TypeId} {a b r0 : Value} (h0 : r0.oneCell' = true) (h : ∀ x y w, Sem.run P (do eqGuard op T x y a b; binOp op T a b) w = .ok r0 w) (r : Value) : BinOK P op T a b r ↔ r = r0 := by
 constructor
 ·intro hb
  have := hb.2 (.const a) (.const b) default
  rw [h] at this
  injection this with h1 _
  exact h1.symm
 ·rintro rfl
  exact ⟨h0, h⟩
theorem unOK_iff {op : UnOp} {a r0 : Value} (h0 : r0.oneCell' = true) (h : ∀ w, Sem.run P (Op.unary op a) w = .ok r0 w) (r : Value) : UnOK P op a r ↔ r = r0 := by
 constructor
 ·intro hb
  have := hb.2 default
  rw [h] at this
  injection this with h1 _
  exact h1.symm
 ·rintro rfl
  exact ⟨h0, h⟩
section
variable (T : TypeId) (k : IntKind) (a b : Int) (r : Value)
@[simp] theorem bin_lss : BinOK P .lss T (.int k a) (.int k b) r ↔ r = .bool (decide (a < b)) := binOK_iff rfl (fun _ _ _ => by simp [binOp, Op.intCmp, eqGuard]) r
@[simp] theorem bin_leq : BinOK P .leq T (.int k a) (.int k b) r ↔ r = .bool (decide (a ≤ b)) := binOK_iff rfl (fun _ _ _ => by simp [binOp, Op.intCmp, eqGuard]) r
@[simp] theorem bin_gtr : BinOK P .gtr T (.int k a) (.int k b) r ↔ r = .bool (decide (b < a)) := binOK_iff rfl (fun _ _ _ => by simp [binOp, Op.intCmp, eqGuard]) r
@[simp] theorem bin_geq : BinOK P .geq T (.int k a) (.int k b) r ↔ r = .bool (decide (b ≤ a)) := binOK_iff rfl (fun _ _ _ => by simp [binOp, Op.intCmp, eqGuard]) r
@[simp] theorem bin_eql : BinOK P .eql T (.int k a) (.int k b) r ↔ r = .bool (a == b) := binOK_iff rfl (fun _ _ _ => by simp [binOp, Op.intCmp, eqGuard]) r
@[simp] theorem bin_neq : BinOK P .neq T (.int k a) (.int k b) r ↔ r = .bool (a != b) := binOK_iff rfl (fun _ _ _ => by simp [binOp, Op.intCmp, eqGuard]) r
@[simp] theorem bin_add : BinOK P .add T (.int k a) (.int k b) r ↔ r = .int k (k.wrap (a + b)) := binOK_iff rfl (fun _ _ _ => by simp [binOp, Op.intArith, eqGuard]) r
@[simp] theorem bin_sub : BinOK P .sub T (.int k a) (.int k b) r ↔ r = .int k (k.wrap (a - b)) := binOK_iff rfl (fun _ _ _ => by simp [binOp, Op.intArith, eqGuard]) r
@[simp] theorem bin_mul : BinOK P .mul T (.int k a) (.int k b) r ↔ r = .int k (k.wrap (a * b)) := binOK_iff rfl (fun _ _ _ => by simp [binOp, Op.intArith, eqGuard]) r
theorem bin_quo (h : b ≠ 0) : BinOK P .quo T (.int k a) (.int k b) r ↔ r = .int k (k.wrap (a.tdiv b)) := binOK_iff rfl (fun _ _ _ => by simp [binOp, Op.intDiv, eqGuard, h]) r
theorem bin_rem (h : b ≠ 0) : BinOK P .rem T (.int k a) (.int k b) r ↔ r = .int k (a.tmod b) := binOK_iff rfl (fun _ _ _ => by simp [binOp, Op.intDiv, eqGuard, h]) r
theorem bin_shr {k' : IntKind} (h : 0 ≤ b) : BinOK P .shr T (.int k a) (.int k' b) r ↔ r = .int k (a.fdiv (2 ^ min b.toNat k.bits)) := by
 have h' : ¬ b < 0 := by omega
 exact binOK_iff rfl (fun _ _ _ => by simp [binOp, Op.shift, eqGuard, h']) r
theorem bin_and : BinOK P .and T (.int k a) (.int k b) r ↔ r = .int k (k.wrap (BitVec.ofInt k.bits a &&& BitVec.ofInt k.bits b).toNat) := binOK_iff rfl (fun _ _ _ => by simp [binOp, Op.intBits, eqGuard]) r
theorem conv_int {S' T' : TypeId} {k' : IntKind} (hs : (P.underlying S').isSome = true) (ht : P.underlying T' = some (.int k')) : ConvOK P S' T' (.int k a) r ↔ r = .int k' (k'.wrap a) := by
 obtain ⟨u, hu⟩ := Option.isSome_iff_exists.1 hs
 have hr : ∀ w, Sem.run P (convert S' T' (.int k a)) w = .ok (.int k' (k'.wrap a)) w := by
  intro w
  simp only [convert, Sem.run_bind, run_underlying hu, run_underlying ht, Result.andThen_ok]
  cases u <;> simp [Conv.intToInt]
 constructor
 ·intro hb
  have := hb.2 default
  rw [hr] at this
  injection this with h1 _
  exact h1.symm
 ·rintro rfl
  exact ⟨rfl, hr⟩
@[simp] theorem un_not (t : Bool) : UnOK P .not (.bool t) r ↔ r = .bool (!t) := unOK_iff rfl (fun _ => by simp [Op.unary]) r
end
def boolT (P : Program) (T : TypeId) : Bool := match P.underlying T with | some .bool => true | _ => false
theorem boolT_spec {T : TypeId} (h : boolT P T = true) : P.underlying T = some .bool := by
 unfold boolT at h
 split at h
 ·assumption
 ·cases h
theorem run_equalIn_bool (d : Nat) {T : TypeId} (h : P.underlying T = some .bool) (a b : Bool) (w : World) : (Op.equalIn (d + 1) T (.bool a) (.bool b)).run P w = .ok (a == b) w := by
 simp [Op.equalIn, run_underlying h]
theorem run_eql_bool {T : TypeId} (h : P.underlying T = some .bool) (a b : Bool) (w : World) : (binOp .eql T (.bool a) (.bool b)).run P w = .ok (.bool (a == b)) w := by
 have := run_equalIn_bool 9999 h a b w
 simp only [binOp, Op.equal, Op.maxDepth, Sem.run_bind, this, Result.andThen_ok, Sem.run_pure]
theorem run_neq_bool {T : TypeId} (h : P.underlying T = some .bool) (a b : Bool) (w : World) : (binOp .neq T (.bool a) (.bool b)).run P w = .ok (.bool (!(a == b))) w := by
 have := run_equalIn_bool 9999 h a b w
 simp only [binOp, Op.equal, Op.maxDepth, Sem.run_bind, this, Result.andThen_ok, Sem.run_pure]
theorem bin_beql {T : TypeId} (h : boolT P T = true) (a b : Bool) : BinOK P .eql T (.bool a) (.bool b) (.bool (a == b)) :=
 (binOK_iff rfl (fun _ _ w => by rw [Sem.run_bind]; exact run_eql_bool (boolT_spec h) a b w) _).2 rfl
theorem bin_bneq {T : TypeId} (h : boolT P T = true) (a b : Bool) : BinOK P .neq T (.bool a) (.bool b) (.bool (!(a == b))) :=
 (binOK_iff rfl (fun _ _ w => by rw [Sem.run_bind]; exact run_neq_bool (boolT_spec h) a b w) _).2 rfl
theorem bin_seql {T : TypeId} (a b : ByteArray) : BinOK P .eql T (.string a) (.string b) (.bool (a.toList == b.toList)) :=
 (binOK_iff rfl (fun _ _ w => by rw [Sem.run_bind]; rfl) _).2 rfl
theorem bin_sneq {T : TypeId} (a b : ByteArray) : BinOK P .neq T (.string a) (.string b) (.bool !(a.toList == b.toList)) :=
 (binOK_iff rfl (fun _ _ w => by rw [Sem.run_bind]; rfl) _).2 rfl
theorem bin_slss {T : TypeId} (a b : ByteArray) : BinOK P .lss T (.string a) (.string b) (.bool (Op.bytesLess a.toList b.toList)) :=
 (binOK_iff rfl (fun _ _ w => by rw [Sem.run_bind]; rfl) _).2 rfl
theorem bin_sadd {T : TypeId} (a b : ByteArray) (h : a.size + b.size ≤ 1000000000000) : BinOK P .add T (.string a) (.string b) (.string (a ++ b)) :=
 (binOK_iff rfl (fun _ _ w => by
  have h2 : ¬ (((a.size + b.size : Nat) : Int) > IntKind.i64.max) := by
   have : IntKind.i64.max = 9223372036854775807 := rfl
   rw [this]; omega
  rw [Sem.run_bind]
  show Sem.run P (Op.stringOp .add a b) w = _
  unfold Op.stringOp
  simp only [h2, if_false]
  rfl) _).2 rfl
def eqT (P : Program) (T : TypeId) : Option Nat := match P.underlying T with
 | some (.struct fs) => if (fs.toList.all fun f => f.name != "_" && (match P.underlying f.type with | some (.int _) => true | _ => false)) && fs.toList.map (·.offset) == List.range fs.size && !P.stoodInHeld T && !P.eqGuardType P.depth T then some fs.size else none
 | _ => none
def intsOf : List Value → Option (List Int)
 | [] => some []
 | .int .i64 n :: r => (intsOf r).map (n :: ·)
 | _ :: _ => none
theorem intsOf_spec : ∀ {vs : List Value} {ns : List Int}, intsOf vs = some ns → vs = ns.map (.int .i64)
 | [], ns, h => by simp [intsOf] at h; subst h; rfl
 | v :: r, ns, h => by
  unfold intsOf at h
  split at h
  ·cases ‹_ :: _ = []›
  ·rename_i n r' heq
   cases heq
   obtain ⟨l, h1, h2⟩ := Option.map_eq_some_iff.1 h
   subst h2
   rw [intsOf_spec h1]
   rfl
  ·cases h
theorem run_eqFields_ints (d : Nat) (w : World) : ∀ (fs : List Field) (i : Nat) (as1 bs : List Int), (∀ f ∈ fs, f.name ≠ "_" ∧ ∃ k, P.underlying f.type = some (.int k)) → fs.map (·.offset) = List.range' i fs.length → as1.length = i + fs.length → bs.length = i + fs.length →
  (Op.eqFields (d + 1) (as1.map (Value.int .i64)).toArray (bs.map (Value.int .i64)).toArray fs).run P w = .ok (decide (as1.drop i = bs.drop i)) w
 | [], i, as1, bs, _, _, ha, hb => by
  have h1 : as1.drop i = [] := List.drop_eq_nil_of_le (by simp at ha; omega)
  have h2 : bs.drop i = [] := List.drop_eq_nil_of_le (by simp at hb; omega)
  simp [Op.eqFields, h1, h2]
 | f :: fs, i, as1, bs, hf, ho, ha, hb => by
  obtain ⟨hn, k, hk⟩ := hf f (by simp)
  simp only [List.map_cons, List.length_cons, List.range'_succ, List.cons.injEq] at ho
  obtain ⟨ho1, ho2⟩ := ho
  simp only [List.length_cons] at ha hb
  have hia : i < as1.length := by omega
  have hib : i < bs.length := by omega
  have hag : aggT P f.type = some false := by simp [aggT, hk]
  have hpa : (part f.type (as1.map (Value.int .i64)).toArray f.offset).run P w = .ok (.int .i64 as1[i]) w := by
   simp only [part, Sem.run_bind, run_isAgg hag, Result.andThen_ok, Bool.false_eq_true, ↓reduceIte, ho1]
   simp [hia]
  have hpb : (part f.type (bs.map (Value.int .i64)).toArray f.offset).run P w = .ok (.int .i64 bs[i]) w := by
   simp only [part, Sem.run_bind, run_isAgg hag, Result.andThen_ok, Bool.false_eq_true, ↓reduceIte, ho1]
   simp [hib]
  have ih := run_eqFields_ints d w fs (i + 1) as1 bs (fun g hg => hf g (by simp [hg])) ho2 (by omega) (by omega)
  simp only [Op.eqFields, hn, ne_eq, not_false_eq_true, ↓reduceIte, Sem.run_bind, hpa, hpb, Result.andThen_ok, run_equalIn_int w d f.type .i64 k _ _ hk, Sem.run_ite, ih]
  have ea : as1.drop i = as1[i] :: as1.drop (i + 1) := List.drop_eq_getElem_cons hia
  have eb : bs.drop i = bs[i] :: bs.drop (i + 1) := List.drop_eq_getElem_cons hib
  by_cases e : as1[i] = bs[i]
  ·have e2 : (as1.drop i = bs.drop i) ↔ (as1.drop (i + 1) = bs.drop (i + 1)) := by rw [ea, eb, e]; simp only [List.cons.injEq, true_and]
   simp [e, e2]
  ·have e2 : ¬ (as1.drop i = bs.drop i) := by rw [ea, eb]; simp only [List.cons.injEq, e, false_and, not_false_eq_true]
   simp [e, e2]
theorem eqT_spec {T n : Nat} (h : eqT P T = some n) {as1 bs : List Int} (ha : as1.length = n) (hb : bs.length = n) (x y : Operand) (w : World) :
  (eqGuard .eql T x y (.agg (as1.map (Value.int .i64)).toArray) (.agg (bs.map (Value.int .i64)).toArray)).run P w = .ok () w ∧
  (eqGuard .neq T x y (.agg (as1.map (Value.int .i64)).toArray) (.agg (bs.map (Value.int .i64)).toArray)).run P w = .ok () w ∧
  (binOp .eql T (.agg (as1.map (Value.int .i64)).toArray) (.agg (bs.map (Value.int .i64)).toArray)).run P w = .ok (.bool (decide (as1 = bs))) w ∧
  (binOp .neq T (.agg (as1.map (Value.int .i64)).toArray) (.agg (bs.map (Value.int .i64)).toArray)).run P w = .ok (.bool (!decide (as1 = bs))) w := by
 unfold eqT at h
 split at h
 ·rename_i fs hfs
  split at h
  ·rename_i hc
   simp only [Bool.and_eq_true, Bool.not_eq_true', beq_iff_eq] at hc
   obtain ⟨⟨⟨h1, h2⟩, h3⟩, h4⟩ := hc
   simp only [Option.some.injEq] at h
   subst h
   have hfo : P.fieldsOf T = fs := by simp [Program.fieldsOf, hfs]
   have hun : P.underlying T = some (.struct (P.fieldsOf T)) := by rw [hfo, hfs]
   have hall : ∀ f ∈ fs.toList, f.name ≠ "_" ∧ ∃ k, P.underlying f.type = some (.int k) := by
    intro f hf
    have := List.all_eq_true.1 h1 f hf
    simp only [Bool.and_eq_true, bne_iff_ne, ne_eq] at this
    refine ⟨this.1, ?_⟩
    have h6 := this.2
    split at h6
    ·rename_i k hk; exact ⟨k, hk⟩
    ·cases h6
   have key : ∀ d, (Op.equalIn (d + 2) T (.agg (as1.map (Value.int .i64)).toArray) (.agg (bs.map (Value.int .i64)).toArray)).run P w = .ok (decide (as1 = bs)) w := by
    intro d
    rw [run_equalIn_struct w (d + 1) T _ _ hun h3, hfo, run_eqFields_ints d w fs.toList 0 as1 bs hall (by rw [h2]; simp [List.range_eq_range']) (by simpa using ha) (by simpa using hb)]
    simp
   refine ⟨run_eqGuard_agg w .eql T x y _ _ h4, run_eqGuard_agg w .neq T x y _ _ h4, ?_, ?_⟩
   ·rw [run_eql_struct, key 9998]; rfl
   ·rw [run_neq_struct, key 9998]; rfl
  ·cases h
 ·cases h
theorem wrap_in {n : Int} (h0 : -9223372036854775808 ≤ n) (h1 : n ≤ 9223372036854775807) : IntKind.i64.wrap n = n := by
 exact IntWalk.i64_in n ⟨h0, h1⟩
end Go.AM
namespace Go.AM
open Go
variable {P : Program}
def binF (P : Program) (op : BinOp) (T : TypeId) : Value → Value → Option (Prop × Value)
 | .int k a, .int k' b => match op with
  | .shr => some (0 ≤ b, .int k (a.fdiv (2 ^ min b.toNat k.bits)))
  | _ => match decide (k = k') with
   | true => match op with
    | .lss => some (True, .bool (decide (a < b)))
    | .leq => some (True, .bool (decide (a ≤ b)))
    | .gtr => some (True, .bool (decide (b < a)))
    | .geq => some (True, .bool (decide (b ≤ a)))
    | .eql => some (True, .bool (a == b))
    | .neq => some (True, .bool (a != b))
    | .add => some (True, .int k (k.wrap (a + b)))
    | .sub => some (True, .int k (k.wrap (a - b)))
    | .mul => some (True, .int k (k.wrap (a * b)))
    | .quo => some (b ≠ 0, .int k (k.wrap (a.tdiv b)))
    | .rem => some (b ≠ 0, .int k (a.tmod b))
    | .and => some (True, .int k (k.wrap (BitVec.ofInt k.bits a &&& BitVec.ofInt k.bits b).toNat))
    | _ => none
   | false => none
 | .bool a, .bool b => match boolT P T, op with
  | true, .eql => some (True, .bool (a == b))
  | true, .neq => some (True, .bool (!(a == b)))
  | _, _ => none
 | .string a, .string b => match op with
  | .eql => some (True, .bool (a.toList == b.toList))
  | .neq => some (True, .bool !(a.toList == b.toList))
  | .lss => some (True, .bool (Op.bytesLess a.toList b.toList))
  | .add => some (a.size + b.size ≤ 1000000000000, .string (a ++ b))
  | _ => none
 | .agg xs, .agg ys => match eqT P T, intsOf xs.toList, intsOf ys.toList with
  | some n, some as1, some bs => match op with
   | .eql => some (as1.length = n ∧ bs.length = n, .bool (decide (as1 = bs)))
   | .neq => some (as1.length = n ∧ bs.length = n, .bool (!decide (as1 = bs)))
   | _ => none
  | _, _, _ => none
 | _, _ => none
theorem binF_sound {op : BinOp} {T : TypeId} {a b r : Value} {φ : Prop} (h : binF P op T a b = some (φ, r)) (hφ : φ) : BinOK P op T a b r := by
 unfold binF at h
 split at h
 ·rename_i k a k' b
  split at h
  ·simp only [Option.some.injEq, Prod.mk.injEq] at h
   obtain ⟨rfl, rfl⟩ := h
   exact (bin_shr T k a b _ hφ).2 rfl
  ·split at h
   ·rename_i hk
    have hk' : k = k' := by simpa using hk
    subst hk'
    split at h <;> simp only [Option.some.injEq, Prod.mk.injEq, reduceCtorEq] at h <;> obtain ⟨rfl, rfl⟩ := h
    ·simp
    ·simp
    ·simp
    ·simp
    ·simp
    ·simp
    ·simp
    ·simp
    ·simp
    ·exact (bin_quo T k a b _ hφ).2 rfl
    ·exact (bin_rem T k a b _ hφ).2 rfl
    ·exact (bin_and T k a b _).2 rfl
   ·cases h
 ·rename_i a b
  split at h
  ·rename_i hb
   simp only [Option.some.injEq, Prod.mk.injEq] at h
   obtain ⟨_, rfl⟩ := h
   exact bin_beql hb a b
  ·rename_i hb
   simp only [Option.some.injEq, Prod.mk.injEq] at h
   obtain ⟨_, rfl⟩ := h
   exact bin_bneq hb a b
  ·cases h
 ·rename_i a b
  split at h
  ·simp only [Option.some.injEq, Prod.mk.injEq] at h
   obtain ⟨_, rfl⟩ := h
   exact bin_seql a b
  ·simp only [Option.some.injEq, Prod.mk.injEq] at h
   obtain ⟨_, rfl⟩ := h
   exact bin_sneq a b
  ·simp only [Option.some.injEq, Prod.mk.injEq] at h
   obtain ⟨_, rfl⟩ := h
   exact bin_slss a b
  ·simp only [Option.some.injEq, Prod.mk.injEq] at h
   obtain ⟨rfl, rfl⟩ := h
   exact bin_sadd a b hφ
  ·cases h
 ·rename_i xs ys
  split at h
  ·rename_i n as1 bs h1 h2 h3
   have hx : xs = (as1.map (Value.int .i64)).toArray := by rw [← intsOf_spec h2]
   have hy : ys = (bs.map (Value.int .i64)).toArray := by rw [← intsOf_spec h3]
   subst hx; subst hy
   split at h
   ·simp only [Option.some.injEq, Prod.mk.injEq] at h
    obtain ⟨rfl, rfl⟩ := h
    refine ⟨rfl, fun x y w => ?_⟩
    obtain ⟨g1, g2, g3, g4⟩ := eqT_spec h1 hφ.1 hφ.2 x y w
    simp only [Sem.run_bind, g1, Result.andThen_ok, g3]
   ·simp only [Option.some.injEq, Prod.mk.injEq] at h
    obtain ⟨rfl, rfl⟩ := h
    refine ⟨rfl, fun x y w => ?_⟩
    obtain ⟨g1, g2, g3, g4⟩ := eqT_spec h1 hφ.1 hφ.2 x y w
    simp only [Sem.run_bind, g2, Result.andThen_ok, g4]
   ·cases h
  ·cases h
 ·cases h
def unF (op : UnOp) : Value → Option Value
 | .bool t => match op with
  | .not => some (.bool (!t))
  | _ => none
 | _ => none
theorem unF_sound {op : UnOp} {a r : Value} (h : unF op a = some r) : UnOK P op a r := by
 unfold unF at h
 split at h
 ·cases op <;> simp only [Option.some.injEq, reduceCtorEq] at h
  subst h
  simp
 ·cases h
def lenF (P : Program) (T : TypeId) : AV → Option AV
 | .msl _ _ n _ => match elemT P T with
  | some _ => some (.d (.raw (.int .i64 n)))
  | none => none
 | .d (.raw (.string s)) => match strT P T with
  | true => some (.d (.raw (.int .i64 s.size)))
  | false => none
 | .d (.sl _ es) => match elemT P T with
  | some _ => some (.d (.raw (.int .i64 es.length)))
  | none => none
 | .osl _ es _ => match elemT P T with
  | some _ => some (.d (.raw (.int .i64 es.length)))
  | none => none
 | .stk _ _ es => match elemT P T with
  | some _ => some (.d (.raw (.int .i64 es.length)))
  | none => none
 | _ => none
theorem lenF_sound {T : TypeId} {x v : AV} (h : lenF P T x = some v) : lenOf P T x v := by
 unfold lenF at h
 unfold lenOf
 split at h
 ·split at h <;> simp_all
 ·split at h <;> simp_all
 ·split at h <;> simp_all
 ·split at h <;> simp_all
 ·split at h <;> simp_all
 ·cases h
def idxF (P : Program) (T : TypeId) (x : AV) (n : Int) : Option (Prop × AV) := match rowT P T, x with
 | some (_, sz, _), .msl k off len sz' => some (0 ≤ n ∧ n < len ∧ sz' = sz, .ptr k (off + n.toNat) 0)
 | some (_, sz, _), .d (.sl _ es) => some (0 ≤ n ∧ n < es.length ∧ (es.getD n.toNat []).length = sz, .cptr (es.getD n.toNat []) 0)
 | some (_, sz, _), .osl _ es _ => some (0 ≤ n ∧ n < es.length ∧ (es.getD n.toNat []).length = sz, .cptr (es.getD n.toNat []) 0)
 | none, .cptr cs off => match arrT P T with
  | some (len, E) => match szOf P E with
   | some sz => some (0 ≤ n ∧ n < len, .cptr cs (off + n.toNat * sz))
   | none => none
  | none => none
 | _, _ => none
theorem getD_get {α : Type} {l : List α} {n : Int} {d : α} (h0 : 0 ≤ n) (h : n < l.length) : l[n.toNat]? = some (l.getD n.toNat d) := by
 have : n.toNat < l.length := by omega
 simp [this]
theorem idxF_sound {T : TypeId} {x v : AV} {n : Int} {φ : Prop} (h : idxF P T x n = some (φ, v)) (hφ : φ) : idxOf P T x n v := by
 unfold idxF at h
 split at h
 ·rename_i hr
  simp only [Option.some.injEq, Prod.mk.injEq] at h
  obtain ⟨rfl, rfl⟩ := h
  simp only [idxOf, hr]
  exact ⟨hφ.1, hφ.2.1, hφ.2.2, by first | rfl | trivial⟩
 ·rename_i hr
  simp only [Option.some.injEq, Prod.mk.injEq] at h
  obtain ⟨rfl, rfl⟩ := h
  simp only [idxOf, hr]
  exact ⟨hφ.1, _, getD_get hφ.1 hφ.2.1, hφ.2.2, rfl⟩
 ·rename_i hr
  simp only [Option.some.injEq, Prod.mk.injEq] at h
  obtain ⟨rfl, rfl⟩ := h
  simp only [idxOf, hr]
  exact ⟨hφ.1, _, getD_get hφ.1 hφ.2.1, hφ.2.2, rfl⟩
 ·rename_i hr
  split at h
  ·rename_i ha
   split at h
   ·rename_i hs
    simp only [Option.some.injEq, Prod.mk.injEq] at h
    obtain ⟨rfl, rfl⟩ := h
    simp only [idxOf, hr, ha, hs]
    exact ⟨hφ.1, hφ.2, by first | rfl | trivial⟩
   ·cases h
  ·cases h
 ·cases h
def boundF (ρ : Operand → AV) (o : Option Operand) (d : Nat) : Option (Prop × Nat) := match o with
 | none => some (True, d)
 | some x => match ρ x with
  | .d (.raw (.int _ n)) => some (0 ≤ n, n.toNat)
  | _ => none
theorem boundF_sound {ρ : Operand → AV} {o : Option Operand} {d n : Nat} {φ : Prop} (h : boundF ρ o d = some (φ, n)) (hφ : φ) : optIs ρ o d n := by
 unfold boundF at h
 split at h
 ·simp only [Option.some.injEq, Prod.mk.injEq] at h
  exact h.2.symm
 ·rename_i x
  split at h
  ·rename_i k m hx
   simp only [Option.some.injEq, Prod.mk.injEq] at h
   obtain ⟨rfl, rfl⟩ := h
   simp only [optIs, hx]
   omega
  ·cases h
def sliceF (P : Program) (T : TypeId) (ρ : Operand → AV) (x : AV) (lo hi mx : Option Operand) : Option (Prop × AV) := match x with
 | .msl k off n sz => match rowT P T, mx, boundF ρ lo 0, boundF ρ hi n with
  | some (_, sz', _), none, some (φ, l), some (ψ, h) => some (sz' = sz ∧ φ ∧ ψ ∧ l ≤ h ∧ h ≤ n ∧ (l < n ∨ l = 0), .msl k (off + l) (h - l) sz)
  | _, _, _, _ => none
 | .stk t sz es => match rowT P T, lo, boundF ρ hi es.length with
  | some (_, sz', _), none, some (ψ, h) => match mx with
   | none => some (sz' = sz ∧ ψ ∧ h ≤ es.length, .stk t sz (es.take h))
   | some _ => match hi, boundF ρ mx 0 with
    | some _, some (χ, m) => some (sz' = sz ∧ ψ ∧ h = 0 ∧ χ ∧ m = 0, .osl sz [] .full)
    | _, _ => none
  | _, _, _ => none
 | .d (.raw (.string s)) => match strT P T, mx, boundF ρ lo 0, boundF ρ hi s.size with
  | true, none, some (φ, l), some (ψ, h) => some (φ ∧ ψ ∧ l ≤ h ∧ h ≤ s.size, .d (.raw (.string (s.extract l h))))
  | _, _, _, _ => none
 | x => match rowT P T, x.elems? with
  | some (_, sz, _), some (sz', es) => match boundF ρ lo 0, boundF ρ hi es.length with
   | some (φ, l), some (ψ, h) => match mx with
    | none => some ((sz' = sz ∨ es = []) ∧ φ ∧ ψ ∧ l ≤ h ∧ h ≤ es.length, .d (.sl sz ((es.take h).drop l)))
    | some _ => match hi, boundF ρ mx 0 with
     | some _, some (χ, m) => some ((sz' = sz ∨ es = []) ∧ φ ∧ ψ ∧ χ ∧ m = h ∧ l ≤ h ∧ h ≤ es.length, .osl sz ((es.take h).drop l) .full)
     | _, _ => none
   | _, _ => none
  | _, _ => none
theorem sliceOf_other {T : TypeId} {ρ : Operand → AV} {x v : AV} {lo hi mx : Option Operand} (hnm : ∀ k off n sz, x = .msl k off n sz → False) (hnk : ∀ t sz es, x = .stk t sz es → False) (hns : ∀ s, x = .d (.raw (.string s)) → False) : sliceOf P T ρ x lo hi mx v ↔ match rowT P T, x.elems? with
  | some (_, sz, _), some (sz', es) => ∃ l q, (sz' = sz ∨ es = []) ∧ optIs ρ lo 0 l ∧ optIs ρ hi es.length q ∧ l ≤ q ∧ q ≤ es.length ∧
    (match mx with
     | none => v = .d (.sl sz ((es.take q).drop l))
     | some _ => hi.isSome = true ∧ optIs ρ mx 0 q ∧ v = .osl sz ((es.take q).drop l) .full)
  | _, _ => False := by
 unfold sliceOf
 split
 ·rename_i k off n sz
  exact absurd rfl (hnm k off n sz)
 ·rename_i t sz es
  exact absurd rfl (hnk t sz es)
 ·rename_i s
  exact absurd rfl (hns s)
 ·rfl
theorem sliceF_sound {T : TypeId} {ρ : Operand → AV} {x v : AV} {lo hi mx : Option Operand} {φ : Prop} (h : sliceF P T ρ x lo hi mx = some (φ, v)) (hφ : φ) : sliceOf P T ρ x lo hi mx v := by
 unfold sliceF at h
 split at h
 ·rename_i k off n sz
  split at h
  ·rename_i E sz' by' φ1 l ψ1 hh hT h1 h2
   simp only [Option.some.injEq, Prod.mk.injEq] at h
   obtain ⟨rfl, rfl⟩ := h
   simp only [sliceOf, hT]
   exact ⟨hφ.1, by first | rfl | trivial, l, hh, boundF_sound h1 hφ.2.1, boundF_sound h2 hφ.2.2.1, hφ.2.2.2.1, hφ.2.2.2.2.1, hφ.2.2.2.2.2, by first | rfl | trivial⟩
  ·cases h
 ·rename_i t sz es
  split at h
  ·rename_i E sz' by' ψ1 hh hT h2
   split at h
   ·simp only [Option.some.injEq, Prod.mk.injEq] at h
    obtain ⟨rfl, rfl⟩ := h
    simp only [sliceOf, hT]
    exact ⟨hφ.1, by first | rfl | trivial, hh, boundF_sound h2 hφ.2.1, hφ.2.2, by first | rfl | trivial⟩
   ·split at h
    ·rename_i χ m h3
     simp only [Option.some.injEq, Prod.mk.injEq] at h
     obtain ⟨rfl, rfl⟩ := h
     obtain ⟨g1, g2, rfl, g4, rfl⟩ := hφ
     simp only [sliceOf, hT]
     exact ⟨g1, by first | rfl | trivial, 0, boundF_sound h2 g2, Nat.zero_le _, by first | rfl | trivial, rfl, boundF_sound h3 g4, by first | rfl | trivial⟩
    ·cases h
  ·cases h
 ·rename_i s
  split at h
  ·rename_i φ1 l ψ1 hh hT h1 h2
   simp only [Option.some.injEq, Prod.mk.injEq] at h
   obtain ⟨rfl, rfl⟩ := h
   simp only [sliceOf]
   exact ⟨hT, by first | rfl | trivial, l, hh, boundF_sound h1 hφ.1, boundF_sound h2 hφ.2.1, hφ.2.2.1, hφ.2.2.2, by first | rfl | trivial⟩
  ·cases h
 ·rename_i hnm hnk hns
  rw [sliceOf_other hnm hnk hns]
  split at h
  ·rename_i E sz by' sz' es hr he
   split at h
   ·rename_i φ1 l ψ1 hh h1 h2
    split at h
    ·simp only [Option.some.injEq, Prod.mk.injEq] at h
     obtain ⟨rfl, rfl⟩ := h
     exact ⟨l, hh, hφ.1, boundF_sound h1 hφ.2.1, boundF_sound h2 hφ.2.2.1, hφ.2.2.2.1, hφ.2.2.2.2, rfl⟩
    ·split at h
     ·rename_i χ m h3
      simp only [Option.some.injEq, Prod.mk.injEq] at h
      obtain ⟨rfl, rfl⟩ := h
      obtain ⟨g1, g2, g3, g4, rfl, g6, g7⟩ := hφ
      exact ⟨l, _, g1, boundF_sound h1 g2, boundF_sound h2 g3, g6, g7, rfl, boundF_sound h3 g4, rfl⟩
     ·cases h
   ·cases h
  ·cases h
def kindT (P : Program) (T : TypeId) : Option IntKind := match P.underlying T with
 | some (.int k) => some k
 | _ => none
def convF (P : Program) (s t : TypeId) : Value → Option Value
 | .int _ n => match kindT P s, kindT P t with
  | some _, some k => some (.int k (k.wrap n))
  | _, _ => none
 | _ => none
theorem kindT_spec {T : TypeId} {k : IntKind} (h : kindT P T = some k) : P.underlying T = some (.int k) := by
 unfold kindT at h
 split at h
 ·cases h; assumption
 ·cases h
theorem convF_sound {s t : TypeId} {a r : Value} (h : convF P s t a = some r) : ConvOK P s t a r := by
 unfold convF at h
 split at h
 ·rename_i k n
  split at h
  ·rename_i ks kt h1 h2
   cases h
   exact (conv_int k n _ (by rw [kindT_spec h1]; rfl) (kindT_spec h2)).2 rfl
  ·cases h
 ·cases h
def fN (P : Program) (base : Nat) (o : Oper) (ρ : Operand → AV) : Option (Prop × AV) := match o.op with
 | .move x => some (True, ρ x)
 | .assign x => some (True, ρ x)
 | .pick c a b => match ρ c with
  | .d (.raw (.bool t)) => some (True, match t with | true => ρ a | false => ρ b)
  | _ => none
 | .alloc _ => match o.dst with
  | some s => some (True, .ptr (base + s) 0 0)
  | none => none
 | .build T parts => match buildT P T, zeroT P T with
  | some pl, some zs => match fillA pl (zs.map ofVal1) (parts.toList.map fun p => (p.1, ρ p.2)) with
   | some cs => some (True, .agg cs)
   | none => none
  | _, _ => none
 | .buildSlice T len parts => match rowT P T, rowsOf (parts.toList.map fun p => ρ p.2) with
  | some (_, sz, _), some rows => some (parts.toList.map (·.1) = List.range len ∧ (∀ r ∈ rows, r.length = sz) ∧ len * sz ≤ 16777216, .osl sz rows .full)
  | _, _ => none
 | .nilCheck x => match ρ x with
  | .ptr k i off => some (True, .ptr k i off)
  | .cptr cs off => some (True, .cptr cs off)
  | .fn (.func f) caps => some (True, .fn (.func f) caps)
  | _ => none
 | .binOp op T x y _ => match rawOf (ρ x), rawOf (ρ y) with
  | some a, some b => match binF P op T a b with
   | some (φ, r) => some (φ, .d (.raw r))
   | none => none
  | _, _ => none
 | .unOp op _ x => match rawOf (ρ x) with
  | some a => match unF op a with
   | some r => some (True, .d (.raw r))
   | none => none
  | none => none
 | .convert s t x => match rawOf (ρ x) with
  | some a => match convF P s t a with
   | some r => some (True, .d (.raw r))
   | none => none
  | none => none
 | .makeFunc fn first caps => match first.toList with
  | [] => some (True, .fn fn (caps.toList.map ρ))
  | _ => none
 | .fieldAddr T x f => match structT P T with
  | some pl => match pl[f]?, ρ x with
   | some (off, n + 1), .cptr cs o' => some (True, .cptr cs (o' + off))
   | some (off, n + 1), .ptr k i o' => some (True, .ptr k i (o' + off))
   | _, _ => none
  | none => none
 | .field T x f => match fieldT P T f, ρ x with
  | some (ft, off), .agg cs => match aggT P ft, szOf P ft with
   | some ag, some n => match loadA ag n cs off with
    | some v => some (True, v)
    | none => none
   | _, _ => none
  | _, _ => none
 | .indexAddr T x i => match ρ i with
  | .d (.raw (.int _ n)) => idxF P T (ρ x) n
  | _ => none
 | .index T x i => match strT P T, ρ x, ρ i with
  | true, .d (.raw (.string s)), .d (.raw (.int _ n)) => some (0 ≤ n ∧ n < s.size, .d (.raw (.int .u8 (s.data.toList.getD n.toNat 0).toNat)))
  | _, _, _ => none
 | .extract t i => match ρ t with
  | .tup vs => match vs[i]? with
   | some v => some (True, v)
   | none => none
  | _ => none
 | .slice T x lo hi mx => sliceF P T ρ (ρ x) lo hi mx
 | .call c => match c.callee, c.args.toList.map ρ, c.argTypes.toList with
  | .builtin .len, [x], [T] => match lenF P T x with
   | some v => some (True, v)
   | none => none
  | .builtin .min, [.d (.raw (.int k a)), .d (.raw (.int _ b))], _ => some (True, .d (.raw (.int k (min a b))))
  | .builtin .max, [.d (.raw (.int k a)), .d (.raw (.int _ b))], _ => some (True, .d (.raw (.int k (max a b))))
  | .builtin .min, [.d (.raw (.string a)), .d (.raw (.string b))], _ => some (True, .d (.raw (.string (if Op.bytesLess a.toList b.toList || a.toList == b.toList then a else b))))
  | _, _, _ => none
 | _ => none
theorem builtin_min (ts : Array TypeId) (t : TypeId) (k k' : IntKind) (a b : Int) : BuiltinOK P .min ts t [.int k a, .int k' b] (.int k (min a b)) := by
 refine ⟨rfl, fun cs w => ?_⟩
 have e : min a b = if b < a then b else a := by omega
 rw [e]
 simp [builtin, Builtin.min_, Builtin.min2]
theorem builtin_max (ts : Array TypeId) (t : TypeId) (k k' : IntKind) (a b : Int) : BuiltinOK P .max ts t [.int k a, .int k' b] (.int k (max a b)) := by
 refine ⟨rfl, fun cs w => ?_⟩
 have e : max a b = if b > a then b else a := by omega
 rw [e]
 simp [builtin, Builtin.max_, Builtin.max2]
theorem builtin_smin (ts : Array TypeId) (t : TypeId) (a b : ByteArray) : BuiltinOK P .min ts t [.string a, .string b] (.string (if Op.bytesLess a.toList b.toList || a.toList == b.toList then a else b)) := by
 refine ⟨rfl, fun cs w => ?_⟩
 simp [builtin, Builtin.min_, Builtin.min2, Op.stringOp, asBool]
theorem fN_sound {base : Nat} {o : Oper} {ρ : Operand → AV} {φ : Prop} {v : AV} (h : fN P base o ρ = some (φ, v)) (hφ : φ) : EffN P base o ρ v := by
 unfold fN at h
 unfold EffN
 split at h
 ·rename_i x ho; simp only [Option.some.injEq, Prod.mk.injEq] at h; simp only [ho]; exact h.2.symm
 ·rename_i x ho; simp only [Option.some.injEq, Prod.mk.injEq] at h; simp only [ho]; exact h.2.symm
 ·rename_i c a b ho
  split at h
  ·rename_i t hc; simp only [Option.some.injEq, Prod.mk.injEq] at h; simp only [ho, hc]; exact h.2.symm
  ·cases h
 ·rename_i T ho
  split at h
  ·rename_i s hs; simp only [Option.some.injEq, Prod.mk.injEq] at h; simp only [ho, hs]; exact h.2.symm
  ·cases h
 ·rename_i T parts ho
  split at h
  ·rename_i pl zs h1 h2
   split at h
   ·rename_i cs h3; simp only [Option.some.injEq, Prod.mk.injEq] at h; simp only [ho, h1, h2, h3]; exact h.2.symm
   ·cases h
  ·cases h
 ·rename_i T len parts ho
  split at h
  ·rename_i E sz by' rows h1 h2
   simp only [Option.some.injEq, Prod.mk.injEq] at h
   obtain ⟨rfl, rfl⟩ := h
   simp only [ho, h1, h2]
   exact ⟨hφ.1, hφ.2.1, hφ.2.2, by first | rfl | trivial⟩
  ·cases h
 ·rename_i x ho
  split at h
  ·rename_i k i off hx; simp only [Option.some.injEq, Prod.mk.injEq] at h; simp only [ho, hx]; exact h.2.symm
  ·rename_i cs off hx; simp only [Option.some.injEq, Prod.mk.injEq] at h; simp only [ho, hx]; exact h.2.symm
  ·rename_i f caps hx; simp only [Option.some.injEq, Prod.mk.injEq] at h; simp only [ho, hx]; exact h.2.symm
  ·cases h
 ·rename_i op T x y T2 ho
  split at h
  ·rename_i a b ha hb
   split at h
   ·rename_i ψ r hr
    simp only [Option.some.injEq, Prod.mk.injEq] at h
    obtain ⟨rfl, rfl⟩ := h
    simp only [ho, ha, hb]
    exact ⟨r, binF_sound hr hφ, rfl⟩
   ·cases h
  ·cases h
 ·rename_i op T x ho
  split at h
  ·rename_i a ha
   split at h
   ·rename_i r hr
    simp only [Option.some.injEq, Prod.mk.injEq] at h
    obtain ⟨rfl, rfl⟩ := h
    simp only [ho, ha]
    exact ⟨r, unF_sound hr, rfl⟩
   ·cases h
  ·cases h
 ·rename_i s t x ho
  split at h
  ·rename_i a ha
   split at h
   ·rename_i r hr
    simp only [Option.some.injEq, Prod.mk.injEq] at h
    obtain ⟨rfl, rfl⟩ := h
    simp only [ho, ha]
    exact ⟨r, convF_sound hr, rfl⟩
   ·cases h
  ·cases h
 ·rename_i fn first caps ho
  split at h
  ·rename_i hf; simp only [Option.some.injEq, Prod.mk.injEq] at h; simp only [ho]; exact ⟨hf, h.2.symm⟩
  ·cases h
 ·rename_i T x f ho
  split at h
  ·rename_i pl hpl
   split at h
   ·rename_i off n cs o' h1 h2; simp only [Option.some.injEq, Prod.mk.injEq] at h; simp only [ho, hpl, h1, h2]; exact ⟨Nat.succ_ne_zero n, h.2.symm⟩
   ·rename_i off n k i o' h1 h2; simp only [Option.some.injEq, Prod.mk.injEq] at h; simp only [ho, hpl, h1, h2]; exact ⟨Nat.succ_ne_zero n, h.2.symm⟩
   ·cases h
  ·cases h
 ·rename_i T x f ho
  split at h
  ·rename_i ft off cs h1 h2
   split at h
   ·rename_i ag n h3 h4
    split at h
    ·rename_i v' h5; simp only [Option.some.injEq, Prod.mk.injEq] at h; simp only [ho, h1, h2, h3, h4]; rw [h5, h.2]
    ·cases h
   ·cases h
  ·cases h
 ·rename_i T x i ho
  split at h
  ·rename_i k n hi; simp only [ho, hi]; exact idxF_sound h hφ
  ·cases h
 ·rename_i T x i ho
  split at h
  ·rename_i s k n h1 h2 h3
   simp only [Option.some.injEq, Prod.mk.injEq] at h
   obtain ⟨rfl, rfl⟩ := h
   simp only [ho, h2, h3]
   have hs : n.toNat < s.size := by omega
   refine ⟨h1, hφ.1, s[n.toNat], by rw [getElem?_pos s n.toNat hs], ?_⟩
   have e : s.data.toList.getD n.toNat 0 = s[n.toNat] := by
    have : n.toNat < s.data.toList.length := by simpa using hs
    rw [List.getD_eq_getElem?_getD, List.getElem?_eq_getElem this]
    rfl
   rw [e]
  ·cases h
 ·rename_i t i ho
  split at h
  ·rename_i vs ht
   split at h
   ·rename_i v' hv; simp only [Option.some.injEq, Prod.mk.injEq] at h; simp only [ho, ht]; rw [hv, h.2]
   ·cases h
  ·cases h
 ·rename_i T x lo hi mx ho
  simp only [ho]
  exact sliceF_sound h hφ
 ·rename_i c ho
  split at h
  ·rename_i x T h1 h2 h3
   split at h
   ·rename_i v' hv
    simp only [Option.some.injEq, Prod.mk.injEq] at h
    obtain ⟨_, rfl⟩ := h
    simp only [ho, h1, h2, h3]
    exact lenF_sound hv
   ·cases h
  ·rename_i k a k' b h1 h2
   simp only [Option.some.injEq, Prod.mk.injEq] at h
   obtain ⟨_, rfl⟩ := h
   simp only [ho, h1, h2, rawsOf, rawOf]
   exact ⟨_, builtin_min _ _ _ _ _ _, rfl⟩
  ·rename_i k a k' b h1 h2
   simp only [Option.some.injEq, Prod.mk.injEq] at h
   obtain ⟨_, rfl⟩ := h
   simp only [ho, h1, h2, rawsOf, rawOf]
   exact ⟨_, builtin_max _ _ _ _ _ _, rfl⟩
  ·rename_i a b h1 h2
   simp only [Option.some.injEq, Prod.mk.injEq] at h
   obtain ⟨_, rfl⟩ := h
   simp only [ho, h1, h2, rawsOf, rawOf]
   exact ⟨_, builtin_smin _ _ _ _, rfl⟩
  ·cases h
 ·cases h
end Go.AM
