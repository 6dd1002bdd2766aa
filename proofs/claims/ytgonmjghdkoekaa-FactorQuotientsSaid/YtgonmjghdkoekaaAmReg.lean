/-
  The abstract machine, eleventh part: regions. In whatever order the model takes a region's operations, it comes to what the text's order comes to on the abstract machine.
-/
import Derived.Test.YtgonmjghdkoekaaAmRun
import Derived.Orders
namespace Go.AM
open Go
set_option linter.unusedSimpArgs false
set_option linter.unusedVariables false

variable {P : Program}

/-! ### An operation looks at its operands alone -/
theorem optIs_congr {ρ ρ' : Operand → AV} {o : Option Operand} {d n : Nat} (h : ∀ x, o = some x → ρ x = ρ' x) : optIs ρ o d n = optIs ρ' o d n := by
  cases o with
  | none => rfl
  | some x => simp only [optIs, h x rfl]

theorem effN_congr {base : Nat} {o : Oper} {ρ ρ' : Operand → AV} {v : AV} (h : ∀ x ∈ o.op.operands, ρ x = ρ' x) : EffN P base o ρ v → EffN P base o ρ' v := by
  unfold EffN
  cases hop : o.op <;> rw [hop] at h <;> simp only [imp_self]
  case move x => rw [h x (by simp [Op.operands])]; exact id
  case assign x => rw [h x (by simp [Op.operands])]; exact id
  case pick c a b => rw [h c (by simp [Op.operands]), h a (by simp [Op.operands]), h b (by simp [Op.operands])]; exact id
  case build T parts =>
    have e : (parts.toList.map fun p => (p.1, ρ p.2)) = parts.toList.map fun p => (p.1, ρ' p.2) := List.map_congr_left fun p hp => by
      rw [h p.2 (by simp only [Op.operands]; rw [← Array.mem_toList_iff]; simpa using ⟨p.1, by simpa using hp⟩)]
    rw [e]; exact id
  case buildSlice T len parts =>
    have e : (parts.toList.map fun p => ρ p.2) = parts.toList.map fun p => ρ' p.2 := List.map_congr_left fun p hp => by
      rw [h p.2 (by simp only [Op.operands]; rw [← Array.mem_toList_iff]; simpa using ⟨p.1, by simpa using hp⟩)]
    rw [e]; exact id
  case nilCheck x => rw [h x (by simp [Op.operands])]; exact id
  case binOp op T x y T2 => rw [h x (by simp [Op.operands]), h y (by simp [Op.operands])]; exact id
  case unOp op T x => rw [h x (by simp [Op.operands])]; exact id
  case convert s t x => rw [h x (by simp [Op.operands])]; exact id
  case makeFunc fn first caps =>
    have e : caps.toList.map ρ = caps.toList.map ρ' := List.map_congr_left fun p hp => h p (by simp only [Op.operands]; rw [← Array.mem_toList_iff]; simp [hp])
    rw [e]; exact id
  case fieldAddr T x f => rw [h x (by simp [Op.operands])]; exact id
  case field T x f => rw [h x (by simp [Op.operands])]; exact id
  case indexAddr T x i => rw [h x (by simp [Op.operands]), h i (by simp [Op.operands])]; exact id
  case index T x i => rw [h x (by simp [Op.operands]), h i (by simp [Op.operands])]; exact id
  case extract t i => rw [h t (by simp [Op.operands])]; exact id
  case slice T x lo hi mx =>
    have e1 : ∀ d n, optIs ρ lo d n = optIs ρ' lo d n := fun d n => optIs_congr fun y hy => h y (by simp [Op.operands, hy])
    have e2 : ∀ d n, optIs ρ hi d n = optIs ρ' hi d n := fun d n => optIs_congr fun y hy => h y (by simp [Op.operands, hy])
    have e3 : ∀ d n, optIs ρ mx d n = optIs ρ' mx d n := fun d n => optIs_congr fun y hy => h y (by simp [Op.operands, hy])
    rw [h x (by simp [Op.operands])]
    unfold sliceOf
    simp only [e1, e2, e3]
    exact id
  case call c =>
    have e : c.args.toList.map ρ = c.args.toList.map ρ' := List.map_congr_left fun p hp => h p (by simp only [Op.operands, Call.operands]; rw [← Array.mem_toList_iff]; simp; exact .inr (by simpa using hp))
    rw [e]
    exact id

theorem effR_congr {o : Oper} {ρ ρ' : Operand → AV} {box : Nat → Option (List (List AV))} {v : AV} (h : ∀ x ∈ o.op.operands, ρ x = ρ' x) : EffR P o ρ box v → EffR P o ρ' box v := by
  unfold EffR
  cases hop : o.op <;> rw [hop] at h <;> simp only [imp_self]
  case load T p => rw [h p (by simp [Op.operands])]; exact id

theorem effW_congr {base : Nat} {o : Oper} {ρ ρ' : Operand → AV} {box box' : Nat → Option (List (List AV))} {v : AV} (h : ∀ x ∈ o.op.operands, ρ x = ρ' x) : EffW P base o ρ box v box' → EffW P base o ρ' box v box' := by
  unfold EffW
  cases hop : o.op <;> rw [hop] at h <;> simp only [imp_self]
  case store T p x => rw [h p (by simp [Op.operands]), h x (by simp [Op.operands])]; exact id
  case box T x => rw [h x (by simp [Op.operands])]; exact id
  case makeSlice T l c => rw [h l (by simp [Op.operands]), h c (by simp [Op.operands])]; exact id

theorem effA_congr {o : Oper} {ρ ρ' : Operand → AV} {tok tok' : Nat → Bool} {nt nt' : Nat} {v : AV} (h : ∀ x ∈ o.op.operands, ρ x = ρ' x) : EffA P o ρ tok nt v tok' nt' → EffA P o ρ' tok nt v tok' nt' := by
  unfold EffA
  cases hop : o.op <;> rw [hop] at h <;> simp only [imp_self]
  case call c =>
    have e' : ∀ x, x ∈ c.args.toList → ρ x = ρ' x := fun x hx => h x (by simp only [Op.operands, Call.operands]; rw [← Array.mem_toList_iff]; simp; exact .inr (by simpa using hx))
    split
    · rename_i s x T T' h1 h2 h3
      rw [e' s (by rw [h2]; simp), e' x (by rw [h2]; simp)]
      exact id
    · exact id

theorem effC_congr {o : Oper} {ρ ρ' : Operand → AV} {tok tok' : Nat → Bool} {nt nt' : Nat} {v : AV} (h : ∀ x ∈ o.op.operands, ρ x = ρ' x) : EffC P o ρ tok nt v tok' nt' → EffC P o ρ' tok nt v tok' nt' := by
  unfold EffC
  cases hop : o.op <;> rw [hop] at h <;> simp only [imp_self]
  case call c =>
    have e : c.args.toList.map ρ = c.args.toList.map ρ' := List.map_congr_left fun p hp => h p (by simp only [Op.operands, Call.operands]; rw [← Array.mem_toList_iff]; simp; exact .inr (by simpa using hp))
    split
    · rename_i f h1
      rw [h f (by simp only [Op.operands, Call.operands, h1]; simp), e]
      exact id
    · exact id

theorem eff_congr {base : Nat} {o : Oper} {ρ ρ' : Operand → AV} {box box' : Nat → Option (List (List AV))} {tok tok' : Nat → Bool} {nt nt' : Nat} {v : AV} (h : ∀ x ∈ o.op.operands, ρ x = ρ' x) :
    Eff P base o ρ box tok nt v box' tok' nt' → Eff P base o ρ' box tok nt v box' tok' nt' := by
  unfold Eff
  split
  · exact fun ⟨h1, h2⟩ => ⟨effN_congr h h1, h2⟩
  · exact fun ⟨h1, h2⟩ => ⟨effR_congr h h1, h2⟩
  · exact fun ⟨h1, h2⟩ => ⟨effW_congr h h1, h2⟩
  · exact fun ⟨h1, h2⟩ => ⟨h1.imp (effA_congr h) (effC_congr h), h2⟩

/-! ### Two operations that do not touch one another -/
def maker : Op → Bool
  | .box .. => true
  | .makeSlice .. => true
  | _ => false

theorem effW_maker {base : Nat} {o : Oper} {ρ : Operand → AV} {b b' : Nat → Option (List (List AV))} {v : AV} (hm : maker o.op = true) (h : EffW P base o ρ b v b') :
    ∃ s rows, b (base + s) = none ∧ b' = upd b (base + s) (some rows) ∧ ∀ c, c (base + s) = none → EffW P base o ρ c v (upd c (base + s) (some rows)) := by
  unfold EffW at h ⊢
  cases hop : o.op <;> rw [hop] at hm h <;> first | cases hm | skip
  · simp only at h ⊢
    split at h
    · rename_i s cs h1 h2
      obtain ⟨g1, g2, g3⟩ := h
      exact ⟨s, [cs], g1, g3, fun c hc => by simp only [h1, h2]; exact ⟨hc, g2, by first | rfl | trivial⟩⟩
    · exact h.elim
  · simp only at h ⊢
    split at h
    · rename_i sz by' zs s k1 n k2 n' h1 h2 h3 h4
      obtain ⟨g1, g2, g3, g4, g5, g6⟩ := h
      exact ⟨s, _, g4, g6, fun c hc => by simp only [h1, h2, h3, h4]; exact ⟨g1, g2, g3, hc, g5, by first | rfl | trivial⟩⟩
    · exact h.elim

theorem upd_comm {α : Type} (f : Nat → α) {i j : Nat} (h : i ≠ j) (a b : α) : upd (upd f i a) j b = upd (upd f j b) i a := by
  funext k
  simp only [upd]
  by_cases h1 : k = i <;> by_cases h2 : k = j
  · exact absurd (h1.symm.trans h2) h
  · simp [h1, h2]; intro e; exact absurd e h
  · simp [h1, h2]; intro e; exact absurd e.symm h
  · simp [h1, h2]

def clash (a b : Oper) : Bool := match cls a.op, cls b.op with
  | .r, .w => true
  | .w, .r => true
  | .w, .w => !(maker a.op && maker b.op)
  | .t, .t => true
  | _, _ => false

theorem eff_swap {base : Nat} {x y : Oper} {ρ ρ' : Operand → AV} {b0 b1 b2 : Nat → Option (List (List AV))} {t0 t1 t2 : Nat → Bool} {n0 n1 n2 : Nat} {vx vy : AV} (hc : clash x y = false)
    (hx : Eff P base x ρ b0 t0 n0 vx b1 t1 n1) (hy : Eff P base y ρ' b1 t1 n1 vy b2 t2 n2) : ∃ c t n, Eff P base y ρ' b0 t0 n0 vy c t n ∧ Eff P base x ρ c t n vx b2 t2 n2 := by
  unfold Eff at hx hy ⊢
  unfold clash at hc
  cases h1 : cls x.op <;> cases h2 : cls y.op <;> simp only [h1, h2] at hc hx hy ⊢ <;> first | (exact absurd hc (by decide)) | skip
  · obtain ⟨e, rfl, rfl, rfl⟩ := hx; obtain ⟨e', rfl, rfl, rfl⟩ := hy; exact ⟨_, _, _, ⟨e', rfl, rfl, rfl⟩, e, rfl, rfl, rfl⟩
  · obtain ⟨e, rfl, rfl, rfl⟩ := hx; obtain ⟨e', rfl, rfl, rfl⟩ := hy; exact ⟨_, _, _, ⟨e', rfl, rfl, rfl⟩, e, rfl, rfl, rfl⟩
  · obtain ⟨e, rfl, rfl, rfl⟩ := hx; obtain ⟨e', rfl, rfl⟩ := hy; exact ⟨_, _, _, ⟨e', rfl, rfl⟩, e, rfl, rfl, rfl⟩
  · obtain ⟨e, rfl, rfl, rfl⟩ := hx; obtain ⟨e', rfl⟩ := hy; exact ⟨_, _, _, ⟨e', rfl⟩, e, rfl, rfl, rfl⟩
  · obtain ⟨e, rfl, rfl, rfl⟩ := hx; obtain ⟨e', rfl, rfl, rfl⟩ := hy; exact ⟨_, _, _, ⟨e', rfl, rfl, rfl⟩, e, rfl, rfl, rfl⟩
  · obtain ⟨e, rfl, rfl, rfl⟩ := hx; obtain ⟨e', rfl, rfl, rfl⟩ := hy; exact ⟨_, _, _, ⟨e', rfl, rfl, rfl⟩, e, rfl, rfl, rfl⟩
  · obtain ⟨e, rfl, rfl, rfl⟩ := hx; obtain ⟨e', rfl⟩ := hy; exact ⟨_, _, _, ⟨e', rfl⟩, e, rfl, rfl, rfl⟩
  · obtain ⟨e, rfl, rfl⟩ := hx; obtain ⟨e', rfl, rfl, rfl⟩ := hy; exact ⟨_, _, _, ⟨e', rfl, rfl, rfl⟩, e, rfl, rfl⟩
  · obtain ⟨e, rfl, rfl⟩ := hx
    obtain ⟨e', rfl, rfl⟩ := hy
    simp only [Bool.not_eq_false', Bool.and_eq_true] at hc
    obtain ⟨s, rows, g1, rfl, g3⟩ := effW_maker hc.1 e
    obtain ⟨s', rows', k1, rfl, k3⟩ := effW_maker hc.2 e'
    have hne : base + s ≠ base + s' := fun e => by rw [← e, upd_same] at k1; cases k1
    rw [upd_other _ _ (Ne.symm hne)] at k1
    refine ⟨_, _, _, ⟨k3 b0 k1, rfl, rfl⟩, ?_, rfl, rfl⟩
    rw [upd_comm _ hne]
    exact g3 _ (by rw [upd_other _ _ hne]; exact g1)
  · obtain ⟨e, rfl, rfl⟩ := hx; obtain ⟨e', rfl⟩ := hy; exact ⟨_, _, _, ⟨e', rfl⟩, e, rfl, rfl⟩
  · obtain ⟨e, rfl⟩ := hx; obtain ⟨e', rfl, rfl, rfl⟩ := hy; exact ⟨_, _, _, ⟨e', rfl, rfl, rfl⟩, e, rfl⟩
  · obtain ⟨e, rfl⟩ := hx; obtain ⟨e', rfl, rfl, rfl⟩ := hy; exact ⟨_, _, _, ⟨e', rfl, rfl, rfl⟩, e, rfl⟩
  · obtain ⟨e, rfl⟩ := hx; obtain ⟨e', rfl, rfl⟩ := hy; exact ⟨_, _, _, ⟨e', rfl, rfl⟩, e, rfl⟩

/-- A guarded operation as one effect: what it does, or nothing. -/
def GEff (P : Program) (base : Nat) (ops : Array Oper) (o : Oper) (S : AState) (v : AV) (box' : Nat → Option (List (List AV))) (tok' : Nat → Bool) (nt' : Nat) : Prop := match o.guard with
  | none => Eff P base o S.ev S.box S.tok S.nt v box' tok' nt'
  | some (j, want) => match yieldA ops S j with
    | some b => if b = some want then Eff P base o S.ev S.box S.tok S.nt v box' tok' nt' else v = .tup [] ∧ box' = S.box ∧ tok' = S.tok ∧ nt' = S.nt
    | none => False

theorem gstep_iff {base : Nat} {ops : Array Oper} {o : Oper} {S S' : AState} : GStep P base ops o S S' ↔ ∃ v box' tok' nt', GEff P base ops o S v box' tok' nt' ∧ S' = ⟨putT S.tmps o.dst v, box', tok', nt'⟩ := by
  cases hg : o.guard with
  | none => simp only [GStep, GEff, hg, Step]
  | some q =>
    obtain ⟨j, want⟩ := q
    simp only [GStep, GEff, hg]
    cases hy : yieldA ops S j with
    | none =>
      simp only
      exact ⟨False.elim, fun ⟨_, _, _, _, h, _⟩ => h⟩
    | some b =>
      simp only
      by_cases hb : b = some want
      · simp only [hb, ↓reduceIte, Step]
      · simp only [hb, ↓reduceIte]
        constructor
        · rintro rfl
          exact ⟨_, _, _, _, ⟨rfl, rfl, rfl, rfl⟩, rfl⟩
        · rintro ⟨v, b, t, n, ⟨rfl, rfl, rfl, rfl⟩, rfl⟩
          rfl

theorem ev_put {S : AState} {o : Oper} {x : Operand} {v : AV} {b : Nat → Option (List (List AV))} {t : Nat → Bool} {n : Nat} (h : ∀ d, o.dst = some d → x ≠ .tmp d) : (⟨putT S.tmps o.dst v, b, t, n⟩ : AState).ev x = S.ev x := by
  cases x with
  | tmp s =>
    simp only [AState.ev, putT]
    cases hd : o.dst with
    | none => rfl
    | some d => exact upd_other _ _ (fun e => h d hd (by rw [e]))
  | const _ => rfl
  | global _ => rfl
  | func _ => rfl

theorem looks_operand {ops : Array Oper} {o : Oper} {x : Operand} (hx : x ∈ o.op.operands) {d : Tmp} (h : d ∉ o.looksAt ops) : x ≠ .tmp d := by
  rintro rfl
  apply h
  simp only [Oper.looksAt, List.mem_append, List.mem_filterMap]
  exact .inl ⟨.tmp d, by simpa using hx, rfl⟩

theorem looks_guard {ops : Array Oper} {o : Oper} {j : Nat} {want : Bool} (hg : o.guard = some (j, want)) {d : Tmp} (h : d ∉ o.looksAt ops) : (ops[j]?).bind (·.dst) ≠ some d := by
  intro e
  apply h
  simp only [Oper.looksAt, hg, List.mem_append]
  exact .inr (by simp [e])

theorem geff_put {base : Nat} {ops : Array Oper} {x y : Oper} {S : AState} {v vx : AV} {b b' : Nat → Option (List (List AV))} {t t' : Nat → Bool} {n n' : Nat} (h : ∀ d, x.dst = some d → d ∉ y.looksAt ops) :
    GEff P base ops y ⟨putT S.tmps x.dst vx, b, t, n⟩ v b' t' n' ↔ GEff P base ops y ⟨S.tmps, b, t, n⟩ v b' t' n' := by
  have hev : ∀ z ∈ y.op.operands, (⟨putT S.tmps x.dst vx, b, t, n⟩ : AState).ev z = (⟨S.tmps, b, t, n⟩ : AState).ev z := fun z hz => ev_put (S := ⟨S.tmps, b, t, n⟩) fun d hd => looks_operand hz (h d hd)
  have heff : Eff P base y (⟨putT S.tmps x.dst vx, b, t, n⟩ : AState).ev b t n v b' t' n' ↔ Eff P base y (⟨S.tmps, b, t, n⟩ : AState).ev b t n v b' t' n' :=
    ⟨eff_congr hev, eff_congr fun z hz => (hev z hz).symm⟩
  unfold GEff
  cases hg : y.guard with
  | none => simp only; exact heff
  | some q =>
    obtain ⟨j, want⟩ := q
    have hy : yieldA ops (⟨putT S.tmps x.dst vx, b, t, n⟩ : AState) j = yieldA ops (⟨S.tmps, b, t, n⟩ : AState) j := by
      unfold yieldA
      cases hd : (ops[j]?).bind (·.dst) with
      | none => rfl
      | some d =>
        simp only [putT]
        cases hx : x.dst with
        | none => rfl
        | some e =>
          simp only
          rw [upd_other _ _ (fun e' => looks_guard hg (h e hx) (by rw [hd, e']))]
    simp only [hy]
    split
    · split
      · exact heff
      · exact Iff.rfl
    · exact Iff.rfl

theorem putT_comm {f : Nat → AV} {x y : Option Tmp} {v u : AV} (h : ∀ d, x = some d → y ≠ some d) : putT (putT f x v) y u = putT (putT f y u) x v := by
  cases x <;> cases y <;> simp only [putT]
  rename_i d e
  have hne : d ≠ e := fun e' => h d rfl (by rw [e'])
  funext j
  simp only [upd]
  by_cases h1 : j = e <;> by_cases h2 : j = d
  · exact absurd (h2.symm.trans h1) hne
  · simp [h1, h2]
    intro e'
    exact absurd e'.symm hne
  · simp [h1, h2, hne]
  · simp [h1, h2]

theorem gstep_swap' {base : Nat} {ops : Array Oper} {x y : Oper} {S S1 S2 : AState} (hap : x.apart ops y = true) (sw : ∀ {c0 c1 c2 : Nat → Option (List (List AV))} {s0 s1 s2 : Nat → Bool} {m0 m1 m2 : Nat} {vx vy : AV}, Eff P base x S.ev c0 s0 m0 vx c1 s1 m1 → Eff P base y S.ev c1 s1 m1 vy c2 s2 m2 → ∃ c t n, Eff P base y S.ev c0 s0 m0 vy c t n ∧ Eff P base x S.ev c t n vx c2 s2 m2) (hx : GStep P base ops x S S1) (hy : GStep P base ops y S1 S2) :
    ∃ S1', GStep P base ops y S S1' ∧ GStep P base ops x S1' S2 := by
  obtain ⟨a1, a2, a3⟩ := Oper.apart_spec hap
  obtain ⟨vx, b1, t1, n1, ex, rfl⟩ := gstep_iff.1 hx
  obtain ⟨vy, b2, t2, n2, ey, rfl⟩ := gstep_iff.1 hy
  rw [geff_put (S := ⟨S.tmps, b1, t1, n1⟩) a1] at ey
  -- each is an effect, or nothing at all
  have key : ∃ c t n, GEff P base ops y S vy c t n ∧ GEff P base ops x ⟨S.tmps, c, t, n⟩ vx b2 t2 n2 := by
    have ydep : ∀ (b : Nat → Option (List (List AV))) t n, yieldA ops ⟨S.tmps, b, t, n⟩ = yieldA ops S := fun b t n => rfl
    have evdep : ∀ (b : Nat → Option (List (List AV))) t n, (⟨S.tmps, b, t, n⟩ : AState).ev = S.ev := fun b t n => by funext z; cases z <;> rfl
    unfold GEff at ex ey ⊢
    simp only [ydep, evdep] at ex ey ⊢
    -- part on the two guards
    cases hgx : x.guard with
    | none =>
      simp only [hgx] at ex ⊢
      cases hgy : y.guard with
      | none => simp only [hgy] at ey ⊢; exact sw ex ey
      | some q =>
        obtain ⟨j, want⟩ := q
        simp only [hgy] at ey ⊢
        cases hyj : yieldA ops S j with
        | none => rw [hyj] at ey; exact ey.elim
        | some b =>
          rw [hyj] at ey
          simp only at ey ⊢
          by_cases hb : b = some want
          · simp only [hb, ↓reduceIte] at ey ⊢; exact sw ex ey
          · simp only [hb, ↓reduceIte] at ey ⊢
            obtain ⟨rfl, rfl, rfl, rfl⟩ := ey
            exact ⟨_, _, _, ⟨rfl, rfl, rfl, rfl⟩, ex⟩
    | some qx =>
      obtain ⟨jx, wx⟩ := qx
      simp only [hgx] at ex ⊢
      cases hxj : yieldA ops S jx with
      | none => rw [hxj] at ex; exact ex.elim
      | some bx =>
        rw [hxj] at ex
        simp only at ex ⊢
        by_cases hbx : bx = some wx
        · simp only [hbx, ↓reduceIte] at ex ⊢
          cases hgy : y.guard with
          | none => simp only [hgy] at ey ⊢; exact sw ex ey
          | some q =>
            obtain ⟨j, want⟩ := q
            simp only [hgy] at ey ⊢
            cases hyj : yieldA ops S j with
            | none => rw [hyj] at ey; exact ey.elim
            | some b =>
              rw [hyj] at ey
              simp only at ey ⊢
              by_cases hb : b = some want
              · simp only [hb, ↓reduceIte] at ey ⊢; exact sw ex ey
              · simp only [hb, ↓reduceIte] at ey ⊢
                obtain ⟨rfl, rfl, rfl, rfl⟩ := ey
                exact ⟨_, _, _, ⟨rfl, rfl, rfl, rfl⟩, ex⟩
        · simp only [hbx, ↓reduceIte] at ex ⊢
          obtain ⟨rfl, rfl, rfl, rfl⟩ := ex
          exact ⟨b2, t2, n2, ey, rfl, rfl, rfl, rfl⟩
  obtain ⟨c, t, n, k1, k2⟩ := key
  refine ⟨_, gstep_iff.2 ⟨vy, c, t, n, k1, rfl⟩, gstep_iff.2 ⟨vx, b2, t2, n2, ?_, ?_⟩⟩
  · rw [geff_put (S := ⟨S.tmps, c, t, n⟩) a3]
    exact k2
  · rw [putT_comm (fun d hd => a2 d hd)]

theorem gstep_swap {base : Nat} {ops : Array Oper} {x y : Oper} {S S1 S2 : AState} (hap : x.apart ops y = true) (hc : clash x y = false) (hx : GStep P base ops x S S1) (hy : GStep P base ops y S1 S2) :
    ∃ S1', GStep P base ops y S S1' ∧ GStep P base ops x S1' S2 := gstep_swap' hap (fun h1 h2 => eff_swap hc h1 h2) hx hy

/-! ### Loads and stores at different boxes -/
def ptrOp : Op → Option Operand
  | .load _ p => some p
  | .store _ p _ => some p
  | _ => none

theorem effR_ptr {o : Oper} {p : Operand} {ρ : Operand → AV} {b : Nat → Option (List (List AV))} {v : AV} (ho : ptrOp o.op = some p) (hcl : cls o.op = .r) (h : EffR P o ρ b v) {k' : Nat} {rows : Option (List (List AV))} (hk : ∀ k i off, ρ p = .ptr k i off → k ≠ k') :
    EffR P o ρ (upd b k' rows) v := by
  cases hop : o.op <;> rw [hop] at ho hcl <;> simp only [ptrOp, cls, Option.some.injEq, reduceCtorEq] at ho hcl
  subst ho
  unfold EffR at h ⊢
  simp only [hop] at h ⊢
  split at h
  · rename_i ag n h1 h2
    split at h
    · rename_i h3; exact h
    · rename_i k i off h3
      rw [upd_other _ _ (hk k i off h3)]
      exact h
    · exact h.elim
  · exact h.elim

theorem effR_back {o : Oper} {p : Operand} {ρ : Operand → AV} {b : Nat → Option (List (List AV))} {v : AV} {k' : Nat} {rows : Option (List (List AV))} (ho : ptrOp o.op = some p) (hcl : cls o.op = .r) (hk : ∀ k i off, ρ p = .ptr k i off → k ≠ k')
    (h : EffR P o ρ (upd b k' rows) v) : EffR P o ρ b v := by
  have e : upd (upd b k' rows) k' (b k') = b := by
    funext j
    simp only [upd]
    split
    · rename_i e; rw [e]
    · rfl
  rw [← e]
  exact effR_ptr ho hcl h hk

theorem effW_ptr {base : Nat} {o : Oper} {p : Operand} {ρ : Operand → AV} {b b' : Nat → Option (List (List AV))} {v : AV} (ho : ptrOp o.op = some p) (hcl : cls o.op = .w) (h : EffW P base o ρ b v b') :
    ∃ k i off row, ρ p = .ptr k i off ∧ b' = upd b k row ∧ ∀ k' r', k' ≠ k → EffW P base o ρ (upd b k' r') v (upd (upd b k' r') k row) := by
  cases hop : o.op <;> rw [hop] at ho hcl <;> simp only [ptrOp, cls, Option.some.injEq, reduceCtorEq] at ho hcl
  subst ho
  unfold EffW at h
  simp only [hop] at h
  split at h
  · rename_i n cs k i off h1 h2 h3
    split at h
    · rename_i rows h4
      split at h
      · rename_i r h5
        obtain ⟨g1, g2, g3, g4⟩ := h
        refine ⟨k, i, off, _, h3, g4, fun k' r' hne => ?_⟩
        unfold EffW
        simp only [hop, h1, h2, h3, upd_other _ _ (Ne.symm hne), h4, h5]
        exact ⟨g1, g2, g3, by first | rfl | trivial⟩
      · exact h.elim
    · exact h.elim
  · exact h.elim

theorem upd_back {α : Type} (b : Nat → α) (k : Nat) (r : α) : upd (upd b k r) k (b k) = b := by
  funext j
  simp only [upd]
  split
  · rename_i e; rw [e]
  · rfl

theorem eff_far {base : Nat} {x y : Oper} {p q : Operand} {ρ : Operand → AV} {b0 b1 b2 : Nat → Option (List (List AV))} {t0 t1 t2 : Nat → Bool} {n0 n1 n2 : Nat} {vx vy : AV} (hp : ptrOp x.op = some p) (hq : ptrOp y.op = some q)
    (hk : ∀ k i off k' i' off', ρ p = .ptr k i off → ρ q = .ptr k' i' off' → k ≠ k')
    (hx : Eff P base x ρ b0 t0 n0 vx b1 t1 n1) (hy : Eff P base y ρ b1 t1 n1 vy b2 t2 n2) : ∃ c t n, Eff P base y ρ b0 t0 n0 vy c t n ∧ Eff P base x ρ c t n vx b2 t2 n2 := by
  have cl : ∀ {o : Oper} {p : Operand}, ptrOp o.op = some p → cls o.op = .r ∨ cls o.op = .w := by
    intro o p h
    cases hop : o.op <;> rw [hop] at h <;> simp only [ptrOp, reduceCtorEq] at h
    · exact .inl rfl
    · exact .inr rfl
  unfold Eff at hx hy ⊢
  rcases cl hp with h1 | h1 <;> rcases cl hq with h2 | h2 <;> simp only [h1, h2] at hx hy ⊢
  · obtain ⟨e, rfl, rfl, rfl⟩ := hx; obtain ⟨e', rfl, rfl, rfl⟩ := hy; exact ⟨_, _, _, ⟨e', rfl, rfl, rfl⟩, e, rfl, rfl, rfl⟩
  · obtain ⟨e, rfl, rfl, rfl⟩ := hx
    obtain ⟨e', rfl, rfl⟩ := hy
    obtain ⟨k', i', off', row, g1, rfl, g3⟩ := effW_ptr hq h2 e'
    exact ⟨_, _, _, ⟨e', rfl, rfl⟩, effR_ptr hp h1 e fun k i off hh => hk k i off k' i' off' hh g1, rfl, rfl, rfl⟩
  · obtain ⟨e, rfl, rfl⟩ := hx
    obtain ⟨e', rfl, rfl, rfl⟩ := hy
    obtain ⟨k', i', off', row, g1, rfl, g3⟩ := effW_ptr hp h1 e
    exact ⟨_, _, _, ⟨effR_back hq h2 (fun k i off hh => Ne.symm (hk k' i' off' k i off g1 hh)) e', rfl, rfl, rfl⟩, e, rfl, rfl⟩
  · obtain ⟨e, rfl, rfl⟩ := hx
    obtain ⟨e', rfl, rfl⟩ := hy
    obtain ⟨k, i, off, row, g1, rfl, g3⟩ := effW_ptr hp h1 e
    obtain ⟨k', i', off', row', g1', rfl, g3'⟩ := effW_ptr hq h2 e'
    have hne := hk _ _ _ _ _ _ g1 g1'
    have e2 := g3' k (b0 k) hne
    rw [upd_back] at e2
    refine ⟨_, _, _, ⟨e2, rfl, rfl⟩, ?_, rfl, rfl⟩
    rw [upd_comm _ hne]
    exact g3 k' row' (Ne.symm hne)

end Go.AM
