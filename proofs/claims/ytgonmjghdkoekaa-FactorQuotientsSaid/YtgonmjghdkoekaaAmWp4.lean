/-
  The abstract machine, sixteenth part: the rules for bodies, and the contract of a function out of its body.
-/
import Derived.Test.YtgonmjghdkoekaaAmWp3
namespace Go.AM
open Go
set_option linter.unusedSimpArgs false
set_option linter.unusedVariables false

variable {P : Program}

theorem RelS.drew {n nb : Nat} {G : Gh} {S : AState} {a : Act} {w : World} (h : RelS n nb G S a w) : RelS n nb G S a w.drew :=
  ⟨h.defers, h.size, fun t => (h.tmps t).mono Le.drew, h.mem.drew⟩

theorem dstOk_spec {n : Nat} {ops : Array Oper} (h : dstOk n ops = true) : ∀ (o : Oper) d, o ∈ ops → o.dst = some d → d < n := by
  intro o d ho hod
  have := List.all_eq_true.1 h o (by simpa using ho)
  rw [hod] at this
  simpa using this

def regionOk (n : Nat) (ops : Array Oper) (draw : Bool) : Bool := allocOk ops && dstOk n ops && (!draw || regOk ops)

theorem AT.region {cx : Cx} {nt0 id : Nat} {ops : Array Oper} {draw : Bool} {S : AState} {K : Exit → AState → Prop} (hf : P.follows .mixedOrders = true) (hnb : cx.base + cx.n ≤ cx.nb) (hok : regionOk cx.n ops draw = true)
    (h : ARegion P cx ops draw S (K .normal)) : AT P cx nt0 (.region id ops draw) S K := by
  simp only [regionOk, Bool.and_eq_true, Bool.or_eq_true, Bool.not_eq_true'] at hok
  obtain ⟨⟨hal, hdst⟩, hreg⟩ := hok
  intro G0 w0 he hn G a w hr hl
  have hd := dstOk_spec hdst
  obtain ⟨b, hb, hr1, hp, hkeep⟩ := preB_sound hnb ops.toList S.box (S := S) hr (fun o ho d hod => hd o d (by simpa using ho) hod) (allocOk_nodup hal) h
  have hl1 : LeC cx G0 w0 G w { S with box := b } := ⟨hl.1, fun k hk hg => by
    rw [← hl.2 k hk hg]
    refine hkeep k fun hm => ?_
    obtain ⟨o, ho, he⟩ := List.mem_filterMap.1 hm
    split at he
    · rename_i T s h1 h2
      simp only [Option.some.injEq] at he
      subst he
      exact absurd hk (by simp)
    · cases he⟩
  cases draw with
  | false =>
    simp only at hb
    refine wp_region ?_
    have := aops_sound (cx := cx) (Q := fun e a' w' => ∃ S' G', K e S' ∧ RelS cx.n cx.nb G' S' a' w' ∧ LeC cx G0 w0 G' w' S') (K := K .normal) (G0 := G0) (w0 := w0) hd hnb hal (fun S' a' w' G' h1 h2 h3 => ⟨S', G', h1, h2, h3⟩) ops.toList 0 { S with box := b } a w G (by simp) hp hr1 hl1 hb
    simpa [List.range_eq_range'] using this
  | true =>
    simp only at hb
    obtain ⟨S', hrun, hK⟩ := hb
    refine wp_region_any hf ?_
    have hreg' : regOk ops = true := by simpa using hreg
    have hrd : RelS cx.n cx.nb G { S with box := b } a w.drew := hr1.drew
    have hld : LeC cx G0 w0 G w.drew { S with box := b } := hl1.step ⟨Le.drew, fun k _ hg => ⟨hg, rfl⟩⟩
    refine any_sound (n := cx.n) (nb := cx.nb) (base := cx.base) (Sf := S') (G0 := G) (w0 := w.drew) (b0 := b) hreg' hal hdst hnb (fun a' w' G' h1 h2 => ⟨S', G', hK, h1, hld.step h2⟩) ops.size (Array.replicate ops.size false) (List.range ops.size) { S with box := b } a w.drew G (by simp) ?_ (by simp) ?_ (IRun.of_all hrun) hrd ?_ (LeK.refl _ _ _ _)
    · rw [List.filter_eq_self.2]
      intro i hi
      simp at hi
      simp [Array.getD, hi]
    · intro i o ho hlst
      have hi := (Array.getElem?_eq_some_iff.1 ho).1
      simp [Array.getD, hi] at hlst
    · intro i _ o ho
      exact hp o (by simpa using Array.mem_of_getElem? ho)

theorem AT.region2 {cx : Cx} {nt0 id : Nat} {ops : Array Oper} {S : AState} {K : Exit → AState → Prop} (hf : P.follows .mixedOrders = true) (hnb : cx.base + cx.n ≤ cx.nb) (hok : (allocOk ops && dstOk cx.n ops && regOk2 ops) = true) (hside : Side ops S)
    (h : ARegion P cx ops true S (fun S' => Far S' (ptrs ops.toList) ∧ K .normal S')) : AT P cx nt0 (.region id ops true) S K := by
  simp only [Bool.and_eq_true] at hok
  obtain ⟨⟨hal, hdst⟩, hreg⟩ := hok
  intro G0 w0 he hn G a w hr hl
  have hd := dstOk_spec hdst
  obtain ⟨b, hb, hr1, hp, hkeep⟩ := preB_sound hnb ops.toList S.box (S := S) hr (fun o ho d hod => hd o d (by simpa using ho) hod) (allocOk_nodup hal) h
  have hl1 : LeC cx G0 w0 G w { S with box := b } := ⟨hl.1, fun k hk hg => by
    rw [← hl.2 k hk hg]
    refine hkeep k fun hm => ?_
    obtain ⟨o, ho, he⟩ := List.mem_filterMap.1 hm
    split at he
    · rename_i T s h1 h2
      simp only [Option.some.injEq] at he
      subst he
      exact absurd hk (by simp)
    · cases he⟩
  simp only at hb
  obtain ⟨S', hrun, hfar, hK⟩ := hb
  refine wp_region_any hf ?_
  have hrd : RelS cx.n cx.nb G { S with box := b } a w.drew := hr1.drew
  have hld : LeC cx G0 w0 G w.drew { S with box := b } := hl1.step ⟨Le.drew, fun k _ hg => ⟨hg, rfl⟩⟩
  refine any_sound2 (n := cx.n) (nb := cx.nb) (base := cx.base) (Sf := S') (G0 := G) (w0 := w.drew) (b0 := b) hreg hal hdst hnb hfar (fun a' w' G' h1 h2 => ⟨S', G', hK, h1, hld.step h2⟩) ops.size (Array.replicate ops.size false) (List.range ops.size) { S with box := b } a w.drew G rfl hside (by simp) ?_ (by simp) ?_ (IRun.of_all hrun) hrd ?_ (LeK.refl _ _ _ _)
  · rw [List.filter_eq_self.2]
    intro i hi
    simp at hi
    simp [Array.getD, hi]
  · intro i o ho hlst
    have hi := (Array.getElem?_eq_some_iff.1 ho).1
    simp [Array.getD, hi] at hlst
  · intro i _ o ho
    exact hp o (by simpa using Array.mem_of_getElem? ho)

/-! ### Code -/
def awp (P : Program) (cx : Cx) (nt0 : Nat) : Code → AState → (Exit → AState → Prop) → Prop
  | .skip, S, K => K .normal S
  | .region _ ops draw, S, K => ARegion P cx ops draw S (K .normal)
  | .seq a b, S, K => awp P cx nt0 a S fun e S' => match e with
    | .normal => awp P cx nt0 b S' K
    | e => K e S'
  | .cond c a b, S, K => match S.ev c with
    | .d (.raw (.bool t)) => (t = true → awp P cx nt0 a S K) ∧ (t = false → awp P cx nt0 b S K)
    | _ => False
  | .block id c, S, K => awp P cx nt0 c S fun e S' => match e with
    | .exit j => if j = id then K .normal S' else K (.exit j) S'
    | e => K e S'
  | .loop c, S, K => AT P cx nt0 (.loop c) S K
  | .exit id, S, K => K (.exit id) S
  | .ret, S, K => K .ret S
  | _, _, _ => False

def codeOk (n : Nat) : Code → Bool
  | .region _ ops draw => regionOk n ops draw
  | .seq a b => codeOk n a && codeOk n b
  | .cond _ a b => codeOk n a && codeOk n b
  | .block _ c => codeOk n c
  | .loop c => codeOk n c
  | _ => true

theorem awp_sound {cx : Cx} {nt0 : Nat} (hf : P.follows .mixedOrders = true) (hnb : cx.base + cx.n ≤ cx.nb) : ∀ (c : Code) (S : AState) (K : Exit → AState → Prop), codeOk cx.n c = true → awp P cx nt0 c S K → AT P cx nt0 c S K := by
  intro c
  induction c with
  | skip => intro S K _ h G0 w0 he hn G a w hr hl; exact wp_skip ⟨S, G, h, hr, hl⟩
  | region id ops draw => intro S K hok h; exact AT.region hf hnb hok h
  | seq a b iha ihb =>
    intro S K hok h G0 w0 he hn G act w hr hl
    simp only [codeOk, Bool.and_eq_true] at hok
    refine wp_seq (wp_mono (iha S _ hok.1 h G0 w0 he hn G act w hr hl) ?_)
    rintro e a' w' ⟨S', G', h1, h2, h3⟩
    cases e with
    | normal => exact ihb S' K hok.2 h1 G0 w0 he hn G' a' w' h2 h3
    | _ => exact ⟨S', G', h1, h2, h3⟩
  | cond c a b iha ihb =>
    intro S K hok h G0 w0 he hn G act w hr hl
    simp only [codeOk, Bool.and_eq_true] at hok
    simp only [awp] at h
    split at h
    · rename_i t hc
      have h1 := hr.ev c
      rw [hc] at h1
      have h2 : act.eval c = .bool t := rawOf_spec rfl h1
      exact wp_cond_split h2 (fun ht => iha S K hok.1 (h.1 ht) G0 w0 he hn G act w hr hl) (fun ht => ihb S K hok.2 (h.2 ht) G0 w0 he hn G act w hr hl)
    · exact h.elim
  | block id c ih =>
    intro S K hok h G0 w0 he hn G act w hr hl
    refine wp_block (wp_mono (ih S _ hok h G0 w0 he hn G act w hr hl) ?_)
    rintro e a' w' ⟨S', G', h1, h2, h3⟩
    cases e with
    | exit j =>
      simp only [Exit.inBlock]
      simp only at h1
      split
      · rename_i e
        rw [if_pos e] at h1
        exact ⟨S', G', h1, h2, h3⟩
      · rename_i e
        rw [if_neg e] at h1
        exact ⟨S', G', h1, h2, h3⟩
    | _ => exact ⟨S', G', h1, h2, h3⟩
  | loop c ih => intro S K _ h; exact h
  | exit id => intro S K _ h G0 w0 he hn G a w hr hl; exact wp_exit ⟨S, G, h, hr, hl⟩
  | ret => intro S K _ h G0 w0 he hn G a w hr hl; exact wp_ret ⟨S, G, h, hr, hl⟩
  | _ => intro S K _ h; exact h.elim

theorem exists_least {p : Nat → Prop} (h : ∃ n, p n) : ∃ n, p n ∧ ∀ m, p m → n ≤ m := by
  obtain ⟨n, hn⟩ := h
  induction n using Nat.strongRecOn with
  | ind n ih =>
    by_cases hm : ∃ m, m < n ∧ p m
    · obtain ⟨m, hmn, hp⟩ := hm
      exact ih m hmn hp
    · exact ⟨n, hn, fun m hp => by
        rcases Nat.lt_or_ge m n with h | h
        · exact absurd ⟨m, h, hp⟩ hm
        · exact h⟩

/-- A loop: an invariant that a number bounds, which each round lowers. -/
theorem AT.loop {cx : Cx} {nt0 : Nat} {c : Code} {S : AState} {K : Exit → AState → Prop} (I : Nat → AState → Prop) (h0 : ∃ n S0, Weaks cx nt0 S S0 ∧ I n S0)
    (hstep : ∀ n S, I n S → AT P cx nt0 c S fun e S' => match e with
      | .normal => ∃ m S'', m < n ∧ Weaks cx nt0 S' S'' ∧ I m S''
      | e => K e S') : AT P cx nt0 (.loop c) S K := by
  classical
  obtain ⟨n0, S0, hw, hI⟩ := h0
  refine AT.weaks hw ?_
  intro G0 w0 he hn G a w hr hl
  let good : Act → World → Nat → Prop := fun a w n => ∃ S G, I n S ∧ RelS cx.n cx.nb G S a w ∧ LeC cx G0 w0 G w S
  refine wp_loop (fun a w => ∃ n, good a w n) (fun a w => if h : ∃ n, good a w n then Classical.choose (exists_least h) else 0) ⟨n0, S0, G, hI, hr, hl⟩ ?_
  intro a w hg
  obtain ⟨hc1, hc2⟩ := Classical.choose_spec (exists_least hg)
  have hmu : (if h : ∃ n, good a w n then Classical.choose (exists_least h) else 0) = Classical.choose (exists_least hg) := by rw [dif_pos hg]
  obtain ⟨S1, G1, hI1, hr1, hl1⟩ := hc1
  refine wp_mono (hstep _ S1 hI1 G0 w0 he hn G1 a w hr1 hl1) ?_
  rintro e a' w' ⟨S', G', h1, h2, h3⟩
  cases e with
  | normal =>
    obtain ⟨m, S'', hlt, ⟨out, loc, loc', fz, hwk⟩, hIm⟩ := h1
    obtain ⟨G'', hr'', hl'', _⟩ := hwk.sound he h3.1 h2 hn
    have hgood : good a' w' m := ⟨S'', G'', hIm, hr'', hl'', fun j hj hg => by rw [← h3.2 j hj hg, hwk.hb', hwk.hb, lb_out hj, lb_out hj]⟩
    refine ⟨⟨m, hgood⟩, ?_⟩
    have hex : ∃ n, good a' w' n := ⟨m, hgood⟩
    show (if h : ∃ n, good a' w' n then Classical.choose (exists_least h) else 0) < (if h : ∃ n, good a w n then Classical.choose (exists_least h) else 0)
    rw [dif_pos hex, dif_pos hg]
    exact Nat.lt_of_le_of_lt ((Classical.choose_spec (exists_least hex)).2 m hgood) hlt
  | _ => exact ⟨S', G', h1, h2, h3⟩

/-! ### The contract of a function, out of its body -/
def resA (P : Program) (S : AState) : ResultVar → Option AV
  | .tmp t => some (S.tmps t)
  | .cell a T => match aggT P T, szOf P T, S.tmps a with
    | some ag, some n, .ptr k i off => match S.box k with
      | some rows => match rows[i]? with
        | some r => loadA ag n r off
        | none => none
      | none => none
    | _, _, _ => none

def resAs (P : Program) (S : AState) : List ResultVar → Option (List AV)
  | [] => some []
  | r :: rs => match resA P S r, resAs P S rs with
    | some v, some vs => some (v :: vs)
    | _, _ => none

def packA : List AV → AV
  | [v] => v
  | vs => .tup vs

def Fin (P : Program) (cx : Cx) (nt0 : Nat) (rs : List ResultVar) (Q : AV → AMem → Prop) (S : AState) : Prop :=
  ∃ vs out loc fz av' m', resAs P S rs = some vs ∧ Weak cx nt0 out loc [] fz S ⟨fun _ => .bot, lb cx.base out [], m'.tok, m'.nt⟩ ∧ m'.box = lb cx.base out [] ∧ m'.nb = cx.base ∧
    To (fun k => lb cx.base out [] k ≠ none) (fun t => m'.nt = S.nt ∨ t < m'.nt) (fz.map fun x => (cx.base + x.1, x.2)) (packA vs) av' ∧ Q av' m'

theorem resA_sound {n nb : Nat} {G : Gh} {S : AState} {a : Act} {w : World} (hr : RelS n nb G S a w) {r : ResultVar} {v : AV} (h : resA P S r = some v) :
    ∃ u, ((match r with | .tmp t => pure (a.tmps.getD t undef) | .cell x T => do loadVar T (← asAddr (a.tmps.getD x undef))) : Sem Value).run P w = .ok u w ∧ RV G w v u := by
  cases r with
  | tmp t =>
    simp only [resA, Option.some.injEq] at h
    subst h
    exact ⟨_, rfl, hr.tmps t⟩
  | cell x T =>
    -- a load by the name
    have hE : EffR P { dst := none, op := .load T (.tmp x), type := T, pos := "", after := #[], guard := none } S.ev S.box v := by
      unfold EffR
      simp only [resA] at h
      simp only [AState.ev]
      cases h1 : aggT P T with
      | none => rw [h1] at h; cases h
      | some ag =>
        cases h2 : szOf P T with
        | none => rw [h1, h2] at h; cases h
        | some n =>
          rw [h1, h2] at h
          cases h3 : S.tmps x with
          | ptr k i off =>
            rw [h3] at h
            simp only at h ⊢
            cases h4 : S.box k with
            | none => rw [h4] at h; cases h
            | some rows =>
              rw [h4] at h
              simp only at h ⊢
              cases h5 : rows[i]? with
              | none => rw [h5] at h; cases h
              | some r => rw [h5] at h; exact h
          | _ => rw [h3] at h; cases h
    obtain ⟨u, h1, h2⟩ := effR_sound (ρv := a.eval) hE (fun y _ => hr.ev y) hr.mem
    refine ⟨u, ?_, h2⟩
    simp only [execOp, Instr.loadAt, Act.eval] at h1
    cases hp : a.tmps.getD x undef with
    | pointer q =>
      cases q with
      | none => rw [hp] at h1; simp [Instr.sureAddr, stuck, Sem.run] at h1
      | some q =>
        rw [hp] at h1
        simp only [hp, Instr.sureAddr, asAddr, Sem.run_bind, Sem.run_pure, Result.andThen_ok] at h1 ⊢
        cases hv : (loadVar T q).run P w with
        | ok u' w' => rw [hv] at h1; simp at h1; rw [h1.1, h1.2]
        | halt hh w' => rw [hv] at h1; simp at h1
    | _ => rw [hp] at h1; simp [Instr.sureAddr, stuck, Sem.run] at h1

theorem results_sound {n nb : Nat} {G : Gh} {S : AState} {a : Act} {w : World} (hr : RelS n nb G S a w) {fn : Func} {vs : List AV} (h : resAs P S fn.results.toList = some vs) : ∃ u, (results fn a.tmps).run P w = .ok u w ∧ RV G w (packA vs) u := by
  have key : ∀ (rs : List ResultVar) (vs : List AV), resAs P S rs = some vs → ∃ us, (rs.mapM (m := Sem) fun
      | .tmp t => pure (a.tmps.getD t undef)
      | .cell x T => do loadVar T (← asAddr (a.tmps.getD x undef))).run P w = .ok us w ∧ RVs G w vs us := by
    intro rs
    induction rs with
    | nil =>
      intro vs h
      simp only [resAs, Option.some.injEq] at h
      subst h
      exact ⟨[], rfl, RVs.nil⟩
    | cons r rs ih =>
      intro vs h
      simp only [resAs] at h
      split at h
      · rename_i v vs' h1 h2
        simp only [Option.some.injEq] at h
        subst h
        obtain ⟨u, g1, g2⟩ := resA_sound hr h1
        obtain ⟨us, g3, g4⟩ := ih vs' h2
        refine ⟨u :: us, ?_, g4.cons g2⟩
        rw [List.mapM_cons]
        simp only [Sem.run_bind, Sem.run_pure]
        rw [g1]
        simp only [Result.andThen_ok, g3, Sem.run_pure]
      · cases h
  obtain ⟨us, h1, h2⟩ := key fn.results.toList vs h
  have hrun : (results fn a.tmps).run P w = .ok (if h : us.toArray.size = 1 then us.toArray[0] else .tuple us.toArray) w := by
    unfold results
    rw [Array.mapM_eq_mapM_toList]
    simp only [map_eq_pure_bind, Sem.run_bind]
    erw [h1]
    simp only [Result.andThen_ok, Sem.run_pure]
  refine ⟨_, hrun, ?_⟩
  have hl := h2.1
  match vs, us, h2, hl with
  | [], [], h2, _ => exact .tup rfl h2.2
  | [v], [u], h2, _ => exact h2.2 0 (by simp) (by simp)
  | v1 :: v2 :: vs, u1 :: u2 :: us, h2, _ =>
    have : ¬ (u1 :: u2 :: us).toArray.size = 1 := by simp
    rw [dif_neg this]
    exact .tup h2.1 h2.2

def tlArgs (k : Nat) : List AV → List (Nat × AV)
  | [] => []
  | a :: r => (k, a) :: tlArgs (k + 1) r

theorem tl_tlArgs : ∀ (l : List AV) (k t : Nat), tl (tlArgs k l) t = if k ≤ t then l.getD (t - k) .bot else .bot
  | [], k, t => by simp [tlArgs, tl]
  | a :: l, k, t => by
    simp only [tlArgs, tl, tl_tlArgs l (k + 1) t]
    by_cases h : t = k
    · subst h; simp
    · by_cases h2 : k ≤ t
      · have h3 : k + 1 ≤ t := by omega
        have h4 : t - k = (t - (k + 1)) + 1 := by omega
        simp [h, h2, h3, h4]
      · have h3 : ¬ k + 1 ≤ t := by omega
        simp [h, h2, h3]

theorem ACalls.of_body {f : FuncId} {fn : Func} {c : Code} {args : List AV} {m : AMem} {Q : AV → AMem → Prop} (hfn : P.funcs[f]? = some fn) (hb : fn.body = some c) (hname : (fn.name == "runtime.NumGoroutine") = false)
    (hf : P.follows .mixedOrders = true) (_hok : true = true) (hn : args.length ≤ fn.ntmps)
    (h : lb m.nb m.box [] = m.box → (∀ t, m.tok t = true → t < m.nt) → AT P ⟨m.nb, m.nb + fn.ntmps, fn.ntmps, m.box⟩ m.nt c ⟨tl (tlArgs 0 args), lb m.nb m.box [], m.tok, m.nt⟩
      fun e S => (e = .normal ∨ e = .ret) ∧ Fin P ⟨m.nb, m.nb + fn.ntmps, fn.ntmps, m.box⟩ m.nt fn.results.toList Q S) : ACalls P f args m Q := by
  refine ⟨Enters.mk hfn (by rw [hb]; rfl) hname, fun G w vals hm hr => ?_⟩
  have hbox : lb m.nb m.box [] = m.box := by
    funext k
    simp only [lb, lk]
    split
    · rfl
    · rename_i hk
      exact (hm.nb k (by omega)).symm
  have hat := h hbox (fun t ht => (hm.toks t ht).1)
  refine calls_of_wp hfn hb ?_
  let cx : Cx := ⟨m.nb, m.nb + fn.ntmps, fn.ntmps, m.box⟩
  have hE : Entry cx m.nt G := by
    intro k rows hk hrows hg r hrm x hxm
    cases hgk : G.bx k with
    | none => exact absurd hgk hg
    | some y =>
      obtain ⟨b, sz⟩ := y
      obtain ⟨_, cs, e, _, _, hR, _⟩ := hm.box k rows b sz hrows hgk
      have hxf : x ∈ rows.flatten := List.mem_flatten.2 ⟨r, hrm, hxm⟩
      obtain ⟨i, hi, rfl⟩ := List.getElem_of_mem hxf
      refine (hR.2 i hi (by rw [← hR.1]; exact hi)).ok (fun k' y' hk' => ?_) (fun t ht => by rw [← hm.nt]; exact ht)
      rcases Nat.lt_or_ge k' m.nb with h1 | h1
      · exact h1
      · rw [hm.nobox k' (hm.nb k' h1)] at hk'; cases hk'
  have hS : RelS cx.n cx.nb G ⟨tl (tlArgs 0 args), lb m.nb m.box [], m.tok, m.nt⟩ { tmps := vals.toArray ++ Array.replicate (fn.ntmps - vals.toArray.size) undef, defers := [] } w := by
    refine ⟨rfl, ?_, fun t => ?_, ?_⟩
    · have := hr.1
      simp
      show _ = fn.ntmps
      omega
    · show RV G w (tl (tlArgs 0 args) t) _
      rw [tl_tlArgs]
      simp only [Nat.zero_le, ↓reduceIte, Nat.sub_zero]
      by_cases ht : t < args.length
      · have ht' : t < vals.length := by rw [← hr.1]; exact ht
        have h1 : args.getD t .bot = args[t] := by simp [ht]
        have h2 : (vals.toArray ++ Array.replicate (fn.ntmps - vals.toArray.size) undef).getD t undef = vals[t] := by
          simp only [Array.getD_eq_getD_getElem?]
          rw [Array.getElem?_append_left (by simpa using ht')]
          simp [ht']
        rw [h1, h2]
        exact hr.2 t ht ht'
      · have h1 : args.getD t .bot = .bot := by simp [ht]
        rw [h1]
        exact .bot
    · rw [hbox]
      constructor
      case box => exact hm.box
      case nobox => exact hm.nobox
      case inj => exact hm.inj
      case nb => intro k hk; exact hm.nb k (by simp only [cx] at hk; omega)
      case nt => exact hm.nt
      case toks => exact hm.toks
      case tokb => exact hm.tokb
      case tinj => exact hm.tinj
      case tnt => exact hm.tnt
      case fresh => exact hm.fresh
  have hL : LeC cx G w G w ⟨tl (tlArgs 0 args), lb m.nb m.box [], m.tok, m.nt⟩ := ⟨LeB.refl _ _ _, fun k hk _ => by
    show lb m.nb m.box [] k = m.box k
    rw [hbox]⟩
  refine wp_mono (hat G w hE (by rw [hm.nt]; exact Nat.le_refl _) G _ w hS hL) ?_
  rintro e a' w' ⟨S', G', ⟨he, hfin⟩, hr', hl'⟩
  obtain ⟨vs, out, loc, fz, av', m', g1, g2, g3, g4, g5, g6⟩ := hfin
  obtain ⟨u, hu, hru⟩ := results_sound hr' g1
  obtain ⟨G'', hr'', hl'', hto⟩ := g2.sound hE hl'.1 hr' (by rw [hm.nt]; exact Nat.le_refl _)
  have hfin2 : a'.defers = [] ∧ ∃ v, (results fn a'.tmps).run P w' = .ok v w' ∧ ∃ v_1 av m' G', Ending.returned v = .returned v_1 ∧ Q av m' ∧ m'.nb = m.nb ∧ RelM G' m' w' ∧ RV G' w' av v_1 ∧ Le G w G' w' ∧ ∀ k, G.bx k = none → G'.bx k = none ∧ m'.box k = m.box k := by
    refine ⟨hr'.defers, u, hu, u, av', m', G'', rfl, g6, g4, ?_, hto hru g5, ?_, ?_⟩
    · have hm'' := hr''.mem
      simp only at hm''
      constructor
      case box => intro k rows b sz hk hb; exact hm''.box k rows b sz (by rw [← g3]; exact hk) hb
      case nobox => intro k hk; exact hm''.nobox k (by rw [← g3]; exact hk)
      case inj => exact hm''.inj
      case nb =>
        intro k hk
        rw [g3]
        have : ¬ k < m.nb := by
          have : m'.nb = m.nb := g4
          omega
        simp [lb, lk, this]
      case nt => exact hm''.nt
      case toks => exact hm''.toks
      case tokb => exact hm''.tokb
      case tinj => exact hm''.tinj
      case tnt => exact hm''.tnt
      case fresh => exact hm''.fresh
    · refine ⟨hl''.os, hl''.tape, hl''.output, hl''.size, hl''.whole, hl''.part, fun k x hx => ?_, hl''.nt, hl''.tk⟩
      have hk : k < cx.base := by
        rcases Nat.lt_or_ge k m.nb with h1 | h1
        · exact h1
        · rw [hm.nobox k (hm.nb k h1)] at hx; cases hx
      rw [hl''.bx k hk]
      exact hx
    · intro k hk
      rcases Nat.lt_or_ge k cx.base with h1 | h1
      · refine ⟨by rw [hl''.bx k h1]; exact hk, ?_⟩
        have e1 := hl'.2 k h1 hk
        rw [g3, lb_out h1]
        rw [g2.hb, lb_out h1] at e1
        exact e1
      · have hn' : m'.box k = none := by
          rw [g3]
          have : ¬ k < m.nb := by simp only [cx] at h1; omega
          simp [lb, lk, this]
        exact ⟨hr''.mem.nobox k (by simp only; rw [← g3]; exact hn'), by rw [hn', hm.nb k h1]⟩
  rcases he with rfl | rfl
  · exact hfin2
  · exact hfin2

end Go.AM
