/-
  Parts of the proof, as merged from many texts: a machine over data, what the functions compute, plain laws.
-/
import Derived.Test.YtedpnmlgbjcpcaaGreatDoorMB2
set_option linter.unusedSimpArgs false
set_option linter.unusedVariables false
namespace Go.AM
open Go
variable {P : Program}
theorem RelS.drew {n nb : Nat} {G : Gh} {S : AState} {a : Act} {w : World} (h : RelS n nb G S a w) : RelS n nb G S a w.drew :=
  ⟨h.defers, h.size, fun t => (h.tmps t).mono Le.drew, h.mem.drew⟩
theorem dstOk_spec {n : Nat} {ops : Array Oper} (h : dstOk n ops = true) : ∀ (o : Oper) d, o ∈ ops → o.dst = some d → d < n := by
  intro o d ho hod
  have := List.all_eq_true.1 h o (by simpa using ho)
  rw [hod] at this
  simpa using this
def regionOk (n : Nat) (ops : Array Oper) (draw : Bool) : Bool := allocOk ops && dstOk n ops && (!draw || regOk ops)
theorem AT.region {cx : Cx} {nt0 id : Nat} {ops : Array Oper} {draw : Bool} {S : AState} {K : Exit → AState → Prop} (hf : P.follows .mixedOrders = true) (hnb : cx.base + cx.n ≤ cx.nb) (hok : regionOk cx.n ops draw = true)
    (h : ARegion P cx ops draw S (K .normal)) : AT P cx nt0 (.region id ops draw) S K := by
  simp only [regionOk, Bool.and_eq_true, Bool.or_eq_true, Bool.not_eq_true'] at hok
  obtain ⟨⟨hal, hdst⟩, hreg⟩ := hok
  intro G0 w0 he hn G a w hr hl
  have hd := dstOk_spec hdst
  obtain ⟨b, hb, hr1, hp, hkeep⟩ := preB_sound hnb ops.toList S.box (S := S) hr (fun o ho d hod => hd o d (by simpa using ho) hod) (allocOk_nodup hal) h
  have hl1 : LeC cx G0 w0 G w { S with box := b } := ⟨hl.1, fun k hk hg => by
    rw [← hl.2 k hk hg]
    refine hkeep k fun hm => ?_
    obtain ⟨o, ho, he⟩ := List.mem_filterMap.1 hm
    split at he
    · rename_i T s h1 h2
      simp only [Option.some.injEq] at he
      subst he
      exact absurd hk (by simp)
    · cases he⟩
  cases draw with
  | false =>
    simp only at hb
    refine wp_region ?_
    have := aops_sound (cx := cx) (Q := fun e a' w' => ∃ S' G', K e S' ∧ RelS cx.n cx.nb G' S' a' w' ∧ LeC cx G0 w0 G' w' S') (K := K .normal) (G0 := G0) (w0 := w0) hd hnb hal (fun S' a' w' G' h1 h2 h3 => ⟨S', G', h1, h2, h3⟩) ops.toList 0 { S with box := b } a w G (by simp) hp hr1 hl1 hb
    simpa [List.range_eq_range'] using this
  | true =>
    simp only at hb
    obtain ⟨S', hrun, hK⟩ := hb
    refine wp_region_any hf ?_
    have hreg' : regOk ops = true := by simpa using hreg
    have hrd : RelS cx.n cx.nb G { S with box := b } a w.drew := hr1.drew
    have hld : LeC cx G0 w0 G w.drew { S with box := b } := hl1.step ⟨Le.drew, fun k _ hg => ⟨hg, rfl⟩⟩
    refine any_sound (n := cx.n) (nb := cx.nb) (base := cx.base) (Sf := S') (G0 := G) (w0 := w.drew) (b0 := b) hreg' hal hdst hnb (fun a' w' G' h1 h2 => ⟨S', G', hK, h1, hld.step h2⟩) ops.size (Array.replicate ops.size false) (List.range ops.size) { S with box := b } a w.drew G (by simp) ?_ (by simp) ?_ (IRun.of_all hrun) hrd ?_ (LeK.refl _ _ _ _)
    · rw [List.filter_eq_self.2]
      intro i hi
      simp at hi
      simp [Array.getD, hi]
    · intro i o ho hlst
      have hi := (Array.getElem?_eq_some_iff.1 ho).1
      simp [Array.getD, hi] at hlst
    · intro i _ o ho
      exact hp o (by simpa using Array.mem_of_getElem? ho)
theorem AT.region2 {cx : Cx} {nt0 id : Nat} {ops : Array Oper} {S : AState} {K : Exit → AState → Prop} (hf : P.follows .mixedOrders = true) (hnb : cx.base + cx.n ≤ cx.nb) (hok : (allocOk ops && dstOk cx.n ops && regOk2 ops) = true) (hside : Side ops S)
    (h : ARegion P cx ops true S (fun S' => Far S' (ptrs ops.toList) ∧ K .normal S')) : AT P cx nt0 (.region id ops true) S K := by
  simp only [Bool.and_eq_true] at hok
  obtain ⟨⟨hal, hdst⟩, hreg⟩ := hok
  intro G0 w0 he hn G a w hr hl
  have hd := dstOk_spec hdst
  obtain ⟨b, hb, hr1, hp, hkeep⟩ := preB_sound hnb ops.toList S.box (S := S) hr (fun o ho d hod => hd o d (by simpa using ho) hod) (allocOk_nodup hal) h
  have hl1 : LeC cx G0 w0 G w { S with box := b } := ⟨hl.1, fun k hk hg => by
    rw [← hl.2 k hk hg]
    refine hkeep k fun hm => ?_
    obtain ⟨o, ho, he⟩ := List.mem_filterMap.1 hm
    split at he
    · rename_i T s h1 h2
      simp only [Option.some.injEq] at he
      subst he
      exact absurd hk (by simp)
    · cases he⟩
  simp only at hb
  obtain ⟨S', hrun, hfar, hK⟩ := hb
  refine wp_region_any hf ?_
  have hrd : RelS cx.n cx.nb G { S with box := b } a w.drew := hr1.drew
  have hld : LeC cx G0 w0 G w.drew { S with box := b } := hl1.step ⟨Le.drew, fun k _ hg => ⟨hg, rfl⟩⟩
  refine any_sound2 (n := cx.n) (nb := cx.nb) (base := cx.base) (Sf := S') (G0 := G) (w0 := w.drew) (b0 := b) hreg hal hdst hnb hfar (fun a' w' G' h1 h2 => ⟨S', G', hK, h1, hld.step h2⟩) ops.size (Array.replicate ops.size false) (List.range ops.size) { S with box := b } a w.drew G rfl hside (by simp) ?_ (by simp) ?_ (IRun.of_all hrun) hrd ?_ (LeK.refl _ _ _ _)
  · rw [List.filter_eq_self.2]
    intro i hi
    simp at hi
    simp [Array.getD, hi]
  · intro i o ho hlst
    have hi := (Array.getElem?_eq_some_iff.1 ho).1
    simp [Array.getD, hi] at hlst
  · intro i _ o ho
    exact hp o (by simpa using Array.mem_of_getElem? ho)
def awp (P : Program) (cx : Cx) (nt0 : Nat) : Code → AState → (Exit → AState → Prop) → Prop
  | .skip, S, K => K .normal S
  | .region _ ops draw, S, K => ARegion P cx ops draw S (K .normal)
  | .seq a b, S, K => awp P cx nt0 a S fun e S' => match e with
    | .normal => awp P cx nt0 b S' K
    | e => K e S'
  | .cond c a b, S, K => match S.ev c with
    | .d (.raw (.bool t)) => (t = true → awp P cx nt0 a S K) ∧ (t = false → awp P cx nt0 b S K)
    | _ => False
  | .block id c, S, K => awp P cx nt0 c S fun e S' => match e with
    | .exit j => if j = id then K .normal S' else K (.exit j) S'
    | e => K e S'
  | .loop c, S, K => AT P cx nt0 (.loop c) S K
  | .exit id, S, K => K (.exit id) S
  | .ret, S, K => K .ret S
  | _, _, _ => False
theorem exists_least {p : Nat → Prop} (h : ∃ n, p n) : ∃ n, p n ∧ ∀ m, p m → n ≤ m := by
  obtain ⟨n, hn⟩ := h
  induction n using Nat.strongRecOn with
  | ind n ih =>
    by_cases hm : ∃ m, m < n ∧ p m
    · obtain ⟨m, hmn, hp⟩ := hm
      exact ih m hmn hp
    · exact ⟨n, hn, fun m hp => by
        rcases Nat.lt_or_ge m n with h | h
        · exact absurd ⟨m, h, hp⟩ hm
        · exact h⟩
theorem AT.loop {cx : Cx} {nt0 : Nat} {c : Code} {S : AState} {K : Exit → AState → Prop} (I : Nat → AState → Prop) (h0 : ∃ n S0, Weaks cx nt0 S S0 ∧ I n S0)
    (hstep : ∀ n S, I n S → AT P cx nt0 c S fun e S' => match e with
      | .normal => ∃ m S'', m < n ∧ Weaks cx nt0 S' S'' ∧ I m S''
      | e => K e S') : AT P cx nt0 (.loop c) S K := by
  classical
  obtain ⟨n0, S0, hw, hI⟩ := h0
  refine AT.weaks hw ?_
  intro G0 w0 he hn G a w hr hl
  let good : Act → World → Nat → Prop := fun a w n => ∃ S G, I n S ∧ RelS cx.n cx.nb G S a w ∧ LeC cx G0 w0 G w S
  refine wp_loop (fun a w => ∃ n, good a w n) (fun a w => if h : ∃ n, good a w n then Classical.choose (exists_least h) else 0) ⟨n0, S0, G, hI, hr, hl⟩ ?_
  intro a w hg
  obtain ⟨hc1, hc2⟩ := Classical.choose_spec (exists_least hg)
  have hmu : (if h : ∃ n, good a w n then Classical.choose (exists_least h) else 0) = Classical.choose (exists_least hg) := by rw [dif_pos hg]
  obtain ⟨S1, G1, hI1, hr1, hl1⟩ := hc1
  refine wp_mono (hstep _ S1 hI1 G0 w0 he hn G1 a w hr1 hl1) ?_
  rintro e a' w' ⟨S', G', h1, h2, h3⟩
  cases e with
  | normal =>
    obtain ⟨m, S'', hlt, ⟨out, loc, loc', fz, hwk⟩, hIm⟩ := h1
    obtain ⟨G'', hr'', hl'', _⟩ := hwk.sound he h3.1 h2 hn
    have hgood : good a' w' m := ⟨S'', G'', hIm, hr'', hl'', fun j hj hg => by rw [← h3.2 j hj hg, hwk.hb', hwk.hb, lb_out hj, lb_out hj]⟩
    refine ⟨⟨m, hgood⟩, ?_⟩
    have hex : ∃ n, good a' w' n := ⟨m, hgood⟩
    show (if h : ∃ n, good a' w' n then Classical.choose (exists_least h) else 0) < (if h : ∃ n, good a w n then Classical.choose (exists_least h) else 0)
    rw [dif_pos hex, dif_pos hg]
    exact Nat.lt_of_le_of_lt ((Classical.choose_spec (exists_least hex)).2 m hgood) hlt
  | _ => exact ⟨S', G', h1, h2, h3⟩
def resA (P : Program) (S : AState) : ResultVar → Option AV
  | .tmp t => some (S.tmps t)
  | .cell a T => match aggT P T, szOf P T, S.tmps a with
    | some ag, some n, .ptr k i off => match S.box k with
      | some rows => match rows[i]? with
        | some r => loadA ag n r off
        | none => none
      | none => none
    | _, _, _ => none
def resAs (P : Program) (S : AState) : List ResultVar → Option (List AV)
  | [] => some []
  | r :: rs => match resA P S r, resAs P S rs with
    | some v, some vs => some (v :: vs)
    | _, _ => none
def packA : List AV → AV
  | [v] => v
  | vs => .tup vs
def Fin (P : Program) (cx : Cx) (nt0 : Nat) (rs : List ResultVar) (Q : AV → AMem → Prop) (S : AState) : Prop :=
  ∃ vs out loc fz av' m', resAs P S rs = some vs ∧ Weak cx nt0 out loc [] fz S ⟨fun _ => .bot, lb cx.base out [], m'.tok, m'.nt⟩ ∧ m'.box = lb cx.base out [] ∧ m'.nb = cx.base ∧
    To (fun k => lb cx.base out [] k ≠ none) (fun t => m'.nt = S.nt ∨ t < m'.nt) (fz.map fun x => (cx.base + x.1, x.2)) (packA vs) av' ∧ Q av' m'
theorem resA_sound {n nb : Nat} {G : Gh} {S : AState} {a : Act} {w : World} (hr : RelS n nb G S a w) {r : ResultVar} {v : AV} (h : resA P S r = some v) :
    ∃ u, ((match r with | .tmp t => pure (a.tmps.getD t undef) | .cell x T => do loadVar T (← asAddr (a.tmps.getD x undef))) : Sem Value).run P w = .ok u w ∧ RV G w v u := by
  cases r with
  | tmp t =>
    simp only [resA, Option.some.injEq] at h
    subst h
    exact ⟨_, rfl, hr.tmps t⟩
  | cell x T =>
    -- a load by the name
    have hE : EffR P { dst := none, op := .load T (.tmp x), type := T, pos := "", after := #[], guard := none } S.ev S.box v := by
      unfold EffR
      simp only [resA] at h
      simp only [AState.ev]
      cases h1 : aggT P T with
      | none => rw [h1] at h; cases h
      | some ag =>
        cases h2 : szOf P T with
        | none => rw [h1, h2] at h; cases h
        | some n =>
          rw [h1, h2] at h
          cases h3 : S.tmps x with
          | ptr k i off =>
            rw [h3] at h
            simp only at h ⊢
            cases h4 : S.box k with
            | none => rw [h4] at h; cases h
            | some rows =>
              rw [h4] at h
              simp only at h ⊢
              cases h5 : rows[i]? with
              | none => rw [h5] at h; cases h
              | some r => rw [h5] at h; exact h
          | _ => rw [h3] at h; cases h
    obtain ⟨u, h1, h2⟩ := effR_sound (ρv := a.eval) hE (fun y _ => hr.ev y) hr.mem
    refine ⟨u, ?_, h2⟩
    simp only [execOp, Instr.loadAt, Act.eval] at h1
    cases hp : a.tmps.getD x undef with
    | pointer q =>
      cases q with
      | none => rw [hp] at h1; simp [Instr.sureAddr, stuck, Sem.run] at h1
      | some q =>
        rw [hp] at h1
        simp only [hp, Instr.sureAddr, asAddr, Sem.run_bind, Sem.run_pure, Result.andThen_ok] at h1 ⊢
        cases hv : (loadVar T q).run P w with
        | ok u' w' => rw [hv] at h1; simp at h1; rw [h1.1, h1.2]
        | halt hh w' => rw [hv] at h1; simp at h1
    | _ => rw [hp] at h1; simp [Instr.sureAddr, stuck, Sem.run] at h1
theorem results_sound {n nb : Nat} {G : Gh} {S : AState} {a : Act} {w : World} (hr : RelS n nb G S a w) {fn : Func} {vs : List AV} (h : resAs P S fn.results.toList = some vs) : ∃ u, (results fn a.tmps).run P w = .ok u w ∧ RV G w (packA vs) u := by
  have key : ∀ (rs : List ResultVar) (vs : List AV), resAs P S rs = some vs → ∃ us, (rs.mapM (m := Sem) fun
      | .tmp t => pure (a.tmps.getD t undef)
      | .cell x T => do loadVar T (← asAddr (a.tmps.getD x undef))).run P w = .ok us w ∧ RVs G w vs us := by
    intro rs
    induction rs with
    | nil =>
      intro vs h
      simp only [resAs, Option.some.injEq] at h
      subst h
      exact ⟨[], rfl, RVs.nil⟩
    | cons r rs ih =>
      intro vs h
      simp only [resAs] at h
      split at h
      · rename_i v vs' h1 h2
        simp only [Option.some.injEq] at h
        subst h
        obtain ⟨u, g1, g2⟩ := resA_sound hr h1
        obtain ⟨us, g3, g4⟩ := ih vs' h2
        refine ⟨u :: us, ?_, g4.cons g2⟩
        rw [List.mapM_cons]
        simp only [Sem.run_bind, Sem.run_pure]
        rw [g1]
        simp only [Result.andThen_ok, g3, Sem.run_pure]
      · cases h
  obtain ⟨us, h1, h2⟩ := key fn.results.toList vs h
  have hrun : (results fn a.tmps).run P w = .ok (if h : us.toArray.size = 1 then us.toArray[0] else .tuple us.toArray) w := by
    unfold results
    rw [Array.mapM_eq_mapM_toList]
    simp only [map_eq_pure_bind, Sem.run_bind]
    erw [h1]
    simp only [Result.andThen_ok, Sem.run_pure]
  refine ⟨_, hrun, ?_⟩
  have hl := h2.1
  match vs, us, h2, hl with
  | [], [], h2, _ => exact .tup rfl h2.2
  | [v], [u], h2, _ => exact h2.2 0 (by simp) (by simp)
  | v1 :: v2 :: vs, u1 :: u2 :: us, h2, _ =>
    have : ¬ (u1 :: u2 :: us).toArray.size = 1 := by simp
    rw [dif_neg this]
    exact .tup h2.1 h2.2
def tlArgs (k : Nat) : List AV → List (Nat × AV)
  | [] => []
  | a :: r => (k, a) :: tlArgs (k + 1) r
theorem tl_tlArgs : ∀ (l : List AV) (k t : Nat), tl (tlArgs k l) t = if k ≤ t then l.getD (t - k) .bot else .bot
  | [], k, t => by simp [tlArgs, tl]
  | a :: l, k, t => by
    simp only [tlArgs, tl, tl_tlArgs l (k + 1) t]
    by_cases h : t = k
    · subst h; simp
    · by_cases h2 : k ≤ t
      · have h3 : k + 1 ≤ t := by omega
        have h4 : t - k = (t - (k + 1)) + 1 := by omega
        simp [h, h2, h3, h4]
      · have h3 : ¬ k + 1 ≤ t := by omega
        simp [h, h2, h3]
theorem ACalls.of_body {f : FuncId} {fn : Func} {c : Code} {args : List AV} {m : AMem} {Q : AV → AMem → Prop} (hfn : P.funcs[f]? = some fn) (hb : fn.body = some c) (hname : (fn.name == "runtime.NumGoroutine") = false)
    (hf : P.follows .mixedOrders = true) (_hok : true = true) (hn : args.length ≤ fn.ntmps)
    (h : lb m.nb m.box [] = m.box → (∀ t, m.tok t = true → t < m.nt) → AT P ⟨m.nb, m.nb + fn.ntmps, fn.ntmps, m.box⟩ m.nt c ⟨tl (tlArgs 0 args), lb m.nb m.box [], m.tok, m.nt⟩
      fun e S => (e = .normal ∨ e = .ret) ∧ Fin P ⟨m.nb, m.nb + fn.ntmps, fn.ntmps, m.box⟩ m.nt fn.results.toList Q S) : ACalls P f args m Q := by
  refine ⟨Enters.mk hfn (by rw [hb]; rfl) hname, fun G w vals hm hr => ?_⟩
  have hbox : lb m.nb m.box [] = m.box := by
    funext k
    simp only [lb, lk]
    split
    · rfl
    · rename_i hk
      exact (hm.nb k (by omega)).symm
  have hat := h hbox (fun t ht => (hm.toks t ht).1)
  refine calls_of_wp hfn hb ?_
  let cx : Cx := ⟨m.nb, m.nb + fn.ntmps, fn.ntmps, m.box⟩
  have hE : Entry cx m.nt G := by
    intro k rows hk hrows hg r hrm x hxm
    cases hgk : G.bx k with
    | none => exact absurd hgk hg
    | some y =>
      obtain ⟨b, sz⟩ := y
      obtain ⟨_, cs, e, _, _, hR, _⟩ := hm.box k rows b sz hrows hgk
      have hxf : x ∈ rows.flatten := List.mem_flatten.2 ⟨r, hrm, hxm⟩
      obtain ⟨i, hi, rfl⟩ := List.getElem_of_mem hxf
      refine (hR.2 i hi (by rw [← hR.1]; exact hi)).ok (fun k' y' hk' => ?_) (fun t ht => by rw [← hm.nt]; exact ht)
      rcases Nat.lt_or_ge k' m.nb with h1 | h1
      · exact h1
      · rw [hm.nobox k' (hm.nb k' h1)] at hk'; cases hk'
  have hS : RelS cx.n cx.nb G ⟨tl (tlArgs 0 args), lb m.nb m.box [], m.tok, m.nt⟩ { tmps := vals.toArray ++ Array.replicate (fn.ntmps - vals.toArray.size) undef, defers := [] } w := by
    refine ⟨rfl, ?_, fun t => ?_, ?_⟩
    · have := hr.1
      simp
      show _ = fn.ntmps
      omega
    · show RV G w (tl (tlArgs 0 args) t) _
      rw [tl_tlArgs]
      simp only [Nat.zero_le, ↓reduceIte, Nat.sub_zero]
      by_cases ht : t < args.length
      · have ht' : t < vals.length := by rw [← hr.1]; exact ht
        have h1 : args.getD t .bot = args[t] := by simp [ht]
        have h2 : (vals.toArray ++ Array.replicate (fn.ntmps - vals.toArray.size) undef).getD t undef = vals[t] := by
          simp only [Array.getD_eq_getD_getElem?]
          rw [Array.getElem?_append_left (by simpa using ht')]
          simp [ht']
        rw [h1, h2]
        exact hr.2 t ht ht'
      · have h1 : args.getD t .bot = .bot := by simp [ht]
        rw [h1]
        exact .bot
    · rw [hbox]
      constructor
      case box => exact hm.box
      case nobox => exact hm.nobox
      case inj => exact hm.inj
      case nb => intro k hk; exact hm.nb k (by simp only [cx] at hk; omega)
      case nt => exact hm.nt
      case toks => exact hm.toks
      case tokb => exact hm.tokb
      case tinj => exact hm.tinj
      case tnt => exact hm.tnt
      case fresh => exact hm.fresh
  have hL : LeC cx G w G w ⟨tl (tlArgs 0 args), lb m.nb m.box [], m.tok, m.nt⟩ := ⟨LeB.refl _ _ _, fun k hk _ => by
    show lb m.nb m.box [] k = m.box k
    rw [hbox]⟩
  refine wp_mono (hat G w hE (by rw [hm.nt]; exact Nat.le_refl _) G _ w hS hL) ?_
  rintro e a' w' ⟨S', G', ⟨he, hfin⟩, hr', hl'⟩
  obtain ⟨vs, out, loc, fz, av', m', g1, g2, g3, g4, g5, g6⟩ := hfin
  obtain ⟨u, hu, hru⟩ := results_sound hr' g1
  obtain ⟨G'', hr'', hl'', hto⟩ := g2.sound hE hl'.1 hr' (by rw [hm.nt]; exact Nat.le_refl _)
  have hfin2 : a'.defers = [] ∧ ∃ v, (results fn a'.tmps).run P w' = .ok v w' ∧ ∃ v_1 av m' G', Ending.returned v = .returned v_1 ∧ Q av m' ∧ m'.nb = m.nb ∧ RelM G' m' w' ∧ RV G' w' av v_1 ∧ Le G w G' w' ∧ ∀ k, G.bx k = none → G'.bx k = none ∧ m'.box k = m.box k := by
    refine ⟨hr'.defers, u, hu, u, av', m', G'', rfl, g6, g4, ?_, hto hru g5, ?_, ?_⟩
    · have hm'' := hr''.mem
      simp only at hm''
      constructor
      case box => intro k rows b sz hk hb; exact hm''.box k rows b sz (by rw [← g3]; exact hk) hb
      case nobox => intro k hk; exact hm''.nobox k (by rw [← g3]; exact hk)
      case inj => exact hm''.inj
      case nb =>
        intro k hk
        rw [g3]
        have : ¬ k < m.nb := by
          have : m'.nb = m.nb := g4
          omega
        simp [lb, lk, this]
      case nt => exact hm''.nt
      case toks => exact hm''.toks
      case tokb => exact hm''.tokb
      case tinj => exact hm''.tinj
      case tnt => exact hm''.tnt
      case fresh => exact hm''.fresh
    · refine ⟨hl''.os, hl''.tape, hl''.output, hl''.size, hl''.whole, hl''.part, fun k x hx => ?_, hl''.nt, hl''.tk, hl''.ty⟩
      have hk : k < cx.base := by
        rcases Nat.lt_or_ge k m.nb with h1 | h1
        · exact h1
        · rw [hm.nobox k (hm.nb k h1)] at hx; cases hx
      rw [hl''.bx k hk]
      exact hx
    · intro k hk
      rcases Nat.lt_or_ge k cx.base with h1 | h1
      · refine ⟨by rw [hl''.bx k h1]; exact hk, ?_⟩
        have e1 := hl'.2 k h1 hk
        rw [g3, lb_out h1]
        rw [g2.hb, lb_out h1] at e1
        exact e1
      · have hn' : m'.box k = none := by
          rw [g3]
          have : ¬ k < m.nb := by simp only [cx] at h1; omega
          simp [lb, lk, this]
        exact ⟨hr''.mem.nobox k (by simp only; rw [← g3]; exact hn'), by rw [hn', hm.nb k h1]⟩
  rcases he with rfl | rfl
  · exact hfin2
  · exact hfin2
end Go.AM
namespace Go.AM
open Go
variable {P : Program}
theorem binOK_iff {op : BinOp} {T : TypeId} {a b r0 : Value} (h0 : r0.oneCell' = true) (h : ∀ x y w, Sem.run P (do eqGuard op T x y a b; binOp op T a b) w = .ok r0 w) (r : Value) : BinOK P op T a b r ↔ r = r0 := by
  constructor
  · intro hb
    have := hb.2 (.const a) (.const b) default
    rw [h] at this
    injection this with h1 _
    exact h1.symm
  · rintro rfl
    exact ⟨h0, h⟩
theorem unOK_iff {op : UnOp} {a r0 : Value} (h0 : r0.oneCell' = true) (h : ∀ w, Sem.run P (Op.unary op a) w = .ok r0 w) (r : Value) : UnOK P op a r ↔ r = r0 := by
  constructor
  · intro hb
    have := hb.2 default
    rw [h] at this
    injection this with h1 _
    exact h1.symm
  · rintro rfl
    exact ⟨h0, h⟩
section
variable (T : TypeId) (k : IntKind) (a b : Int) (r : Value)
@[simp] theorem bin_lss : BinOK P .lss T (.int k a) (.int k b) r ↔ r = .bool (decide (a < b)) := binOK_iff rfl (fun _ _ _ => by simp [binOp, Op.intCmp, eqGuard]) r
@[simp] theorem bin_leq : BinOK P .leq T (.int k a) (.int k b) r ↔ r = .bool (decide (a ≤ b)) := binOK_iff rfl (fun _ _ _ => by simp [binOp, Op.intCmp, eqGuard]) r
@[simp] theorem bin_gtr : BinOK P .gtr T (.int k a) (.int k b) r ↔ r = .bool (decide (b < a)) := binOK_iff rfl (fun _ _ _ => by simp [binOp, Op.intCmp, eqGuard]) r
@[simp] theorem bin_geq : BinOK P .geq T (.int k a) (.int k b) r ↔ r = .bool (decide (b ≤ a)) := binOK_iff rfl (fun _ _ _ => by simp [binOp, Op.intCmp, eqGuard]) r
@[simp] theorem bin_eql : BinOK P .eql T (.int k a) (.int k b) r ↔ r = .bool (a == b) := binOK_iff rfl (fun _ _ _ => by simp [binOp, Op.intCmp, eqGuard]) r
@[simp] theorem bin_neq : BinOK P .neq T (.int k a) (.int k b) r ↔ r = .bool (a != b) := binOK_iff rfl (fun _ _ _ => by simp [binOp, Op.intCmp, eqGuard]) r
@[simp] theorem bin_add : BinOK P .add T (.int k a) (.int k b) r ↔ r = .int k (k.wrap (a + b)) := binOK_iff rfl (fun _ _ _ => by simp [binOp, Op.intArith, eqGuard]) r
@[simp] theorem bin_sub : BinOK P .sub T (.int k a) (.int k b) r ↔ r = .int k (k.wrap (a - b)) := binOK_iff rfl (fun _ _ _ => by simp [binOp, Op.intArith, eqGuard]) r
@[simp] theorem bin_mul : BinOK P .mul T (.int k a) (.int k b) r ↔ r = .int k (k.wrap (a * b)) := binOK_iff rfl (fun _ _ _ => by simp [binOp, Op.intArith, eqGuard]) r
theorem bin_quo (h : b ≠ 0) : BinOK P .quo T (.int k a) (.int k b) r ↔ r = .int k (k.wrap (a.tdiv b)) := binOK_iff rfl (fun _ _ _ => by simp [binOp, Op.intDiv, eqGuard, h]) r
theorem bin_rem (h : b ≠ 0) : BinOK P .rem T (.int k a) (.int k b) r ↔ r = .int k (a.tmod b) := binOK_iff rfl (fun _ _ _ => by simp [binOp, Op.intDiv, eqGuard, h]) r
theorem bin_shr {k' : IntKind} (h : 0 ≤ b) : BinOK P .shr T (.int k a) (.int k' b) r ↔ r = .int k (a.fdiv (2 ^ min b.toNat k.bits)) := by
  have h' : ¬ b < 0 := by omega
  exact binOK_iff rfl (fun _ _ _ => by simp [binOp, Op.shift, eqGuard, h']) r
theorem bin_and : BinOK P .and T (.int k a) (.int k b) r ↔ r = .int k (k.wrap (BitVec.ofInt k.bits a &&& BitVec.ofInt k.bits b).toNat) := binOK_iff rfl (fun _ _ _ => by simp [binOp, Op.intBits, eqGuard]) r
theorem conv_int {S' T' : TypeId} {k' : IntKind} (hs : (P.underlying S').isSome = true) (ht : P.underlying T' = some (.int k')) : ConvOK P S' T' (.int k a) r ↔ r = .int k' (k'.wrap a) := by
  obtain ⟨u, hu⟩ := Option.isSome_iff_exists.1 hs
  have hr : ∀ w, Sem.run P (convert S' T' (.int k a)) w = .ok (.int k' (k'.wrap a)) w := by
    intro w
    simp only [convert, Sem.run_bind, run_underlying hu, run_underlying ht, Result.andThen_ok]
    cases u <;> simp [Conv.intToInt]
  constructor
  · intro hb
    have := hb.2 default
    rw [hr] at this
    injection this with h1 _
    exact h1.symm
  · rintro rfl
    exact ⟨rfl, hr⟩
@[simp] theorem un_not (t : Bool) : UnOK P .not (.bool t) r ↔ r = .bool (!t) := unOK_iff rfl (fun _ => by simp [Op.unary]) r
end
def boolT (P : Program) (T : TypeId) : Bool := match P.underlying T with | some .bool => true | _ => false
theorem boolT_spec {T : TypeId} (h : boolT P T = true) : P.underlying T = some .bool := by
  unfold boolT at h
  split at h
  · assumption
  · cases h
theorem run_equalIn_bool (d : Nat) {T : TypeId} (h : P.underlying T = some .bool) (a b : Bool) (w : World) : (Op.equalIn (d + 1) T (.bool a) (.bool b)).run P w = .ok (a == b) w := by
  simp [Op.equalIn, run_underlying h]
theorem run_eql_bool {T : TypeId} (h : P.underlying T = some .bool) (a b : Bool) (w : World) : (binOp .eql T (.bool a) (.bool b)).run P w = .ok (.bool (a == b)) w := by
  have := run_equalIn_bool 9999 h a b w
  simp only [binOp, Op.equal, Op.maxDepth, Sem.run_bind, this, Result.andThen_ok, Sem.run_pure]
theorem run_neq_bool {T : TypeId} (h : P.underlying T = some .bool) (a b : Bool) (w : World) : (binOp .neq T (.bool a) (.bool b)).run P w = .ok (.bool (!(a == b))) w := by
  have := run_equalIn_bool 9999 h a b w
  simp only [binOp, Op.equal, Op.maxDepth, Sem.run_bind, this, Result.andThen_ok, Sem.run_pure]
theorem bin_beql {T : TypeId} (h : boolT P T = true) (a b : Bool) : BinOK P .eql T (.bool a) (.bool b) (.bool (a == b)) :=
  (binOK_iff rfl (fun _ _ w => by rw [Sem.run_bind]; exact run_eql_bool (boolT_spec h) a b w) _).2 rfl
theorem bin_bneq {T : TypeId} (h : boolT P T = true) (a b : Bool) : BinOK P .neq T (.bool a) (.bool b) (.bool (!(a == b))) :=
  (binOK_iff rfl (fun _ _ w => by rw [Sem.run_bind]; exact run_neq_bool (boolT_spec h) a b w) _).2 rfl
theorem bin_seql {T : TypeId} (a b : ByteArray) : BinOK P .eql T (.string a) (.string b) (.bool (a.toList == b.toList)) :=
  (binOK_iff rfl (fun _ _ w => by rw [Sem.run_bind]; rfl) _).2 rfl
theorem bin_sneq {T : TypeId} (a b : ByteArray) : BinOK P .neq T (.string a) (.string b) (.bool !(a.toList == b.toList)) :=
  (binOK_iff rfl (fun _ _ w => by rw [Sem.run_bind]; rfl) _).2 rfl
theorem bin_slss {T : TypeId} (a b : ByteArray) : BinOK P .lss T (.string a) (.string b) (.bool (Op.bytesLess a.toList b.toList)) :=
  (binOK_iff rfl (fun _ _ w => by rw [Sem.run_bind]; rfl) _).2 rfl
theorem bin_sadd {T : TypeId} (a b : ByteArray) (h : a.size + b.size ≤ 1000000000000) : BinOK P .add T (.string a) (.string b) (.string (a ++ b)) :=
  (binOK_iff rfl (fun _ _ w => by
    have h2 : ¬ (((a.size + b.size : Nat) : Int) > IntKind.i64.max) := by
      have : IntKind.i64.max = 9223372036854775807 := rfl
      rw [this]; omega
    rw [Sem.run_bind]
    show Sem.run P (Op.stringOp .add a b) w = _
    unfold Op.stringOp
    simp only [h2, if_false]
    rfl) _).2 rfl
def eqT (P : Program) (T : TypeId) : Option Nat := match P.underlying T with
  | some (.struct fs) => if (fs.toList.all fun f => f.name != "_" && (match P.underlying f.type with | some (.int _) => true | _ => false)) && fs.toList.map (·.offset) == List.range fs.size && !P.stoodInHeld T && !P.eqGuardType P.depth T then some fs.size else none
  | _ => none
def intsOf : List Value → Option (List Int)
  | [] => some []
  | .int .i64 n :: r => (intsOf r).map (n :: ·)
  | _ :: _ => none
theorem intsOf_spec : ∀ {vs : List Value} {ns : List Int}, intsOf vs = some ns → vs = ns.map (.int .i64)
  | [], ns, h => by simp [intsOf] at h; subst h; rfl
  | v :: r, ns, h => by
    unfold intsOf at h
    split at h
    · cases ‹_ :: _ = []›
    · rename_i n r' heq
      cases heq
      obtain ⟨l, h1, h2⟩ := Option.map_eq_some_iff.1 h
      subst h2
      rw [intsOf_spec h1]
      rfl
    · cases h
theorem run_eqFields_ints (d : Nat) (w : World) : ∀ (fs : List Field) (i : Nat) (as1 bs : List Int), (∀ f ∈ fs, f.name ≠ "_" ∧ ∃ k, P.underlying f.type = some (.int k)) → fs.map (·.offset) = List.range' i fs.length → as1.length = i + fs.length → bs.length = i + fs.length →
    (Op.eqFields (d + 1) (as1.map (Value.int .i64)).toArray (bs.map (Value.int .i64)).toArray fs).run P w = .ok (decide (as1.drop i = bs.drop i)) w
  | [], i, as1, bs, _, _, ha, hb => by
    have h1 : as1.drop i = [] := List.drop_eq_nil_of_le (by simp at ha; omega)
    have h2 : bs.drop i = [] := List.drop_eq_nil_of_le (by simp at hb; omega)
    simp [Op.eqFields, h1, h2]
  | f :: fs, i, as1, bs, hf, ho, ha, hb => by
    obtain ⟨hn, k, hk⟩ := hf f (by simp)
    simp only [List.map_cons, List.length_cons, List.range'_succ, List.cons.injEq] at ho
    obtain ⟨ho1, ho2⟩ := ho
    simp only [List.length_cons] at ha hb
    have hia : i < as1.length := by omega
    have hib : i < bs.length := by omega
    have hag : aggT P f.type = some false := by simp [aggT, hk]
    have hpa : (part f.type (as1.map (Value.int .i64)).toArray f.offset).run P w = .ok (.int .i64 as1[i]) w := by
      simp only [part, Sem.run_bind, run_isAgg hag, Result.andThen_ok, Bool.false_eq_true, ↓reduceIte, ho1]
      simp [hia]
    have hpb : (part f.type (bs.map (Value.int .i64)).toArray f.offset).run P w = .ok (.int .i64 bs[i]) w := by
      simp only [part, Sem.run_bind, run_isAgg hag, Result.andThen_ok, Bool.false_eq_true, ↓reduceIte, ho1]
      simp [hib]
    have ih := run_eqFields_ints d w fs (i + 1) as1 bs (fun g hg => hf g (by simp [hg])) ho2 (by omega) (by omega)
    simp only [Op.eqFields, hn, ne_eq, not_false_eq_true, ↓reduceIte, Sem.run_bind, hpa, hpb, Result.andThen_ok, run_equalIn_int w d f.type .i64 k _ _ hk, Sem.run_ite, ih]
    have ea : as1.drop i = as1[i] :: as1.drop (i + 1) := List.drop_eq_getElem_cons hia
    have eb : bs.drop i = bs[i] :: bs.drop (i + 1) := List.drop_eq_getElem_cons hib
    by_cases e : as1[i] = bs[i]
    · have e2 : (as1.drop i = bs.drop i) ↔ (as1.drop (i + 1) = bs.drop (i + 1)) := by rw [ea, eb, e]; simp only [List.cons.injEq, true_and]
      simp [e, e2]
    · have e2 : ¬ (as1.drop i = bs.drop i) := by rw [ea, eb]; simp only [List.cons.injEq, e, false_and, not_false_eq_true]
      simp [e, e2]
theorem eqT_spec {T n : Nat} (h : eqT P T = some n) {as1 bs : List Int} (ha : as1.length = n) (hb : bs.length = n) (x y : Operand) (w : World) :
    (eqGuard .eql T x y (.agg (as1.map (Value.int .i64)).toArray) (.agg (bs.map (Value.int .i64)).toArray)).run P w = .ok () w ∧
    (eqGuard .neq T x y (.agg (as1.map (Value.int .i64)).toArray) (.agg (bs.map (Value.int .i64)).toArray)).run P w = .ok () w ∧
    (binOp .eql T (.agg (as1.map (Value.int .i64)).toArray) (.agg (bs.map (Value.int .i64)).toArray)).run P w = .ok (.bool (decide (as1 = bs))) w ∧
    (binOp .neq T (.agg (as1.map (Value.int .i64)).toArray) (.agg (bs.map (Value.int .i64)).toArray)).run P w = .ok (.bool (!decide (as1 = bs))) w := by
  unfold eqT at h
  split at h
  · rename_i fs hfs
    split at h
    · rename_i hc
      simp only [Bool.and_eq_true, Bool.not_eq_true', beq_iff_eq] at hc
      obtain ⟨⟨⟨h1, h2⟩, h3⟩, h4⟩ := hc
      simp only [Option.some.injEq] at h
      subst h
      have hfo : P.fieldsOf T = fs := by simp [Program.fieldsOf, hfs]
      have hun : P.underlying T = some (.struct (P.fieldsOf T)) := by rw [hfo, hfs]
      have hall : ∀ f ∈ fs.toList, f.name ≠ "_" ∧ ∃ k, P.underlying f.type = some (.int k) := by
        intro f hf
        have := List.all_eq_true.1 h1 f hf
        simp only [Bool.and_eq_true, bne_iff_ne, ne_eq] at this
        refine ⟨this.1, ?_⟩
        have h6 := this.2
        split at h6
        · rename_i k hk; exact ⟨k, hk⟩
        · cases h6
      have key : ∀ d, (Op.equalIn (d + 2) T (.agg (as1.map (Value.int .i64)).toArray) (.agg (bs.map (Value.int .i64)).toArray)).run P w = .ok (decide (as1 = bs)) w := by
        intro d
        rw [run_equalIn_struct w (d + 1) T _ _ hun h3, hfo, run_eqFields_ints d w fs.toList 0 as1 bs hall (by rw [h2]; simp [List.range_eq_range']) (by simpa using ha) (by simpa using hb)]
        simp
      refine ⟨run_eqGuard_agg w .eql T x y _ _ h4, run_eqGuard_agg w .neq T x y _ _ h4, ?_, ?_⟩
      · rw [run_eql_struct, key 9998]; rfl
      · rw [run_neq_struct, key 9998]; rfl
    · cases h
  · cases h
theorem wrap_in {n : Int} (h0 : -9223372036854775808 ≤ n) (h1 : n ≤ 9223372036854775807) : IntKind.i64.wrap n = n := by
  exact IntWalk.i64_in n ⟨h0, h1⟩
end Go.AM
namespace Go.AM
open Go
variable {P : Program}
def binF (P : Program) (op : BinOp) (T : TypeId) : Value → Value → Option (Prop × Value)
  | .int k a, .int k' b => match op with
    | .shr => some (0 ≤ b, .int k (a.fdiv (2 ^ min b.toNat k.bits)))
    | _ => match decide (k = k') with
      | true => match op with
        | .lss => some (True, .bool (decide (a < b)))
        | .leq => some (True, .bool (decide (a ≤ b)))
        | .gtr => some (True, .bool (decide (b < a)))
        | .geq => some (True, .bool (decide (b ≤ a)))
        | .eql => some (True, .bool (a == b))
        | .neq => some (True, .bool (a != b))
        | .add => some (True, .int k (k.wrap (a + b)))
        | .sub => some (True, .int k (k.wrap (a - b)))
        | .mul => some (True, .int k (k.wrap (a * b)))
        | .quo => some (b ≠ 0, .int k (k.wrap (a.tdiv b)))
        | .rem => some (b ≠ 0, .int k (a.tmod b))
        | .and => some (True, .int k (k.wrap (BitVec.ofInt k.bits a &&& BitVec.ofInt k.bits b).toNat))
        | _ => none
      | false => none
  | .bool a, .bool b => match boolT P T, op with
    | true, .eql => some (True, .bool (a == b))
    | true, .neq => some (True, .bool (!(a == b)))
    | _, _ => none
  | .string a, .string b => match op with
    | .eql => some (True, .bool (a.toList == b.toList))
    | .neq => some (True, .bool !(a.toList == b.toList))
    | .lss => some (True, .bool (Op.bytesLess a.toList b.toList))
    | .add => some (a.size + b.size ≤ 1000000000000, .string (a ++ b))
    | _ => none
  | .agg xs, .agg ys => match eqT P T, intsOf xs.toList, intsOf ys.toList with
    | some n, some as1, some bs => match op with
      | .eql => some (as1.length = n ∧ bs.length = n, .bool (decide (as1 = bs)))
      | .neq => some (as1.length = n ∧ bs.length = n, .bool (!decide (as1 = bs)))
      | _ => none
    | _, _, _ => none
  | _, _ => none
theorem binF_sound {op : BinOp} {T : TypeId} {a b r : Value} {φ : Prop} (h : binF P op T a b = some (φ, r)) (hφ : φ) : BinOK P op T a b r := by
  unfold binF at h
  split at h
  · rename_i k a k' b
    split at h
    · simp only [Option.some.injEq, Prod.mk.injEq] at h
      obtain ⟨rfl, rfl⟩ := h
      exact (bin_shr T k a b _ hφ).2 rfl
    · split at h
      · rename_i hk
        have hk' : k = k' := by simpa using hk
        subst hk'
        split at h <;> simp only [Option.some.injEq, Prod.mk.injEq, reduceCtorEq] at h <;> obtain ⟨rfl, rfl⟩ := h
        · simp
        · simp
        · simp
        · simp
        · simp
        · simp
        · simp
        · simp
        · simp
        · exact (bin_quo T k a b _ hφ).2 rfl
        · exact (bin_rem T k a b _ hφ).2 rfl
        · exact (bin_and T k a b _).2 rfl
      · cases h
  · rename_i a b
    split at h
    · rename_i hb
      simp only [Option.some.injEq, Prod.mk.injEq] at h
      obtain ⟨_, rfl⟩ := h
      exact bin_beql hb a b
    · rename_i hb
      simp only [Option.some.injEq, Prod.mk.injEq] at h
      obtain ⟨_, rfl⟩ := h
      exact bin_bneq hb a b
    · cases h
  · rename_i a b
    split at h
    · simp only [Option.some.injEq, Prod.mk.injEq] at h
      obtain ⟨_, rfl⟩ := h
      exact bin_seql a b
    · simp only [Option.some.injEq, Prod.mk.injEq] at h
      obtain ⟨_, rfl⟩ := h
      exact bin_sneq a b
    · simp only [Option.some.injEq, Prod.mk.injEq] at h
      obtain ⟨_, rfl⟩ := h
      exact bin_slss a b
    · simp only [Option.some.injEq, Prod.mk.injEq] at h
      obtain ⟨rfl, rfl⟩ := h
      exact bin_sadd a b hφ
    · cases h
  · rename_i xs ys
    split at h
    · rename_i n as1 bs h1 h2 h3
      have hx : xs = (as1.map (Value.int .i64)).toArray := by rw [← intsOf_spec h2]
      have hy : ys = (bs.map (Value.int .i64)).toArray := by rw [← intsOf_spec h3]
      subst hx; subst hy
      split at h
      · simp only [Option.some.injEq, Prod.mk.injEq] at h
        obtain ⟨rfl, rfl⟩ := h
        refine ⟨rfl, fun x y w => ?_⟩
        obtain ⟨g1, g2, g3, g4⟩ := eqT_spec h1 hφ.1 hφ.2 x y w
        simp only [Sem.run_bind, g1, Result.andThen_ok, g3]
      · simp only [Option.some.injEq, Prod.mk.injEq] at h
        obtain ⟨rfl, rfl⟩ := h
        refine ⟨rfl, fun x y w => ?_⟩
        obtain ⟨g1, g2, g3, g4⟩ := eqT_spec h1 hφ.1 hφ.2 x y w
        simp only [Sem.run_bind, g2, Result.andThen_ok, g4]
      · cases h
    · cases h
  · cases h
def unF (op : UnOp) : Value → Option Value
  | .bool t => match op with
    | .not => some (.bool (!t))
    | _ => none
  | _ => none
theorem unF_sound {op : UnOp} {a r : Value} (h : unF op a = some r) : UnOK P op a r := by
  unfold unF at h
  split at h
  · cases op <;> simp only [Option.some.injEq, reduceCtorEq] at h
    subst h
    simp
  · cases h
def lenF (P : Program) (T : TypeId) : AV → Option AV
  | .msl _ _ n _ => match elemT P T with
    | some _ => some (.d (.raw (.int .i64 n)))
    | none => none
  | .d (.raw (.string s)) => match strT P T with
    | true => some (.d (.raw (.int .i64 s.size)))
    | false => none
  | .d (.sl _ es) => match elemT P T with
    | some _ => some (.d (.raw (.int .i64 es.length)))
    | none => none
  | .osl _ es _ => match elemT P T with
    | some _ => some (.d (.raw (.int .i64 es.length)))
    | none => none
  | _ => none
theorem lenF_sound {T : TypeId} {x v : AV} (h : lenF P T x = some v) : lenOf P T x v := by
  unfold lenF at h
  unfold lenOf
  split at h
  · split at h <;> simp_all
  · split at h <;> simp_all
  · split at h <;> simp_all
  · split at h <;> simp_all
  · cases h
def idxF (P : Program) (T : TypeId) (x : AV) (n : Int) : Option (Prop × AV) := match rowT P T, x with
  | some (_, sz, _), .msl k off len sz' => some (0 ≤ n ∧ n < len ∧ sz' = sz, .ptr k (off + n.toNat) 0)
  | some (_, sz, _), .d (.sl _ es) => some (0 ≤ n ∧ n < es.length ∧ (es.getD n.toNat []).length = sz, .cptr (es.getD n.toNat []) 0)
  | some (_, sz, _), .osl _ es _ => some (0 ≤ n ∧ n < es.length ∧ (es.getD n.toNat []).length = sz, .cptr (es.getD n.toNat []) 0)
  | none, .cptr cs off => match arrT P T with
    | some (len, E) => match szOf P E with
      | some sz => some (0 ≤ n ∧ n < len, .cptr cs (off + n.toNat * sz))
      | none => none
    | none => none
  | _, _ => none
theorem getD_get {α : Type} {l : List α} {n : Int} {d : α} (h0 : 0 ≤ n) (h : n < l.length) : l[n.toNat]? = some (l.getD n.toNat d) := by
  have : n.toNat < l.length := by omega
  simp [this]
theorem idxF_sound {T : TypeId} {x v : AV} {n : Int} {φ : Prop} (h : idxF P T x n = some (φ, v)) (hφ : φ) : idxOf P T x n v := by
  unfold idxF at h
  split at h
  · rename_i hr
    simp only [Option.some.injEq, Prod.mk.injEq] at h
    obtain ⟨rfl, rfl⟩ := h
    simp only [idxOf, hr]
    exact ⟨hφ.1, hφ.2.1, hφ.2.2, by first | rfl | trivial⟩
  · rename_i hr
    simp only [Option.some.injEq, Prod.mk.injEq] at h
    obtain ⟨rfl, rfl⟩ := h
    simp only [idxOf, hr]
    exact ⟨hφ.1, _, getD_get hφ.1 hφ.2.1, hφ.2.2, rfl⟩
  · rename_i hr
    simp only [Option.some.injEq, Prod.mk.injEq] at h
    obtain ⟨rfl, rfl⟩ := h
    simp only [idxOf, hr]
    exact ⟨hφ.1, _, getD_get hφ.1 hφ.2.1, hφ.2.2, rfl⟩
  · rename_i hr
    split at h
    · rename_i ha
      split at h
      · rename_i hs
        simp only [Option.some.injEq, Prod.mk.injEq] at h
        obtain ⟨rfl, rfl⟩ := h
        simp only [idxOf, hr, ha, hs]
        exact ⟨hφ.1, hφ.2, by first | rfl | trivial⟩
      · cases h
    · cases h
  · cases h
def boundF (ρ : Operand → AV) (o : Option Operand) (d : Nat) : Option (Prop × Nat) := match o with
  | none => some (True, d)
  | some x => match ρ x with
    | .d (.raw (.int _ n)) => some (0 ≤ n, n.toNat)
    | _ => none
theorem boundF_sound {ρ : Operand → AV} {o : Option Operand} {d n : Nat} {φ : Prop} (h : boundF ρ o d = some (φ, n)) (hφ : φ) : optIs ρ o d n := by
  unfold boundF at h
  split at h
  · simp only [Option.some.injEq, Prod.mk.injEq] at h
    exact h.2.symm
  · rename_i x
    split at h
    · rename_i k m hx
      simp only [Option.some.injEq, Prod.mk.injEq] at h
      obtain ⟨rfl, rfl⟩ := h
      simp only [optIs, hx]
      omega
    · cases h
def sliceF (P : Program) (T : TypeId) (ρ : Operand → AV) (x : AV) (lo hi mx : Option Operand) : Option (Prop × AV) := match x with
  | .msl k off n sz => match rowT P T, mx, boundF ρ lo 0, boundF ρ hi n with
    | some (_, sz', _), none, some (φ, l), some (ψ, h) => some (sz' = sz ∧ φ ∧ ψ ∧ l ≤ h ∧ h ≤ n ∧ (l < n ∨ l = 0), .msl k (off + l) (h - l) sz)
    | _, _, _, _ => none
  | .d (.raw (.string s)) => match strT P T, mx, boundF ρ lo 0, boundF ρ hi s.size with
    | true, none, some (φ, l), some (ψ, h) => some (φ ∧ ψ ∧ l ≤ h ∧ h ≤ s.size, .d (.raw (.string (s.extract l h))))
    | _, _, _, _ => none
  | x => match rowT P T, x.elems? with
    | some (_, sz, _), some (sz', es) => match boundF ρ lo 0, boundF ρ hi es.length with
      | some (φ, l), some (ψ, h) => match mx with
        | none => some ((sz' = sz ∨ es = []) ∧ φ ∧ ψ ∧ l ≤ h ∧ h ≤ es.length, .d (.sl sz ((es.take h).drop l)))
        | some _ => match hi, boundF ρ mx 0 with
          | some _, some (χ, m) => some ((sz' = sz ∨ es = []) ∧ φ ∧ ψ ∧ χ ∧ m = h ∧ l ≤ h ∧ h ≤ es.length, .osl sz ((es.take h).drop l) .full)
          | _, _ => none
      | _, _ => none
    | _, _ => none
theorem sliceOf_other {T : TypeId} {ρ : Operand → AV} {x v : AV} {lo hi mx : Option Operand} (hnm : ∀ k off n sz, x = .msl k off n sz → False) (hns : ∀ s, x = .d (.raw (.string s)) → False) : sliceOf P T ρ x lo hi mx v ↔ match rowT P T, x.elems? with
    | some (_, sz, _), some (sz', es) => ∃ l q, (sz' = sz ∨ es = []) ∧ optIs ρ lo 0 l ∧ optIs ρ hi es.length q ∧ l ≤ q ∧ q ≤ es.length ∧
        (match mx with
          | none => v = .d (.sl sz ((es.take q).drop l))
          | some _ => hi.isSome = true ∧ optIs ρ mx 0 q ∧ v = .osl sz ((es.take q).drop l) .full)
    | _, _ => False := by
  unfold sliceOf
  split
  · rename_i k off n sz
    exact absurd rfl (hnm k off n sz)
  · rename_i s
    exact absurd rfl (hns s)
  · rfl
theorem sliceF_sound {T : TypeId} {ρ : Operand → AV} {x v : AV} {lo hi mx : Option Operand} {φ : Prop} (h : sliceF P T ρ x lo hi mx = some (φ, v)) (hφ : φ) : sliceOf P T ρ x lo hi mx v := by
  unfold sliceF at h
  split at h
  · rename_i k off n sz
    split at h
    · rename_i E sz' by' φ1 l ψ1 hh hT h1 h2
      simp only [Option.some.injEq, Prod.mk.injEq] at h
      obtain ⟨rfl, rfl⟩ := h
      simp only [sliceOf, hT]
      exact ⟨hφ.1, by first | rfl | trivial, l, hh, boundF_sound h1 hφ.2.1, boundF_sound h2 hφ.2.2.1, hφ.2.2.2.1, hφ.2.2.2.2.1, hφ.2.2.2.2.2, by first | rfl | trivial⟩
    · cases h
  · rename_i s
    split at h
    · rename_i φ1 l ψ1 hh hT h1 h2
      simp only [Option.some.injEq, Prod.mk.injEq] at h
      obtain ⟨rfl, rfl⟩ := h
      simp only [sliceOf]
      exact ⟨hT, by first | rfl | trivial, l, hh, boundF_sound h1 hφ.1, boundF_sound h2 hφ.2.1, hφ.2.2.1, hφ.2.2.2, by first | rfl | trivial⟩
    · cases h
  · rename_i hnm hns
    rw [sliceOf_other hnm hns]
    split at h
    · rename_i E sz by' sz' es hr he
      split at h
      · rename_i φ1 l ψ1 hh h1 h2
        split at h
        · simp only [Option.some.injEq, Prod.mk.injEq] at h
          obtain ⟨rfl, rfl⟩ := h
          exact ⟨l, hh, hφ.1, boundF_sound h1 hφ.2.1, boundF_sound h2 hφ.2.2.1, hφ.2.2.2.1, hφ.2.2.2.2, rfl⟩
        · split at h
          · rename_i χ m h3
            simp only [Option.some.injEq, Prod.mk.injEq] at h
            obtain ⟨rfl, rfl⟩ := h
            obtain ⟨g1, g2, g3, g4, rfl, g6, g7⟩ := hφ
            exact ⟨l, _, g1, boundF_sound h1 g2, boundF_sound h2 g3, g6, g7, rfl, boundF_sound h3 g4, rfl⟩
          · cases h
      · cases h
    · cases h
def kindT (P : Program) (T : TypeId) : Option IntKind := match P.underlying T with
  | some (.int k) => some k
  | _ => none
def convF (P : Program) (s t : TypeId) : Value → Option Value
  | .int _ n => match kindT P s, kindT P t with
    | some _, some k => some (.int k (k.wrap n))
    | _, _ => none
  | _ => none
theorem kindT_spec {T : TypeId} {k : IntKind} (h : kindT P T = some k) : P.underlying T = some (.int k) := by
  unfold kindT at h
  split at h
  · cases h; assumption
  · cases h
theorem convF_sound {s t : TypeId} {a r : Value} (h : convF P s t a = some r) : ConvOK P s t a r := by
  unfold convF at h
  split at h
  · rename_i k n
    split at h
    · rename_i ks kt h1 h2
      cases h
      exact (conv_int k n _ (by rw [kindT_spec h1]; rfl) (kindT_spec h2)).2 rfl
    · cases h
  · cases h
def fN (P : Program) (base : Nat) (o : Oper) (ρ : Operand → AV) : Option (Prop × AV) := match o.op with
  | .move x => some (True, ρ x)
  | .assign x => some (True, ρ x)
  | .pick c a b => match ρ c with
    | .d (.raw (.bool t)) => some (True, match t with | true => ρ a | false => ρ b)
    | _ => none
  | .alloc _ => match o.dst with
    | some s => some (True, .ptr (base + s) 0 0)
    | none => none
  | .build T parts => match structT P T, zeroT P T with
    | some pl, some zs => match fillA pl (zs.map ofVal1) (parts.toList.map fun p => (p.1, ρ p.2)) with
      | some cs => some (True, .agg cs)
      | none => none
    | _, _ => none
  | .buildSlice T len parts => match rowT P T, rowsOf (parts.toList.map fun p => ρ p.2) with
    | some (_, sz, _), some rows => some (parts.toList.map (·.1) = List.range len ∧ (∀ r ∈ rows, r.length = sz) ∧ len * sz ≤ 16777216, .osl sz rows .full)
    | _, _ => none
  | .nilCheck x => match ρ x with
    | .ptr k i off => some (True, .ptr k i off)
    | .cptr cs off => some (True, .cptr cs off)
    | .fn (.func f) caps => some (True, .fn (.func f) caps)
    | _ => none
  | .binOp op T x y _ => match rawOf (ρ x), rawOf (ρ y) with
    | some a, some b => match binF P op T a b with
      | some (φ, r) => some (φ, .d (.raw r))
      | none => none
    | _, _ => none
  | .unOp op _ x => match rawOf (ρ x) with
    | some a => match unF op a with
      | some r => some (True, .d (.raw r))
      | none => none
    | none => none
  | .convert s t x => match rawOf (ρ x) with
    | some a => match convF P s t a with
      | some r => some (True, .d (.raw r))
      | none => none
    | none => none
  | .makeFunc fn first caps => match first.toList with
    | [] => some (True, .fn fn (caps.toList.map ρ))
    | _ => none
  | .fieldAddr T x f => match structT P T with
    | some pl => match pl[f]?, ρ x with
      | some (off, n + 1), .cptr cs o' => some (True, .cptr cs (o' + off))
      | some (off, n + 1), .ptr k i o' => some (True, .ptr k i (o' + off))
      | _, _ => none
    | none => none
  | .field T x f => match fieldT P T f, ρ x with
    | some (ft, off), .agg cs => match aggT P ft, szOf P ft with
      | some ag, some n => match loadA ag n cs off with
        | some v => some (True, v)
        | none => none
      | _, _ => none
    | _, _ => none
  | .indexAddr T x i => match ρ i with
    | .d (.raw (.int _ n)) => idxF P T (ρ x) n
    | _ => none
  | .index T x i => match strT P T, ρ x, ρ i with
    | true, .d (.raw (.string s)), .d (.raw (.int _ n)) => some (0 ≤ n ∧ n < s.size, .d (.raw (.int .u8 (s.data.toList.getD n.toNat 0).toNat)))
    | _, _, _ => none
  | .extract t i => match ρ t with
    | .tup vs => match vs[i]? with
      | some v => some (True, v)
      | none => none
    | _ => none
  | .slice T x lo hi mx => sliceF P T ρ (ρ x) lo hi mx
  | .call c => match c.callee, c.args.toList.map ρ, c.argTypes.toList with
    | .builtin .len, [x], [T] => match lenF P T x with
      | some v => some (True, v)
      | none => none
    | .builtin .min, [.d (.raw (.int k a)), .d (.raw (.int _ b))], _ => some (True, .d (.raw (.int k (min a b))))
    | .builtin .max, [.d (.raw (.int k a)), .d (.raw (.int _ b))], _ => some (True, .d (.raw (.int k (max a b))))
    | .builtin .min, [.d (.raw (.string a)), .d (.raw (.string b))], _ => some (True, .d (.raw (.string (if Op.bytesLess a.toList b.toList || a.toList == b.toList then a else b))))
    | _, _, _ => none
  | _ => none
theorem builtin_min (ts : Array TypeId) (t : TypeId) (k k' : IntKind) (a b : Int) : BuiltinOK P .min ts t [.int k a, .int k' b] (.int k (min a b)) := by
  refine ⟨rfl, fun cs w => ?_⟩
  have e : min a b = if b < a then b else a := by omega
  rw [e]
  simp [builtin, Builtin.min_, Builtin.min2]
theorem builtin_max (ts : Array TypeId) (t : TypeId) (k k' : IntKind) (a b : Int) : BuiltinOK P .max ts t [.int k a, .int k' b] (.int k (max a b)) := by
  refine ⟨rfl, fun cs w => ?_⟩
  have e : max a b = if b > a then b else a := by omega
  rw [e]
  simp [builtin, Builtin.max_, Builtin.max2]
theorem builtin_smin (ts : Array TypeId) (t : TypeId) (a b : ByteArray) : BuiltinOK P .min ts t [.string a, .string b] (.string (if Op.bytesLess a.toList b.toList || a.toList == b.toList then a else b)) := by
  refine ⟨rfl, fun cs w => ?_⟩
  simp [builtin, Builtin.min_, Builtin.min2, Op.stringOp, asBool]
theorem fN_sound {base : Nat} {o : Oper} {ρ : Operand → AV} {φ : Prop} {v : AV} (h : fN P base o ρ = some (φ, v)) (hφ : φ) : EffN P base o ρ v := by
  unfold fN at h
  unfold EffN
  split at h
  · rename_i x ho; simp only [Option.some.injEq, Prod.mk.injEq] at h; simp only [ho]; exact h.2.symm
  · rename_i x ho; simp only [Option.some.injEq, Prod.mk.injEq] at h; simp only [ho]; exact h.2.symm
  · rename_i c a b ho
    split at h
    · rename_i t hc; simp only [Option.some.injEq, Prod.mk.injEq] at h; simp only [ho, hc]; exact h.2.symm
    · cases h
  · rename_i T ho
    split at h
    · rename_i s hs; simp only [Option.some.injEq, Prod.mk.injEq] at h; simp only [ho, hs]; exact h.2.symm
    · cases h
  · rename_i T parts ho
    split at h
    · rename_i pl zs h1 h2
      split at h
      · rename_i cs h3; simp only [Option.some.injEq, Prod.mk.injEq] at h; simp only [ho, h1, h2, h3]; exact h.2.symm
      · cases h
    · cases h
  · rename_i T len parts ho
    split at h
    · rename_i E sz by' rows h1 h2
      simp only [Option.some.injEq, Prod.mk.injEq] at h
      obtain ⟨rfl, rfl⟩ := h
      simp only [ho, h1, h2]
      exact ⟨hφ.1, hφ.2.1, hφ.2.2, by first | rfl | trivial⟩
    · cases h
  · rename_i x ho
    split at h
    · rename_i k i off hx; simp only [Option.some.injEq, Prod.mk.injEq] at h; simp only [ho, hx]; exact h.2.symm
    · rename_i cs off hx; simp only [Option.some.injEq, Prod.mk.injEq] at h; simp only [ho, hx]; exact h.2.symm
    · rename_i f caps hx; simp only [Option.some.injEq, Prod.mk.injEq] at h; simp only [ho, hx]; exact h.2.symm
    · cases h
  · rename_i op T x y T2 ho
    split at h
    · rename_i a b ha hb
      split at h
      · rename_i ψ r hr
        simp only [Option.some.injEq, Prod.mk.injEq] at h
        obtain ⟨rfl, rfl⟩ := h
        simp only [ho, ha, hb]
        exact ⟨r, binF_sound hr hφ, rfl⟩
      · cases h
    · cases h
  · rename_i op T x ho
    split at h
    · rename_i a ha
      split at h
      · rename_i r hr
        simp only [Option.some.injEq, Prod.mk.injEq] at h
        obtain ⟨rfl, rfl⟩ := h
        simp only [ho, ha]
        exact ⟨r, unF_sound hr, rfl⟩
      · cases h
    · cases h
  · rename_i s t x ho
    split at h
    · rename_i a ha
      split at h
      · rename_i r hr
        simp only [Option.some.injEq, Prod.mk.injEq] at h
        obtain ⟨rfl, rfl⟩ := h
        simp only [ho, ha]
        exact ⟨r, convF_sound hr, rfl⟩
      · cases h
    · cases h
  · rename_i fn first caps ho
    split at h
    · rename_i hf; simp only [Option.some.injEq, Prod.mk.injEq] at h; simp only [ho]; exact ⟨hf, h.2.symm⟩
    · cases h
  · rename_i T x f ho
    split at h
    · rename_i pl hpl
      split at h
      · rename_i off n cs o' h1 h2; simp only [Option.some.injEq, Prod.mk.injEq] at h; simp only [ho, hpl, h1, h2]; exact ⟨Nat.succ_ne_zero n, h.2.symm⟩
      · rename_i off n k i o' h1 h2; simp only [Option.some.injEq, Prod.mk.injEq] at h; simp only [ho, hpl, h1, h2]; exact ⟨Nat.succ_ne_zero n, h.2.symm⟩
      · cases h
    · cases h
  · rename_i T x f ho
    split at h
    · rename_i ft off cs h1 h2
      split at h
      · rename_i ag n h3 h4
        split at h
        · rename_i v' h5; simp only [Option.some.injEq, Prod.mk.injEq] at h; simp only [ho, h1, h2, h3, h4]; rw [h5, h.2]
        · cases h
      · cases h
    · cases h
  · rename_i T x i ho
    split at h
    · rename_i k n hi; simp only [ho, hi]; exact idxF_sound h hφ
    · cases h
  · rename_i T x i ho
    split at h
    · rename_i s k n h1 h2 h3
      simp only [Option.some.injEq, Prod.mk.injEq] at h
      obtain ⟨rfl, rfl⟩ := h
      simp only [ho, h2, h3]
      have hs : n.toNat < s.size := by omega
      refine ⟨h1, hφ.1, s[n.toNat], by rw [getElem?_pos s n.toNat hs], ?_⟩
      have e : s.data.toList.getD n.toNat 0 = s[n.toNat] := by
        have : n.toNat < s.data.toList.length := by simpa using hs
        rw [List.getD_eq_getElem?_getD, List.getElem?_eq_getElem this]
        rfl
      rw [e]
    · cases h
  · rename_i t i ho
    split at h
    · rename_i vs ht
      split at h
      · rename_i v' hv; simp only [Option.some.injEq, Prod.mk.injEq] at h; simp only [ho, ht]; rw [hv, h.2]
      · cases h
    · cases h
  · rename_i T x lo hi mx ho
    simp only [ho]
    exact sliceF_sound h hφ
  · rename_i c ho
    split at h
    · rename_i x T h1 h2 h3
      split at h
      · rename_i v' hv
        simp only [Option.some.injEq, Prod.mk.injEq] at h
        obtain ⟨_, rfl⟩ := h
        simp only [ho, h1, h2, h3]
        exact lenF_sound hv
      · cases h
    · rename_i k a k' b h1 h2
      simp only [Option.some.injEq, Prod.mk.injEq] at h
      obtain ⟨_, rfl⟩ := h
      simp only [ho, h1, h2, rawsOf, rawOf]
      exact ⟨_, builtin_min _ _ _ _ _ _, rfl⟩
    · rename_i k a k' b h1 h2
      simp only [Option.some.injEq, Prod.mk.injEq] at h
      obtain ⟨_, rfl⟩ := h
      simp only [ho, h1, h2, rawsOf, rawOf]
      exact ⟨_, builtin_max _ _ _ _ _ _, rfl⟩
    · rename_i a b h1 h2
      simp only [Option.some.injEq, Prod.mk.injEq] at h
      obtain ⟨_, rfl⟩ := h
      simp only [ho, h1, h2, rawsOf, rawOf]
      exact ⟨_, builtin_smin _ _ _ _, rfl⟩
    · cases h
  · cases h
end Go.AM
namespace Go.AM
open Go
variable {P : Program}
def fR (P : Program) (T : TypeId) (x : AV) (box : Nat → Option (List (List AV))) : Option AV := match aggT P T, szOf P T, x with
  | some ag, some n, .cptr cs off => loadD ag n cs off
  | some ag, some n, .ptr k i off => match box k with
    | some rows => match rows[i]? with
      | some r => loadA ag n r off
      | none => none
    | none => none
  | _, _, _ => none
theorem fR_sound {o : Oper} {T : TypeId} {p : Operand} {ρ : Operand → AV} {box : Nat → Option (List (List AV))} {v : AV} (ho : o.op = .load T p) (h : fR P T (ρ p) box = some v) : EffR P o ρ box v := by
  unfold fR at h
  unfold EffR
  simp only [ho]
  cases h1 : aggT P T with
  | none => rw [h1] at h; simp at h
  | some ag =>
    cases h2 : szOf P T with
    | none => rw [h1, h2] at h; simp at h
    | some n =>
      rw [h1, h2] at h
      simp only
      cases hx : ρ p with
      | cptr cs off => rw [hx] at h; exact h
      | ptr k i off =>
        rw [hx] at h
        simp only at h ⊢
        cases h4 : box k with
        | none => rw [h4] at h; simp at h
        | some rows =>
          rw [h4] at h
          simp only at h ⊢
          cases h5 : rows[i]? with
          | none => rw [h5] at h; simp at h
          | some r => rw [h5] at h; exact h
      | _ => rw [hx] at h; simp at h
def fW (P : Program) (base : Nat) (o : Oper) (ρ : Operand → AV) (box : Nat → Option (List (List AV))) : Option (Prop × AV × (Nat → Option (List (List AV)))) := match o.op with
  | .store T p x => match szOf P T, (ρ x).cells?, ρ p with
    | some n, some cs, .ptr k i off => match box k with
      | some rows => match rows[i]? with
        | some r => some (cs.length = n ∧ off + n ≤ r.length, .bot, upd box k (some (rows.set i (setCells r off cs))))
        | none => none
      | none => none
    | _, _, _ => none
  | .box _ x => match o.dst, (ρ x).cells? with
    | some s, some cs => match box (base + s) with
      | none => some (True, .ptr (base + s) 0 0, upd box (base + s) (some [cs]))
      | some _ => none
    | _, _ => none
  | .makeSlice T l c => match makeT P T, o.dst, ρ l, ρ c with
    | some (sz, by', zs), some s, .d (.raw (.int _ n)), .d (.raw (.int _ n')) => match box (base + s) with
      | none => some (n' = n ∧ 0 ≤ n ∧ n.toNat * by' ≤ 281474976710656, .msl (base + s) 0 n.toNat sz, upd box (base + s) (some (List.replicate n.toNat (zs.map ofVal1))))
      | some _ => none
    | _, _, _, _ => none
  | .call c => match c.callee, c.args.toList.map ρ, c.argTypes.toList with
    | .builtin .copy, [.msl k off n sz, y], [T, _] => match elemT P T with
      | some E => match szOf P E, box k, copySrc y box with
        | some 1, some rows, some (φ, src) => some (φ ∧ sz = 1 ∧ off + n ≤ rows.length, .d (.raw (.int .i64 ((min src.length n : Nat) : Int))), upd box k (some (rows.take off ++ src.take (min src.length n) ++ rows.drop (off + min src.length n))))
        | _, _, _ => none
      | none => none
    | _, _, _ => none
  | _ => none
theorem fW_sound {base : Nat} {o : Oper} {ρ : Operand → AV} {box box' : Nat → Option (List (List AV))} {v : AV} {φ : Prop} (h : fW P base o ρ box = some (φ, v, box')) (hφ : φ) : EffW P base o ρ box v box' := by
  unfold fW at h
  unfold EffW
  split at h
  · rename_i T p x ho
    split at h
    · rename_i n cs k i off h1 h2 h3
      split at h
      · rename_i rows h4
        split at h
        · rename_i r h5
          simp only [Option.some.injEq, Prod.mk.injEq] at h
          obtain ⟨rfl, rfl, rfl⟩ := h
          simp only [ho, h1, h2, h3, h4, h5]
          exact ⟨hφ.1, hφ.2, by first | rfl | trivial, by first | rfl | trivial⟩
        · cases h
      · cases h
    · cases h
  · rename_i T x ho
    split at h
    · rename_i s cs h1 h2
      split at h
      · rename_i h3
        simp only [Option.some.injEq, Prod.mk.injEq] at h
        obtain ⟨rfl, rfl, rfl⟩ := h
        simp only [ho, h1, h2]
        exact ⟨h3, by first | rfl | trivial, by first | rfl | trivial⟩
      · cases h
    · cases h
  · rename_i T l c ho
    split at h
    · rename_i sz by' zs s k1 n k2 n' h1 h2 h4 h5
      split at h
      · rename_i h3
        simp only [Option.some.injEq, Prod.mk.injEq] at h
        obtain ⟨rfl, rfl, rfl⟩ := h
        simp only [ho, h1, h2, h4, h5]
        exact ⟨hφ.1, hφ.2.1, hφ.2.2, h3, by first | rfl | trivial, by first | rfl | trivial⟩
      · cases h
    · cases h
  · rename_i c ho
    split at h
    · rename_i k off n sz y T T' h1 h2 h3
      split at h
      · rename_i E hE
        split at h
        · rename_i rows ψ src g1 g2 g3
          simp only [Option.some.injEq, Prod.mk.injEq] at h
          obtain ⟨rfl, rfl, rfl⟩ := h
          simp only [ho, h1, h2, h3, hE, Option.bind_some, g1, g2, g3]
          exact ⟨hφ.1, hφ.2.1, hφ.2.2, by first | rfl | trivial, by first | rfl | trivial⟩
        · cases h
      · cases h
    · cases h
  · cases h
def Own.liveP (tok : Nat → Bool) : Own → Prop
  | .full => True
  | .tok t => tok t = true
theorem Own.live_of {tok : Nat → Bool} {o : Own} (h : o.liveP tok) : o.live tok = true := by
  cases o with
  | full => rfl
  | tok t => exact h
def fA (P : Program) (c : Call) (ρ : Operand → AV) (tok : Nat → Bool) (nt : Nat) : Option (Prop × AV × (Nat → Bool)) := match c.args.toList, c.argTypes.toList with
  | [s, x], [T, T'] => match rowT P T, ρ s, (ρ x).elems? with
    | some (_, sz, by'), .osl sz0 es own, some (sz1, news) =>
      some (T' = T ∧ (sz0 = sz ∨ es = [] ∧ own = .full) ∧ (sz1 = sz ∨ news = []) ∧ (es.length + news.length) * by' ≤ 140737488355328 ∧ own.liveP tok, .osl sz (es ++ news) (.tok nt), upd (own.kill tok) nt true)
    | _, _, _ => strA P T T' (ρ s) (ρ x) tok nt
  | _, _ => none
theorem fA_sound {o : Oper} {c : Call} {ρ : Operand → AV} {tok tok' : Nat → Bool} {nt : Nat} {v : AV} {φ : Prop} (ho : o.op = .call c) (hc : c.callee = .builtin .append) (h : fA P c ρ tok nt = some (φ, v, tok')) (hφ : φ) : EffA P o ρ tok nt v tok' (nt + 1) := by
  unfold fA at h
  unfold EffA
  split at h
  · rename_i s x T T' h1 h2
    split at h
    · rename_i E sz by' sz0 es own sz1 news h3 h4 h5
      simp only [Option.some.injEq, Prod.mk.injEq] at h
      obtain ⟨rfl, rfl, rfl⟩ := h
      refine .inl ?_
      unfold EffA0
      simp only [ho, hc, h1, h2, h3, h4, h5]
      obtain ⟨g1, g2, g3, g4, g5⟩ := hφ
      exact ⟨g1, g2, g3, g4, Own.live_of g5, by first | rfl | trivial, by first | rfl | trivial, by first | rfl | trivial⟩
    · refine .inr ?_
      unfold EffS
      simp only [ho, hc, h1, h2]
      exact ⟨φ, h, hφ, by first | rfl | trivial⟩
  · cases h
def Stop (P : Program) (cx : Cx) (dr : Bool) (fid : FuncId) (args : List AV) (S : AState) (dst : Option Tmp) (K : AState → Prop) : Prop := match dr with
  | true => ∃ v tok' nt', RCall P fid args S.box S.tok S.nt v tok' nt' ∧ K ⟨putT S.tmps dst v, S.box, tok', nt'⟩
  | false => ACalls P fid args ⟨S.box, cx.nb, S.tok, S.nt⟩ fun v m' => K ⟨putT S.tmps dst v, m'.box, m'.tok, m'.nt⟩
theorem Stop.of_r {cx : Cx} {dr : Bool} {fid : FuncId} {args : List AV} {S : AState} {dst : Option Tmp} {K : AState → Prop} {v : AV} {tok' : Nat → Bool} {nt' : Nat} (h : RCall P fid args S.box S.tok S.nt v tok' nt') (hk : K ⟨putT S.tmps dst v, S.box, tok', nt'⟩) : Stop P cx dr fid args S dst K := by
  cases dr with
  | true => exact ⟨v, tok', nt', h, hk⟩
  | false =>
    refine (h S.box cx.nb (Ext.refl _)).mono ?_
    rintro v' m' ⟨rfl, rfl⟩
    exact hk
theorem Stop.of_d {cx : Cx} {dr : Bool} {fid : FuncId} {args : List AV} {S : AState} {dst : Option Tmp} {K : AState → Prop} {v : AV} {tok' : Nat → Bool} {nt' : Nat} (h : DCall P fid args S.tok S.nt v tok' nt') (hk : K ⟨putT S.tmps dst v, S.box, tok', nt'⟩) : Stop P cx dr fid args S dst K :=
  Stop.of_r (h.r _) hk
def FOne (P : Program) (cx : Cx) (dr : Bool) (o : Oper) (K : AState → Prop) (S : AState) : Prop := match o.op with
  | .load T p => match fR P T (S.ev p) S.box with
    | some v => K ⟨putT S.tmps o.dst v, S.box, S.tok, S.nt⟩
    | none => False
  | .store T p x => match fW P cx.base o S.ev S.box with
    | some (φ, v, b) => φ ∧ K ⟨putT S.tmps o.dst v, b, S.tok, S.nt⟩
    | none => False
  | .box T x => match fW P cx.base o S.ev S.box with
    | some (φ, v, b) => φ ∧ K ⟨putT S.tmps o.dst v, b, S.tok, S.nt⟩
    | none => False
  | .makeSlice T l c => match fW P cx.base o S.ev S.box with
    | some (φ, v, b) => φ ∧ K ⟨putT S.tmps o.dst v, b, S.tok, S.nt⟩
    | none => False
  | .binOp op T x y T' => match nilCmp P o S.ev with
    | some (t, es) => match dr with
      | true => False
      | false => ∀ b, (es ≠ [] → b = !t) → K ⟨putT S.tmps o.dst (.d (.raw (.bool b))), S.box, S.tok, S.nt⟩
    | none => match fN P cx.base o S.ev with
      | some (φ, v) => φ ∧ K ⟨putT S.tmps o.dst v, S.box, S.tok, S.nt⟩
      | none => False
  | .call c => match c.callee with
    | .builtin .append => match fA P c S.ev S.tok S.nt with
      | some (φ, v, tok') => φ ∧ K ⟨putT S.tmps o.dst v, S.box, tok', S.nt + 1⟩
      | none => False
    | .builtin .copy => match fW P cx.base o S.ev S.box with
      | some (φ, v, b) => φ ∧ K ⟨putT S.tmps o.dst v, b, S.tok, S.nt⟩
      | none => False
    | .value f => match S.ev f with
      | .fn (.func fid) caps => Stop P cx dr fid (c.args.toList.map S.ev ++ caps) S o.dst K
      | _ => False
    | _ => match fN P cx.base o S.ev with
      | some (φ, v) => φ ∧ K ⟨putT S.tmps o.dst v, S.box, S.tok, S.nt⟩
      | none => False
  | _ => match fN P cx.base o S.ev with
    | some (φ, v) => φ ∧ K ⟨putT S.tmps o.dst v, S.box, S.tok, S.nt⟩
    | none => False
def Gd (b want : Bool) (A B : AState → Prop) (S : AState) : Prop := (b = want → A S) ∧ (b = !want → B S)
theorem Gd.tt {A B : AState → Prop} {S : AState} : Gd true true A B S = A S := by simp [Gd]
theorem Gd.tf {A B : AState → Prop} {S : AState} : Gd true false A B S = B S := by simp [Gd]
theorem Gd.ft {A B : AState → Prop} {S : AState} : Gd false true A B S = B S := by simp [Gd]
theorem Gd.ff {A B : AState → Prop} {S : AState} : Gd false false A B S = A S := by simp [Gd]
theorem Gd.t {b : Bool} {A B : AState → Prop} {S : AState} (h1 : b = true → A S) (h2 : b = false → B S) : Gd b true A B S := ⟨h1, h2⟩
theorem Gd.f {b : Bool} {A B : AState → Prop} {S : AState} (h1 : b = true → B S) (h2 : b = false → A S) : Gd b false A B S := ⟨h2, h1⟩
def FSkip (dst : Option Tmp) (K : AState → Prop) (S : AState) : Prop := K ⟨putT S.tmps dst (.tup []), S.box, S.tok, S.nt⟩
def FOps (P : Program) (cx : Cx) (ops : Array Oper) (dr : Bool) : List Oper → (AState → Prop) → AState → Prop
  | [], K, S => K S
  | o :: r, K, S => match o.guard with
    | none => FOne P cx dr o (FOps P cx ops dr r K) S
    | some (j, want) => match yieldA ops S j with
      | some (some b) => Gd b want (FOne P cx dr o (FOps P cx ops dr r K)) (FSkip o.dst (FOps P cx ops dr r K)) S
      | some none => FSkip o.dst (FOps P cx ops dr r K) S
      | none => False
theorem step_n {base : Nat} {o : Oper} {S : AState} {v : AV} (hc : cls o.op = .n) (h : EffN P base o S.ev v) : Step P false base o S ⟨putT S.tmps o.dst v, S.box, S.tok, S.nt⟩ :=
  ⟨v, S.box, S.tok, S.nt, by unfold Eff; rw [hc]; exact ⟨h, rfl, rfl, rfl⟩, rfl⟩
theorem fOne_cases {cx : Cx} {dr : Bool} {o : Oper} {S : AState} {K : AState → Prop} (h : FOne P cx dr o K S) : (callFn o S.ev = none ∧ ∃ S1, Step P false cx.base o S S1 ∧ K S1) ∨
    (dr = false ∧ callFn o S.ev = none ∧ ∃ t es, nilCmp P o S.ev = some (t, es) ∧ ∀ b, (es ≠ [] → b = !t) → K ⟨putT S.tmps o.dst (.d (.raw (.bool b))), S.box, S.tok, S.nt⟩) ∨
    ∃ fid args, callFn o S.ev = some (fid, args) ∧ Stop P cx dr fid args S o.dst K := by
  have viaN : ∀ (hc : cls o.op = .n) (hcf : callFn o S.ev = none), (match fN P cx.base o S.ev with
      | some (φ, v) => φ ∧ K ⟨putT S.tmps o.dst v, S.box, S.tok, S.nt⟩
      | none => False) → (callFn o S.ev = none ∧ ∃ S1, Step P false cx.base o S S1 ∧ K S1) := by
    intro hc hcf h
    split at h
    · rename_i φ v hv
      exact ⟨hcf, _, step_n hc (fN_sound hv h.1), h.2⟩
    · exact h.elim
  unfold FOne at h
  split at h
  · rename_i T p ho
    split at h
    · rename_i v hv
      exact .inl ⟨by simp [callFn, ho], _, ⟨v, S.box, S.tok, S.nt, by unfold Eff; rw [show cls o.op = .r from by rw [ho]; rfl]; exact ⟨fR_sound ho hv, rfl, rfl, rfl⟩, rfl⟩, h⟩
    · exact h.elim
  · rename_i T p x ho
    split at h
    · rename_i φ v b hv
      exact .inl ⟨by simp [callFn, ho], _, ⟨v, b, S.tok, S.nt, by unfold Eff; rw [show cls o.op = .w from by rw [ho]; rfl]; exact ⟨fW_sound hv h.1, rfl, rfl⟩, rfl⟩, h.2⟩
    · exact h.elim
  · rename_i T x ho
    split at h
    · rename_i φ v b hv
      exact .inl ⟨by simp [callFn, ho], _, ⟨v, b, S.tok, S.nt, by unfold Eff; rw [show cls o.op = .w from by rw [ho]; rfl]; exact ⟨fW_sound hv h.1, rfl, rfl⟩, rfl⟩, h.2⟩
    · exact h.elim
  · rename_i T l c ho
    split at h
    · rename_i φ v b hv
      exact .inl ⟨by simp [callFn, ho], _, ⟨v, b, S.tok, S.nt, by unfold Eff; rw [show cls o.op = .w from by rw [ho]; rfl]; exact ⟨fW_sound hv h.1, rfl, rfl⟩, rfl⟩, h.2⟩
    · exact h.elim
  · rename_i op T x y T' ho
    split at h
    · rename_i t es hn
      cases dr with
      | true => exact h.elim
      | false => exact .inr (.inl ⟨rfl, by simp only [callFn, ho], t, es, hn, h⟩)
    · exact .inl (viaN (by rw [ho]; rfl) (by simp only [callFn, ho]) h)
  · rename_i c ho
    split at h
    · rename_i hcal
      split at h
      · rename_i φ v tok' hv
        exact .inl ⟨by simp [callFn, ho, hcal], _, ⟨v, S.box, tok', S.nt + 1, by
          unfold Eff
          have : cls o.op = .t := by
            rw [ho]
            obtain ⟨cal, args, tys⟩ := c
            simp only at hcal
            subst hcal
            rfl
          rw [this]
          exact .inl ⟨.inl (fA_sound ho hcal hv h.1), rfl⟩, rfl⟩, h.2⟩
      · exact h.elim
    · rename_i hcal
      split at h
      · rename_i φ v b hv
        exact .inl ⟨by simp [callFn, ho, hcal], _, ⟨v, b, S.tok, S.nt, by
          unfold Eff
          have : cls o.op = .w := by
            rw [ho]
            obtain ⟨cal, args, tys⟩ := c
            simp only at hcal
            subst hcal
            rfl
          rw [this]
          exact ⟨fW_sound hv h.1, rfl, rfl⟩, rfl⟩, h.2⟩
      · exact h.elim
    · rename_i f hcal
      split at h
      · rename_i fid caps hf
        exact .inr (.inr ⟨fid, _, by simp [callFn, ho, hcal, hf], h⟩)
      · exact h.elim
    · rename_i h1 h3 h2
      refine .inl (viaN ?_ ?_ h)
      · rw [ho]
        obtain ⟨cal, args, tys⟩ := c
        simp only at h1 h2 h3
        cases cal with
        | value f => exact absurd rfl (h2 f)
        | invoke r m => rfl
        | builtin b => cases b <;> first | rfl | exact absurd rfl h1 | exact absurd rfl h3
      · simp only [callFn, ho]
  · rename_i h1 h2 h3 h5 h6 h4
    refine .inl (viaN ?_ ?_ h)
    · cases hop : o.op <;> first | rfl | exact absurd hop (h1 _ _) | exact absurd hop (h2 _ _ _) | exact absurd hop (h3 _ _) | exact absurd hop (h5 _ _ _) | exact absurd hop (h4 _)
    · simp only [callFn]
theorem fOps_false {cx : Cx} {ops : Array Oper} {K : AState → Prop} : ∀ (l : List Oper) (S : AState), FOps P cx ops false l K S → AOps P cx ops l S K
  | [], S, h => h
  | o :: r, S, h => by
    have one : FOne P cx false o (FOps P cx ops false r K) S → Op1 P cx o S fun S1 => AOps P cx ops r S1 K := by
      intro h1
      unfold Op1
      rcases fOne_cases h1 with ⟨hc, S1, hs, hk⟩ | ⟨_, hc, t, es, hn, hk⟩ | ⟨fid, args, hc, hk⟩
      · rw [hc]
        exact .inl ⟨S1, hs, fOps_false r S1 hk⟩
      · rw [hc]
        exact .inr ⟨t, es, hn, fun b hb => fOps_false r _ (hk b hb)⟩
      · rw [hc]
        exact ACalls.mono hk fun v m' hk' => fOps_false r _ hk'
    unfold FOps at h
    unfold AOps
    split at h
    · rename_i hg
      rw [hg]
      exact one h
    · rename_i j want hg
      rw [hg]
      simp only
      split at h
      · rename_i b hy
        rw [hy]
        exact ⟨fun e => one (h.1 (by simpa using e)), fun e => fOps_false r _ (h.2 (by cases b <;> cases want <;> simp_all))⟩
      · rename_i hy
        rw [hy]
        exact ⟨fun e => (by cases e), fun e => fOps_false r _ h⟩
      · exact h.elim
theorem fOps_true {cx : Cx} {ops : Array Oper} {K : AState → Prop} : ∀ (l : List Oper) (S : AState), FOps P cx ops true l K S → ∃ S', ARun P false cx.base ops l S S' ∧ K S'
  | [], S, h => ⟨S, rfl, h⟩
  | o :: r, S, h => by
    have one : FOne P cx true o (FOps P cx ops true r K) S → ∃ S1 S', Step P false cx.base o S S1 ∧ ARun P false cx.base ops r S1 S' ∧ K S' := by
      intro h1
      rcases fOne_cases h1 with ⟨hc, S1, hs, hk⟩ | ⟨hdr, _⟩ | ⟨fid, args, hc, hk⟩
      · obtain ⟨S', h2, h3⟩ := fOps_true r S1 hk
        exact ⟨S1, S', hs, h2, h3⟩
      · cases hdr
      · obtain ⟨v, tok', nt', hd, hk'⟩ := hk
        obtain ⟨S', h2, h3⟩ := fOps_true r _ hk'
        refine ⟨_, S', ⟨v, S.box, tok', nt', ?_, rfl⟩, h2, h3⟩
        unfold callFn at hc
        split at hc
        · rename_i c ho
          split at hc
          · rename_i f hcal
            split at hc
            · rename_i fid' caps hf
              simp only [Option.some.injEq, Prod.mk.injEq] at hc
              obtain ⟨rfl, rfl⟩ := hc
              unfold Eff
              have : cls o.op = .t := by
                rw [ho]
                obtain ⟨cal, args, tys⟩ := c
                simp only at hcal
                subst hcal
                rfl
              rw [this]
              refine .inl ⟨.inr ?_, rfl⟩
              unfold EffC
              simp only [ho, hcal, hf]
              exact hd
            · cases hc
          · cases hc
        · cases hc
    unfold FOps at h
    unfold ARun
    split at h
    · rename_i hg
      obtain ⟨S1, S', h1, h2, h3⟩ := one h
      exact ⟨S', ⟨S1, by unfold GStep; rw [hg]; exact h1, h2⟩, h3⟩
    · rename_i j want hg
      split at h
      · rename_i b hy
        by_cases e : b = want
        · obtain ⟨S1, S', h1, h2, h3⟩ := one (h.1 e)
          exact ⟨S', ⟨S1, by unfold GStep; rw [hg]; simp only [hy, e, ↓reduceIte]; exact h1, h2⟩, h3⟩
        · obtain ⟨S', h2, h3⟩ := fOps_true r _ (h.2 (by cases b <;> cases want <;> simp_all))
          exact ⟨S', ⟨_, by unfold GStep; rw [hg]; simp only [hy, Option.some.injEq, e, ↓reduceIte], h2⟩, h3⟩
      · rename_i hy
        obtain ⟨S', h2, h3⟩ := fOps_true r _ h
        exact ⟨S', ⟨_, by unfold GStep; rw [hg]; simp only [hy, reduceCtorEq, ↓reduceIte], h2⟩, h3⟩
      · exact h.elim
def preF (P : Program) (base : Nat) : List Oper → (Nat → Option (List (List AV))) → Option (Nat → Option (List (List AV)))
  | [], b => some b
  | o :: r, b => match o.op, o.dst with
    | .alloc T, some s => match zeroT P T, b (base + s) with
      | some zs, none => preF P base r (upd b (base + s) (some [zrow (base + s) T zs]))
      | _, _ => none
    | _, _ => preF P base r b
theorem preF_sound {base : Nat} {K : (Nat → Option (List (List AV))) → Prop} : ∀ (l : List Oper) (b b' : Nat → Option (List (List AV))), preF P base l b = some b' → K b' → PreB P base l b K
  | [], b, b', h, hk => by simp only [preF, Option.some.injEq] at h; subst h; exact hk
  | o :: l, b, b', h, hk => by
    unfold preF at h
    unfold PreB
    split at h
    · rename_i T s h1 h2
      split at h
      · rename_i zs h3 h4
        simp only [h1, h2, h3]
        exact ⟨h4, preF_sound l _ b' h hk⟩
      · cases h
    · rename_i hno
      split
      · rename_i T s h1 h2
        exact absurd h2 (fun e => hno T s h1 e)
      · exact preF_sound l b b' h hk
def FReg (P : Program) (cx : Cx) (ops : Array Oper) (draw : Bool) (K : AState → Prop) (S : AState) : Prop := match preF P cx.base ops.toList S.box with
  | some b => FOps P cx ops draw ops.toList K ⟨S.tmps, b, S.tok, S.nt⟩
  | none => False
theorem fReg_sound {cx : Cx} {ops : Array Oper} {draw : Bool} {S : AState} {K : AState → Prop} (h : FReg P cx ops draw K S) : ARegion P cx ops draw S K := by
  unfold FReg at h
  unfold ARegion
  split at h
  · rename_i b hb
    refine preF_sound _ _ b hb ?_
    cases draw with
    | true => exact fOps_true _ _ h
    | false => exact fOps_false _ _ h
  · exact h.elim
inductive CI where
  | c (x : Code)
  | blk (id : Nat)
mutual
def AL (P : Program) (cx : Cx) (nt0 : Nat) (K : Exit → AState → Prop) : List CI → AState → Prop
  | [], S => K .normal S
  | .c x :: r, S => AT P cx nt0 x S fun e S' => match e with
    | .normal => AL P cx nt0 K r S'
    | e => AU P cx nt0 K r e S'
  | .blk _ :: r, S => AL P cx nt0 K r S
def AU (P : Program) (cx : Cx) (nt0 : Nat) (K : Exit → AState → Prop) : List CI → Exit → AState → Prop
  | [], e, S => K e S
  | .c _ :: r, e, S => AU P cx nt0 K r e S
  | .blk id :: r, e, S => match e with
    | .exit j => if j = id then AL P cx nt0 K r S else AU P cx nt0 K r (.exit j) S
    | e => AU P cx nt0 K r e S
end
theorem AU.normal {cx : Cx} {nt0 : Nat} {K : Exit → AState → Prop} : ∀ (r : List CI) (S : AState), AU P cx nt0 K r .ret S → K .ret S
  | [], S, h => by simpa only [AU] using h
  | .c x :: r, S, h => AU.normal r S (by simpa only [AU] using h)
  | .blk id :: r, S, h => AU.normal r S (by simpa only [AU] using h)
theorem AU.of_ret {cx : Cx} {nt0 : Nat} {K : Exit → AState → Prop} : ∀ (r : List CI) (S : AState), K .ret S → AU P cx nt0 K r .ret S
  | [], S, h => by simpa only [AU] using h
  | .c x :: r, S, h => by simp only [AU]; exact AU.of_ret r S h
  | .blk id :: r, S, h => by simp only [AU]; exact AU.of_ret r S h
section rules
variable {cx : Cx} {nt0 : Nat} {K : Exit → AState → Prop} {r : List CI} {S : AState}
theorem AL.start {c : Code} (h : AL P cx nt0 K [.c c] S) : AT P cx nt0 c S K := by
  simp only [AL] at h
  refine AT.mono h fun e S' h' => ?_
  cases e <;> simp only [AU] at h' <;> exact h'
theorem AL.nil (h : K .normal S) : AL P cx nt0 K [] S := by simpa only [AL] using h
theorem AL.blk {id : Nat} (h : AL P cx nt0 K r S) : AL P cx nt0 K (.blk id :: r) S := by simpa only [AL] using h
theorem AL.seq {a b : Code} (h : AL P cx nt0 K (.c a :: .c b :: r) S) : AL P cx nt0 K (.c (.seq a b) :: r) S := by
  simp only [AL] at h ⊢
  intro G0 w0 he hn G act w hr hl
  refine wp_seq (wp_mono (h G0 w0 he hn G act w hr hl) ?_)
  rintro e a' w' ⟨S', G', h1, h2, h3⟩
  cases e with
  | normal =>
    refine wp_mono (h1 G0 w0 he hn G' a' w' h2 h3) ?_
    rintro e a'' w'' ⟨S'', G'', k1, k2, k3⟩
    exact ⟨S'', G'', k1, k2, k3⟩
  | _ => exact ⟨S', G', by simpa only [AU] using h1, h2, h3⟩
theorem AL.block {id : Nat} {c : Code} (h : AL P cx nt0 K (.c c :: .blk id :: r) S) : AL P cx nt0 K (.c (.block id c) :: r) S := by
  simp only [AL] at h ⊢
  intro G0 w0 he hn G act w hr hl
  refine wp_block (wp_mono (h G0 w0 he hn G act w hr hl) ?_)
  rintro e a' w' ⟨S', G', h1, h2, h3⟩
  cases e with
  | exit j =>
    simp only [Exit.inBlock]
    simp only [AU] at h1
    split
    · rename_i e
      rw [if_pos e] at h1
      exact ⟨S', G', h1, h2, h3⟩
    · rename_i e
      rw [if_neg e] at h1
      exact ⟨S', G', h1, h2, h3⟩
  | _ => exact ⟨S', G', by simpa only [AU, AL] using h1, h2, h3⟩
theorem AL.skip (h : AL P cx nt0 K r S) : AL P cx nt0 K (.c .skip :: r) S := by
  simp only [AL]
  intro G0 w0 he hn G a w hr hl
  exact wp_skip ⟨S, G, h, hr, hl⟩
theorem AL.exit {id : Nat} (h : AU P cx nt0 K r (.exit id) S) : AL P cx nt0 K (.c (.exit id) :: r) S := by
  simp only [AL]
  intro G0 w0 he hn G a w hr hl
  exact wp_exit ⟨S, G, h, hr, hl⟩
theorem AL.ret (h : K .ret S) : AL P cx nt0 K (.c .ret :: r) S := by
  simp only [AL]
  intro G0 w0 he hn G a w hr hl
  exact wp_ret ⟨S, G, AU.of_ret r S h, hr, hl⟩
theorem AU.c {x : Code} {e : Exit} (h : AU P cx nt0 K r e S) : AU P cx nt0 K (.c x :: r) e S := by simpa only [AU] using h
theorem AL.region {id : Nat} {ops : Array Oper} {draw : Bool} (hf : P.follows .mixedOrders = true) (hnb : cx.base + cx.n ≤ cx.nb) (hok : regionOk cx.n ops draw = true) (h : FReg P cx ops draw (AL P cx nt0 K r) S) : AL P cx nt0 K (.c (.region id ops draw) :: r) S := by
  simp only [AL]
  exact AT.region hf hnb hok (fReg_sound h)
theorem AL.region2 {id : Nat} {ops : Array Oper} (hf : P.follows .mixedOrders = true) (hnb : cx.base + cx.n ≤ cx.nb) (hok : (allocOk ops && dstOk cx.n ops && regOk2 ops) = true) (hs : Side ops S) (h : FReg P cx ops true (fun S' => Far S' (ptrs ops.toList) ∧ AL P cx nt0 K r S') S) : AL P cx nt0 K (.c (.region id ops true) :: r) S := by
  simp only [AL]
  exact AT.region2 hf hnb hok hs (fReg_sound h)
def FCond (P : Program) (cx : Cx) (nt0 : Nat) (K : Exit → AState → Prop) (r : List CI) (a b : Code) (S : AState) (x : AV) : Prop := match x with
  | .d (.raw (.bool t)) => (t = true → AL P cx nt0 K (.c a :: r) S) ∧ (t = false → AL P cx nt0 K (.c b :: r) S)
  | _ => False
theorem AL.cond {x : Operand} {a b : Code} (h : FCond P cx nt0 K r a b S (S.ev x)) : AL P cx nt0 K (.c (.cond x a b) :: r) S := by
  unfold FCond at h
  split at h
  · rename_i t hc
    simp only [AL] at h ⊢
    intro G0 w0 he hn G act w hr hl
    have h1 := hr.ev x
    rw [hc] at h1
    have h2 : act.eval x = .bool t := rawOf_spec rfl h1
    exact wp_cond_split h2 (fun ht => h.1 ht G0 w0 he hn G act w hr hl) (fun ht => h.2 ht G0 w0 he hn G act w hr hl)
  · exact h.elim
theorem AL.weak {S' : AState} {x : Code} (hw : Weaks cx nt0 S S') (h : AL P cx nt0 K (.c x :: r) S') : AL P cx nt0 K (.c x :: r) S := by
  simp only [AL] at h ⊢
  exact AT.weaks hw h
theorem AL.loop {c : Code} (I : Nat → AState → Prop) (h0 : ∃ n S0, Weaks cx nt0 S S0 ∧ I n S0)
    (hstep : ∀ n S, I n S → AL P cx nt0 (fun e S' => match e with
      | .normal => ∃ m S'', m < n ∧ Weaks cx nt0 S' S'' ∧ I m S''
      | e => AU P cx nt0 K r e S') [.c c] S) : AL P cx nt0 K (.c (.loop c) :: r) S := by
  simp only [AL]
  refine AT.loop I h0 fun n S hI => ?_
  refine (AL.start (hstep n S hI)).mono fun e S' h => ?_
  cases e <;> exact h
end rules
end Go.AM
namespace Go.AM
open Go
variable {P : Program}
attribute [simp] zrow strA nilCmp FReg preF FOne FSkip Gd.tt Gd.tf Gd.ft Gd.ff fN fR fW fA AState.ev putT_tl putT_none tlArgs tl_cons tl_nil ofVal ofVal1 lenF idxF sliceF boundF rawOf rawsOf binF unF loadD loadA lb_at lk_cons lk_nil upd_lb yieldA AV.cells? AV.elems? toDs AV.toD rowsOf fillA setCells FCond copySrc
@[simp] theorem FOps_nil {cx : Cx} {ops : Array Oper} {dr : Bool} {K : AState → Prop} {t : Nat → AV} {b : Nat → Option (List (List AV))} {k : Nat → Bool} {n : Nat} : FOps P cx ops dr [] K ⟨t, b, k, n⟩ = K ⟨t, b, k, n⟩ := by simp only [FOps]
@[simp] theorem FOps_cons {cx : Cx} {ops : Array Oper} {dr : Bool} {o : Oper} {r : List Oper} {K : AState → Prop} {t : Nat → AV} {b : Nat → Option (List (List AV))} {k : Nat → Bool} {n : Nat} : FOps P cx ops dr (o :: r) K ⟨t, b, k, n⟩ = match o.guard with
    | none => FOne P cx dr o (FOps P cx ops dr r K) ⟨t, b, k, n⟩
    | some (j, want) => match yieldA ops ⟨t, b, k, n⟩ j with
      | some (some c) => Gd c want (FOne P cx dr o (FOps P cx ops dr r K)) (FSkip o.dst (FOps P cx ops dr r K)) ⟨t, b, k, n⟩
      | some none => FSkip o.dst (FOps P cx ops dr r K) ⟨t, b, k, n⟩
      | none => False := by
  simp only [FOps]
  all_goals rfl
@[simp] theorem live_full {tok : Nat → Bool} : Own.full.liveP tok = True := rfl
@[simp] theorem kill_full {tok : Nat → Bool} : Own.full.kill tok = tok := rfl
@[simp] theorem live_tok {tok : Nat → Bool} {t : Nat} : (Own.tok t).liveP tok = (tok t = true) := rfl
@[simp] theorem kill_tok {tok : Nat → Bool} {t : Nat} : (Own.tok t).kill tok = upd tok t false := rfl
def ToL (p q : Nat → Prop) (fz : Option (Nat × Nat × List (List D))) (l : List (Nat × AV)) : List (Nat × AV) → Prop
  | [] => True
  | (i, v) :: r => To p q fz (tl l i) v ∧ ToL p q fz l r
theorem ToL.all {p q : Nat → Prop} {fz : Option (Nat × Nat × List (List D))} {l : List (Nat × AV)} : ∀ {l' : List (Nat × AV)}, ToL p q fz l l' → ∀ t, To p q fz (tl l t) (tl l' t)
  | [], _, t => .bot
  | (i, v) :: r, h, t => by
    rw [tl_cons]
    split
    · rename_i e; subst e; exact h.1
    · exact ToL.all h.2 t
def BoxL (p q : Nat → Prop) (fz : Option (Nat × Nat × List (List D))) (loc : List (Nat × List (List AV))) : List (Nat × List (List AV)) → Prop
  | [] => True
  | (s, rows') :: r => (∃ rows, lk loc s = some rows ∧ RowsTo p q fz rows rows') ∧ BoxL p q fz loc r
theorem BoxL.all {p q : Nat → Prop} {fz : Option (Nat × Nat × List (List D))} {loc : List (Nat × List (List AV))} : ∀ {loc' : List (Nat × List (List AV))}, BoxL p q fz loc loc' → ∀ s rows', lk loc' s = some rows' → ∃ rows, lk loc s = some rows ∧ RowsTo p q fz rows rows'
  | [], _, s, rows', h => by simp [lk] at h
  | (i, v) :: r, h, s, rows', hs => by
    rw [lk_cons] at hs
    split at hs
    · rename_i e; subst e; cases hs; exact h.1
    · exact BoxL.all h.2 s rows' hs
theorem Weaks.mk' {cx : Cx} {nt0 nt : Nat} {l l' : List (Nat × AV)} {out : Nat → Option (List (List AV))} {loc loc' : List (Nat × List (List AV))} {tok : Nat → Bool} (hnt : nt0 ≤ nt)
    (hl : ToL (fun k => lb cx.base out loc' k ≠ none) (fun _ => True) none l l') (hb : BoxL (fun k => lb cx.base out loc' k ≠ none) (fun _ => True) none loc loc')
    (ho : ∀ k rows, k < cx.base → out k = some rows → cx.B0 k = some rows ∨ ∀ r ∈ rows, ∀ x ∈ r, OkIn (fun k => lb cx.base out loc' k ≠ none) (fun _ => True) x) :
    Weaks cx nt0 ⟨tl l, lb cx.base out loc, tok, nt⟩ ⟨tl l', lb cx.base out loc', tok, nt⟩ := by
  refine ⟨out, loc, loc', none, rfl, rfl, Nat.le_refl _, hnt, fun t h => ⟨h, .inl rfl⟩, ?_, ?_, (fun _ _ _ h => by cases h), ?_⟩
  · simp only [true_or, Option.map_none]; exact hl.all
  · simp only [true_or, Option.map_none]; exact hb.all
  · simp only [true_or]; exact ho
theorem Weaks.mk {cx : Cx} {nt0 nt : Nat} {l l' : List (Nat × AV)} {out : Nat → Option (List (List AV))} {loc loc' : List (Nat × List (List AV))} {tok : Nat → Bool} (hnt : nt0 ≤ nt) (ho : out = cx.B0)
    (hl : ToL (fun k => lb cx.base out loc' k ≠ none) (fun _ => True) none l l') (hb : BoxL (fun k => lb cx.base out loc' k ≠ none) (fun _ => True) none loc loc') :
    Weaks cx nt0 ⟨tl l, lb cx.base out loc, tok, nt⟩ ⟨tl l', lb cx.base out loc', tok, nt⟩ :=
  Weaks.mk' hnt hl hb fun k rows _ h => .inl (by rw [← ho]; exact h)
theorem Fin.data {cx : Cx} {nt0 nt : Nat} {rs : List ResultVar} {l : List (Nat × AV)} {out : Nat → Option (List (List AV))} {loc : List (Nat × List (List AV))} {tok mtok : Nat → Bool} {vs : List AV} {av : AV}
    (hres : resAs P ⟨tl l, lb cx.base out loc, tok, nt⟩ rs = some vs) (hbox : lb cx.base out [] = out) (ho : out = cx.B0) (hm : ∀ t, mtok t = true → t < nt0) (htok : ∀ t, mtok t = true → tok t = true) (hnt : nt0 ≤ nt)
    (hto : To (fun k => lb cx.base out [] k ≠ none) (fun t => nt0 = nt ∨ t < nt0) none (packA vs) av) : Fin P cx nt0 rs (fun v' m' => v' = av ∧ m' = ⟨out, cx.base, mtok, nt0⟩) ⟨tl l, lb cx.base out loc, tok, nt⟩ :=
  ⟨vs, out, loc, none, av, ⟨out, cx.base, mtok, nt0⟩, hres, ⟨rfl, rfl, hnt, Nat.le_refl _, fun t h => ⟨htok t h, .inr (hm t h)⟩, fun _ => .bot, fun s rows' h => by simp [lk] at h, (fun _ _ _ h => by cases h),
    fun k rows _ h => .inl (by rw [← ho]; exact h)⟩, hbox.symm, rfl, by simpa using hto, rfl, rfl⟩
section
variable {p q : Nat → Prop} {fz : Option (Nat × Nat × List (List D))}
@[simp] theorem to_bot (x : AV) : To p q fz x .bot := .bot
@[simp] theorem to_d (x : D) : To p q fz (.d x) (.d x) := .same .d
@[simp] theorem to_data (sz : Nat) (es : List (List D)) (o : Own) : To p q fz (.osl sz es o) (.d (.sl sz es)) := .data
@[simp] theorem to_osl (sz : Nat) (es : List (List D)) (o : Own) : To p (fun _ => True) fz (.osl sz es o) (.osl sz es o) := .same (.osl fun _ _ => trivial)
theorem to_snoc {sz : Nat} {es : List (List D)} {r r' : List D} (h : DS1 r r') (o : Own) : To p (fun _ => True) fz (.osl sz (es ++ [r]) o) (.osl sz (es ++ [r']) o) := .otok ((DSs.snoc h).sub sz) fun _ _ => trivial
@[simp] theorem to_full (sz : Nat) (es : List (List D)) : To p q fz (.osl sz es .full) (.osl sz es .full) := .same (.osl fun _ h => by cases h)
@[simp] theorem to_nil0 (sz sz' : Nat) : To p q fz (.osl sz [] .full) (.osl sz' [] .full) := .nil rfl
@[simp] theorem to_emp0 (sz sz' : Nat) (o : Own) : To p q fz (.osl sz [] o) (.d (.sl sz' [])) := .odsub .emp
@[simp] theorem to_emp1 (sz sz' : Nat) : To p q fz (.d (.sl sz [])) (.d (.sl sz' [])) := .dsub .emp
@[simp] theorem to_emp2 (sz sz' : Nat) : To p q fz (.osl 1 [[.sl sz []]] .full) (.osl 1 [[.sl sz' []]] .full) :=
  .osub (.sl rfl (fun i h1 h2 => by simp at h1; subst h1; rfl) (fun i h1 h2 j g1 g2 => by simp at h1; subst h1; simp at g1; subst g1; exact .emp))
@[simp] theorem to_emp3 (sz sz' : Nat) (o : Own) : To p q fz (.osl 1 [[.sl sz []]] o) (.d (.sl 1 [[.sl sz' []]])) :=
  .odsub (.sl rfl (fun i h1 h2 => by simp at h1; subst h1; rfl) (fun i h1 h2 j g1 g2 => by simp at h1; subst h1; simp at g1; subst g1; exact .emp))
@[simp] theorem to_cptr (cs : List D) (off : Nat) : To p q fz (.cptr cs off) (.cptr cs off) := .same .cptr
theorem to_ptr {k i off : Nat} (h : p k) : To p q fz (.ptr k i off) (.ptr k i off) := .same (.ptr h)
@[simp] theorem to_ptr_lb {base s i off : Nat} {out : Nat → Option (List (List AV))} {loc : List (Nat × List (List AV))} : To (fun k => lb base out loc k ≠ none) q fz (.ptr (base + s) i off) (.ptr (base + s) i off) ↔ lk loc s ≠ none := by
  constructor
  · intro h
    cases h with
    | same h => cases h with | ptr h => rw [lb_at] at h; exact h
  · intro h
    exact to_ptr (by rw [lb_at]; exact h)
@[simp] theorem to_buf (E : TypeId) (t : Nat) (es : List (List D)) : To p (fun _ => True) fz (.buf E t es) (.buf E t es) := .same (.buf trivial)
@[simp] theorem to_here_lb {base s : Nat} {T : TypeId} {out : Nat → Option (List (List AV))} {loc : List (Nat × List (List AV))} : To (fun k => lb base out loc k ≠ none) q fz (.here (base + s) T) (.here (base + s) T) ↔ lk loc s ≠ none := by
  constructor
  · intro h
    cases h with
    | same h => cases h with | here h => rw [lb_at] at h; exact h
  · intro h
    exact .same (.here (by rw [lb_at]; exact h))
@[simp] theorem to_msl_lb {base s off n sz : Nat} {out : Nat → Option (List (List AV))} {loc : List (Nat × List (List AV))} : To (fun k => lb base out loc k ≠ none) q fz (.msl (base + s) off n sz) (.msl (base + s) off n sz) ↔ lk loc s ≠ none := by
  constructor
  · intro h
    cases h with
    | same h => cases h with | msl h => rw [lb_at] at h; exact h
  · intro h
    exact .same (.msl (by rw [lb_at]; exact h))
@[simp] theorem okIn_d (x : D) : OkIn p q (.d x) := .d
@[simp] theorem okIn_bot : OkIn p q .bot := .bot
@[simp] theorem okIn_osl (sz : Nat) (es : List (List D)) (o : Own) : OkIn p (fun _ => True) (.osl sz es o) := .osl fun _ _ => trivial
@[simp] theorem okIn_ptr {k i off : Nat} : OkIn p q (.ptr k i off) ↔ p k := ⟨fun h => by cases h; assumption, .ptr⟩
@[simp] theorem okIn_agg {cs : List AV} : OkIn p q (.agg cs) ↔ ∀ c ∈ cs, OkIn p q c := ⟨fun h => by cases h; assumption, .agg⟩
@[simp] theorem okIn_fn {f : Fn} {cs : List AV} : OkIn p q (.fn f cs) ↔ ∀ c ∈ cs, OkIn p q c := ⟨fun h => by cases h; assumption, .fn⟩
@[simp] theorem to_tup_nil : To p q fz (.tup []) (.tup []) := .tup rfl fun i h => by simp at h
theorem to_cons_agg {a b : AV} {as1 bs : List AV} (h : To p q fz a b) (k : To p q fz (.agg as1) (.agg bs)) : To p q fz (.agg (a :: as1)) (.agg (b :: bs)) := by
  cases k with
  | same k =>
    refine .agg rfl fun i h1 h2 => ?_
    cases i with
    | zero => exact h
    | succ i => exact .same ((okIn_agg.1 k) _ (List.getElem_mem _))
  | agg hl k =>
    refine .agg (by simp [hl]) fun i h1 h2 => ?_
    cases i with
    | zero => exact h
    | succ i => exact k i (by simpa using h1) (by simpa using h2)
theorem to_cons_tup {a b : AV} {as1 bs : List AV} (h : To p q fz a b) (k : To p q fz (.tup as1) (.tup bs)) : To p q fz (.tup (a :: as1)) (.tup (b :: bs)) := by
  cases k with
  | same k =>
    refine .tup rfl fun i h1 h2 => ?_
    cases i with
    | zero => exact h
    | succ i => cases k with | tup k => exact .same (k _ (List.getElem_mem _))
  | tup hl k =>
    refine .tup (by simp [hl]) fun i h1 h2 => ?_
    cases i with
    | zero => exact h
    | succ i => exact k i (by simpa using h1) (by simpa using h2)
@[simp] theorem to_cons_agg_iff {a b : AV} {as1 bs : List AV} : To p q fz (.agg (a :: as1)) (.agg (b :: bs)) ↔ To p q fz a b ∧ To p q fz (.agg as1) (.agg bs) := by
  constructor
  · intro h
    cases h with
    | same h => have := okIn_agg.1 h; exact ⟨.same (this _ (by simp)), .same (okIn_agg.2 fun c hc => this c (by simp [hc]))⟩
    | agg hl h => exact ⟨h 0 (by simp) (by simp), .agg (by simpa using hl) fun i h1 h2 => h (i + 1) (by simpa using h1) (by simpa using h2)⟩
  · exact fun ⟨h, k⟩ => to_cons_agg h k
@[simp] theorem to_cons_tup_iff {a b : AV} {as1 bs : List AV} : To p q fz (.tup (a :: as1)) (.tup (b :: bs)) ↔ To p q fz a b ∧ To p q fz (.tup as1) (.tup bs) := by
  constructor
  · intro h
    cases h with
    | same h =>
      cases h with
      | tup this => exact ⟨.same (this _ (by simp)), .same (.tup fun c hc => this c (by simp [hc]))⟩
    | tup hl h => exact ⟨h 0 (by simp) (by simp), .tup (by simpa using hl) fun i h1 h2 => h (i + 1) (by simpa using h1) (by simpa using h2)⟩
  · exact fun ⟨h, k⟩ => to_cons_tup h k
@[simp] theorem to_nil_agg : To p q fz (.agg []) (.agg []) := .agg rfl fun i h => by simp at h
end
def SideD (t : List (Nat × AV)) : List Oper → Prop
  | [] => True
  | o :: r => (match o.dst with | some d => NP (tl t d) | none => True) ∧ SideD t r
theorem SideD.all {t : List (Nat × AV)} {l : List Oper} (h : SideD t l) : ∀ o ∈ l, ∀ d, o.dst = some d → NP (tl t d) := by
  induction l with
  | nil => intro o ho; simp at ho
  | cons o r ih =>
    intro x hx d hd
    unfold SideD at h
    rcases List.mem_cons.1 hx with e | hx
    · subst e
      have := h.1
      rw [hd] at this
      exact this
    · exact ih h.2 x hx d hd
theorem Side.of {ops : Array Oper} {l : List (Nat × AV)} {b : Nat → Option (List (List AV))} {k : Nat → Bool} {n : Nat} (h : SideD l ops.toList) : Side ops ⟨tl l, b, k, n⟩ :=
  fun o ho d hd => h.all o ho d hd
attribute [simp] SideD NP NK ptrs Far Far1
theorem AL.loopT {cx : Cx} {nt0 : Nat} {K : Exit → AState → Prop} {r : List CI} {S : AState} {c : Code} {α : Type} (T : α → AState) (inv : α → Prop) (μ : α → Nat) (a0 : α) (h0 : inv a0) (hw : Weaks cx nt0 S (T a0))
    (hstep : ∀ a S, inv a → S = T a → AL P cx nt0 (fun e S' => match e with
      | .normal => ∃ a', inv a' ∧ μ a' < μ a ∧ Weaks cx nt0 S' (T a')
      | e => AU P cx nt0 K r e S') [.c c] S) : AL P cx nt0 K (.c (.loop c) :: r) S := by
  refine AL.loop (fun n S => ∃ a, inv a ∧ n = μ a ∧ S = T a) ⟨_, _, hw, a0, h0, rfl, rfl⟩ ?_
  rintro n S ⟨a, ha, rfl, hS⟩
  have := AL.start (hstep a S ha hS)
  simp only [AL]
  refine this.mono fun e S' h => ?_
  cases e with
  | normal =>
    obtain ⟨a', h1, h2, h3⟩ := h
    exact ⟨μ a', T a', h2, h3, a', h1, rfl, rfl⟩
  | _ => simpa only [AU] using h
structure TK (mtok : Nat → Bool) (nt0 : Nat) (tok : Nat → Bool) (nt : Nat) (os : List Own) : Prop where
  old : ∀ t, mtok t = true → tok t = true
  lt : ∀ t, mtok t = true → t < nt0
  le : nt0 ≤ nt
  own : ∀ o ∈ os, ∀ t, o = .tok t → tok t = true ∧ nt0 ≤ t ∧ t < nt
  ne : os.Pairwise fun a b => ∀ t, a = .tok t → b ≠ .tok t
theorem TK.start {mtok : Nat → Bool} {nt0 : Nat} (h : ∀ t, mtok t = true → t < nt0) : TK mtok nt0 mtok nt0 [] := ⟨fun _ h => h, h, Nat.le_refl _, by simp, .nil⟩
theorem TK.full {mtok : Nat → Bool} {nt0 : Nat} {tok : Nat → Bool} {nt : Nat} {os : List Own} (h : TK mtok nt0 tok nt os) : TK mtok nt0 tok nt (.full :: os) :=
  ⟨h.old, h.lt, h.le, fun o ho t e => by
    rcases List.mem_cons.1 ho with rfl | ho
    · cases e
    · exact h.own o ho t e, .cons (fun b _ t e => by cases e) h.ne⟩
theorem TK.live {mtok : Nat → Bool} {nt0 : Nat} {tok : Nat → Bool} {nt : Nat} {o : Own} {os : List Own} (h : TK mtok nt0 tok nt (o :: os)) : o.liveP tok := by
  cases o with
  | full => trivial
  | tok t => exact (h.own _ (by simp) t rfl).1
theorem TK.tail {mtok : Nat → Bool} {nt0 : Nat} {tok : Nat → Bool} {nt : Nat} {o : Own} {os : List Own} (h : TK mtok nt0 tok nt (o :: os)) : TK mtok nt0 tok nt os :=
  ⟨h.old, h.lt, h.le, fun o' ho => h.own o' (by simp [ho]), (List.pairwise_cons.1 h.ne).2⟩
theorem TK.swap {mtok : Nat → Bool} {nt0 : Nat} {tok : Nat → Bool} {nt : Nat} {a b : Own} {os : List Own} (h : TK mtok nt0 tok nt (a :: b :: os)) : TK mtok nt0 tok nt (b :: a :: os) := by
  have h1 := List.pairwise_cons.1 h.ne
  have h2 := List.pairwise_cons.1 h1.2
  refine ⟨h.old, h.lt, h.le, fun o' ho => h.own o' (by simp at ho ⊢; rcases ho with h | h | h <;> simp [h]), ?_⟩
  refine List.pairwise_cons.2 ⟨fun c hc t e => ?_, List.pairwise_cons.2 ⟨fun c hc => h1.1 c (by simp [hc]), h2.2⟩⟩
  rcases List.mem_cons.1 hc with rfl | hc
  · intro e'
    exact h1.1 b (by simp) t e' e
  · exact h2.1 c hc t e
theorem TK.app {mtok : Nat → Bool} {nt0 : Nat} {tok : Nat → Bool} {nt : Nat} {o : Own} {os : List Own} (h : TK mtok nt0 tok nt (o :: os)) : TK mtok nt0 (upd (o.kill tok) nt true) (nt + 1) (.tok nt :: os) := by
  have hp := List.pairwise_cons.1 h.ne
  have key : ∀ t, t < nt → (∀ t', o = .tok t' → t ≠ t') → (upd (o.kill tok) nt true) t = tok t := by
    intro t ht hne
    rw [upd_other _ _ (by omega)]
    cases o with
    | full => rfl
    | tok t' => simp only [Own.kill]; rw [upd_other _ _ (hne t' rfl)]
  have hle := h.le
  refine ⟨fun t ht => ?_, h.lt, by omega, fun o' ho t e => ?_, ?_⟩
  · have hlt := h.lt t ht
    rw [key t (by omega) (fun t' e => by have := (h.own o (by simp) t' e).2.1; omega)]
    exact h.old t ht
  · rcases List.mem_cons.1 ho with rfl | ho
    · cases e
      exact ⟨by rw [upd_same], hle, by omega⟩
    · obtain ⟨h1, h2, h3⟩ := h.own o' (by simp [ho]) t e
      refine ⟨?_, h2, by omega⟩
      rw [key t h3 (fun t' e' => fun e2 => by subst e2; exact hp.1 o' ho t e' e)]
      exact h1
  · refine List.pairwise_cons.2 ⟨fun b hb t e e' => ?_, hp.2⟩
    cases e
    have := (h.own b (by simp [hb]) _ e').2.2
    omega
theorem Stop.of_b {cx : Cx} {fid : FuncId} {args : List AV} {S : AState} {dst : Option Tmp} {K : AState → Prop} {v : AV} {tok' : Nat → Bool} {nt' : Nat} (h : ACalls P fid args ⟨S.box, cx.nb, S.tok, S.nt⟩ fun v' m' => v' = v ∧ m' = ⟨S.box, cx.nb, tok', nt'⟩)
    (hk : K ⟨putT S.tmps dst v, S.box, tok', nt'⟩) : Stop P cx false fid args S dst K := by
  refine h.mono ?_
  rintro v' m' ⟨rfl, rfl⟩
  exact hk
theorem key_lt {nb k : Nat} {box : Nat → Option (List (List AV))} {r : List (List AV)} (hbox : lb nb box [] = box) (h : box k = some r) : k < nb := by
  rcases Nat.lt_or_ge k nb with h1 | h1
  · exact h1
  · rw [← hbox] at h
    have : ¬ k < nb := by omega
    simp [lb, lk, this] at h
abbrev ints (xs : List Int) : D := .sl 1 (xs.map fun n => [D.raw (.int .i64 n)])
abbrev I (n : Int) : AV := .d (.raw (.int .i64 n))
abbrev B (b : Bool) : AV := .d (.raw (.bool b))
structure E where
  ty : Int
  fr : Int
  to : Int
  deriving DecidableEq, Inhabited
abbrev E.cells (e : E) : List D := [.raw (.int .i64 e.ty), .raw (.int .i64 e.fr), .raw (.int .i64 e.to)]
abbrev edges (es : List E) : D := .sl 3 (es.map E.cells)
structure Gr where
  nodes : List Int
  edges : List E
  deriving DecidableEq, Inhabited
structure Mo where
  nodes : List Int
  edges : List Int
  deriving DecidableEq, Inhabited
abbrev Gr.av (g : Gr) : AV := .agg [.d (ints g.nodes), .d (AM.edges g.edges)]
abbrev Mo.av (m : Mo) : AV := .agg [.d (ints m.nodes), .d (ints m.edges)]
@[simp] theorem map_at {α β : Type} (f : α → β) (l : List α) (i : Nat) (d : β) (h : i < l.length) : ((l.map f)[i]?).getD d = f l[i] := by simp [h]
end Go.AM
namespace Go.AM
open Go
variable {P : Program}
def RowTo (p q : Nat → Prop) (fz : Option (Nat × Nat × List (List D))) (r r' : List AV) : Prop :=
  r.length = r'.length ∧ ∀ j (g1 : j < r.length) (g2 : j < r'.length), To p q fz r[j] r'[j]
section
variable {p q : Nat → Prop} {fz : Option (Nat × Nat × List (List D))}
@[simp] theorem rowTo_nil : RowTo p q fz [] [] := ⟨rfl, fun j h => by simp at h⟩
@[simp] theorem rowTo_cons {x y : AV} {xs ys : List AV} : RowTo p q fz (x :: xs) (y :: ys) ↔ To p q fz x y ∧ RowTo p q fz xs ys := by
  constructor
  · rintro ⟨h1, h2⟩
    refine ⟨h2 0 (by simp) (by simp), by simpa using h1, fun j g1 g2 => ?_⟩
    exact h2 (j + 1) (by simpa using g1) (by simpa using g2)
  · rintro ⟨h1, h2, h3⟩
    refine ⟨by simp [h2], fun j g1 g2 => ?_⟩
    cases j with
    | zero => exact h1
    | succ j => exact h3 j (by simpa using g1) (by simpa using g2)
@[simp] theorem rowsTo_nil : RowsTo p q fz [] [] := ⟨rfl, fun j h => by simp at h⟩
@[simp] theorem rowsTo_cons {x y : List AV} {xs ys : List (List AV)} : RowsTo p q fz (x :: xs) (y :: ys) ↔ RowTo p q fz x y ∧ RowsTo p q fz xs ys := by
  constructor
  · rintro ⟨h1, h2⟩
    refine ⟨h2 0 (by simp) (by simp), by simpa using h1, fun j g1 g2 => ?_⟩
    exact h2 (j + 1) (by simpa using g1) (by simpa using g2)
  · rintro ⟨h1, h2, h3⟩
    refine ⟨by simp [h2], fun j g1 g2 => ?_⟩
    cases j with
    | zero => exact h1
    | succ j => exact h3 j (by simpa using g1) (by simpa using g2)
theorem rowsTo_same {rows : List (List AV)} (h : ∀ r ∈ rows, ∀ x ∈ r, OkIn p q x) : RowsTo p q fz rows rows :=
  ⟨rfl, fun i h1 h2 => ⟨rfl, fun j g1 g2 => .same (h _ (List.getElem_mem _) _ (List.getElem_mem _))⟩⟩
end
def rowsD (es : List (List D)) : List (List AV) := es.map fun e => e.map AV.d
@[simp] theorem rowsD_length (es : List (List D)) : (rowsD es).length = es.length := by simp [rowsD]
@[simp] theorem rowsD_get {es : List (List D)} {i : Nat} (h : i < es.length) : (rowsD es)[i]? = some ((es[i]).map AV.d) := by simp [rowsD, h]
@[simp] theorem rowsTo_D {p q : Nat → Prop} {fz : Option (Nat × Nat × List (List D))} (es : List (List D)) : RowsTo p q fz (rowsD es) (rowsD es) := by
  refine rowsTo_same fun r hr x hx => ?_
  obtain ⟨e, _, rfl⟩ := List.mem_map.1 hr
  obtain ⟨d, _, rfl⟩ := List.mem_map.1 hx
  exact .d
abbrev rI (xs : List Int) : List (List D) := xs.map fun n => [D.raw (.int .i64 n)]
abbrev rE (es : List E) : List (List D) := es.map E.cells
def rowsI (xs : List Int) : List (List AV) := xs.map fun n => [AV.d (.raw (.int .i64 n))]
def rowsE (xs : List E) : List (List AV) := xs.map fun e => [AV.d (.raw (.int .i64 e.ty)), AV.d (.raw (.int .i64 e.fr)), AV.d (.raw (.int .i64 e.to))]
theorem rowsI_eq (xs : List Int) : rowsI xs = rowsD (rI xs) := by simp [rowsI, rowsD, rI]
theorem rowsE_eq (xs : List E) : rowsE xs = rowsD (rE xs) := by simp [rowsE, rowsD, rE, E.cells]
@[simp] theorem rep_rI (n : Nat) : List.replicate n [AV.d (.raw (.int .i64 0))] = rowsI (List.replicate n 0) := by simp [rowsI]
@[simp] theorem rep_rE (n : Nat) : List.replicate n [AV.d (.raw (.int .i64 0)), AV.d (.raw (.int .i64 0)), AV.d (.raw (.int .i64 0))] = rowsE (List.replicate n ⟨0, 0, 0⟩) := by simp [rowsE]
@[simp] theorem set_rI (xs : List Int) (i : Nat) (v : Int) : (rowsI xs).set i [AV.d (.raw (.int .i64 v))] = rowsI (xs.set i v) := by simp [rowsI, List.map_set]
@[simp] theorem set_rE (xs : List E) (i : Nat) (a b c : Int) : (rowsE xs).set i [AV.d (.raw (.int .i64 a)), AV.d (.raw (.int .i64 b)), AV.d (.raw (.int .i64 c))] = rowsE (xs.set i ⟨a, b, c⟩) := by simp [rowsE, List.map_set]
@[simp] theorem rowsI_length (xs : List Int) : (rowsI xs).length = xs.length := by simp [rowsI]
@[simp] theorem rowsE_length (xs : List E) : (rowsE xs).length = xs.length := by simp [rowsE]
@[simp high] theorem rowsI_get {xs : List Int} {i : Nat} (h : i < xs.length) : (rowsI xs)[i]? = some [AV.d (.raw (.int .i64 xs[i]))] := by simp [rowsI, h]
@[simp high] theorem rowsE_get {xs : List E} {i : Nat} (h : i < xs.length) : (rowsE xs)[i]? = some [AV.d (.raw (.int .i64 xs[i].ty)), AV.d (.raw (.int .i64 xs[i].fr)), AV.d (.raw (.int .i64 xs[i].to))] := by simp [rowsE, h]
@[simp] theorem rowsTo_I {p q : Nat → Prop} {fz : Option (Nat × Nat × List (List D))} (xs : List Int) : RowsTo p q fz (rowsI xs) (rowsI xs) := by rw [rowsI_eq]; simp
@[simp] theorem rowsTo_E {p q : Nat → Prop} {fz : Option (Nat × Nat × List (List D))} (xs : List E) : RowsTo p q fz (rowsE xs) (rowsE xs) := by rw [rowsE_eq]; simp
theorem toDs_map : ∀ (e : List D), toDs (e.map AV.d) = some e
  | [] => rfl
  | d :: e => by simp [toDs, AV.toD, toDs_map e]
theorem Weaks.frz {cx : Cx} {nt0 nt : Nat} {l l' : List (Nat × AV)} {out : Nat → Option (List (List AV))} {loc loc' : List (Nat × List (List AV))} {tok : Nat → Bool} (s sz : Nat) (es : List (List D)) (hnt : nt0 ≤ nt) (ho : out = cx.B0)
    (hs : lk loc s = some (rowsD es)) (hs' : lk loc' s = none) (hsz : ∀ e ∈ es, e.length = sz)
    (hl : ToL (fun k => lb cx.base out loc' k ≠ none) (fun _ => True) (some (cx.base + s, sz, es)) l l') (hb : BoxL (fun k => lb cx.base out loc' k ≠ none) (fun _ => True) (some (cx.base + s, sz, es)) loc loc') :
    Weaks cx nt0 ⟨tl l, lb cx.base out loc, tok, nt⟩ ⟨tl l', lb cx.base out loc', tok, nt⟩ := by
  refine ⟨out, loc, loc', some (s, sz, es), rfl, rfl, Nat.le_refl _, hnt, fun t h => ⟨h, .inl rfl⟩, ?_, ?_, ?_, ?_⟩
  · simp only [true_or, Option.map_some]; exact hl.all
  · simp only [true_or, Option.map_some]; exact hb.all
  · rintro s' sz' es' h
    cases h
    refine ⟨hs', rowsD es, hs, by simp, ?_, ?_⟩
    · intro r hr
      obtain ⟨e, he, rfl⟩ := List.mem_map.1 hr
      simpa using hsz e he
    · intro i h1 h2
      have : (rowsD es)[i] = (es[i]).map AV.d := by simp [rowsD]
      rw [this]
      exact toDs_map _
  · intro k rows _ h
    exact .inl (by rw [← ho]; exact h)
@[simp] theorem to_frz {p q : Nat → Prop} {k n sz : Nat} {es : List (List D)} (h : n = es.length) : To p q (some (k, sz, es)) (.msl k 0 n sz) (.d (.sl sz es)) := by
  subst h
  exact .frz rfl
theorem Fin.gen {cx : Cx} {nt0 nt nt' : Nat} {rs : List ResultVar} {l : List (Nat × AV)} {out : Nat → Option (List (List AV))} {loc : List (Nat × List (List AV))} {tok tok' : Nat → Bool} {vs : List AV} {av : AV}
    (hres : resAs P ⟨tl l, lb cx.base out loc, tok, nt⟩ rs = some vs) (hbox : lb cx.base out [] = out) (h0 : nt0 ≤ nt') (hnt : nt' ≤ nt) (htok : ∀ t, tok' t = true → tok t = true ∧ (nt' = nt ∨ t < nt'))
    (ho : ∀ k rows, k < cx.base → out k = some rows → cx.B0 k = some rows ∨ ∀ r ∈ rows, ∀ x ∈ r, OkIn (fun k => lb cx.base out [] k ≠ none) (fun t => nt' = nt ∨ t < nt') x)
    (hto : To (fun k => lb cx.base out [] k ≠ none) (fun t => nt' = nt ∨ t < nt') none (packA vs) av) : Fin P cx nt0 rs (fun v' m' => v' = av ∧ m' = ⟨out, cx.base, tok', nt'⟩) ⟨tl l, lb cx.base out loc, tok, nt⟩ :=
  ⟨vs, out, loc, none, av, ⟨out, cx.base, tok', nt'⟩, hres, ⟨rfl, rfl, hnt, h0, htok, fun _ => .bot, fun s rows' h => by simp [lk] at h, (fun _ _ _ h => by cases h),
    ho⟩, hbox.symm, rfl, by simpa using hto, rfl, rfl⟩
theorem Fin.own {cx : Cx} {nt0 nt : Nat} {rs : List ResultVar} {l : List (Nat × AV)} {out : Nat → Option (List (List AV))} {loc : List (Nat × List (List AV))} {tok : Nat → Bool} {vs : List AV} {av : AV}
    (hres : resAs P ⟨tl l, lb cx.base out loc, tok, nt⟩ rs = some vs) (hbox : lb cx.base out [] = out) (ho : out = cx.B0) (hnt : nt0 ≤ nt)
    (hto : To (fun k => lb cx.base out [] k ≠ none) (fun _ => True) none (packA vs) av) : Fin P cx nt0 rs (fun v' m' => v' = av ∧ m' = ⟨out, cx.base, tok, nt⟩) ⟨tl l, lb cx.base out loc, tok, nt⟩ :=
  Fin.gen hres hbox hnt (Nat.le_refl _) (fun t h => ⟨h, .inl rfl⟩) (fun k rows _ h => .inl (by rw [← ho]; exact h)) (by simpa using hto)
theorem Ext.lb {box box' : Nat → Option (List (List AV))} {nb : Nat} (h : Ext box box') (hb : lb nb box' [] = box') (loc : List (Nat × List (List AV))) : Ext box (AM.lb nb box' loc) := fun k r hk => by
  have h1 := h k r hk
  rw [lb_out (key_lt hb h1)]
  exact h1
theorem OkIn.mono {p p' q q' : Nat → Prop} (hp : ∀ k, p k → p' k) (hq : ∀ k, q k → q' k) {x : AV} (h : OkIn p q x) : OkIn p' q' x := by
  induction h with
  | bot => exact .bot
  | d => exact .d
  | osl h => exact .osl fun t e => hq _ (h t e)
  | cptr => exact .cptr
  | ptr h => exact .ptr (hp _ h)
  | here h => exact .here (hp _ h)
  | buf h => exact .buf (hq _ h)
  | msl h => exact .msl (hp _ h)
  | fn h ih => exact .fn ih
  | agg h ih => exact .agg ih
  | tup h ih => exact .tup ih
  | ex h => exact .ex (hq _ h)
theorem okFn {box : Nat → Option (List (List AV))} {nb : Nat} {caps : List AV} (h : ∀ c ∈ caps, OkIn (fun k => box k ≠ none) (fun _ => True) c) (hb : lb nb box [] = box) (loc : List (Nat × List (List AV))) {p q : Nat → Prop}
    (hp : p = fun k => lb nb box loc k ≠ none) (hq : q = fun _ => True) (f : Fn) : OkIn p q (.fn f caps) := by
  subst hp; subst hq
  refine .fn fun c hc => (h c hc).mono (fun k hk => ?_) fun _ h => h
  obtain ⟨r, hr⟩ := Option.ne_none_iff_exists'.1 hk
  rw [lb_out (key_lt hb hr), hr]
  simp
theorem Fin.mono {cx : Cx} {nt0 : Nat} {rs : List ResultVar} {Q Q' : AV → AMem → Prop} {S : AState} (h : Fin P cx nt0 rs Q S) (hq : ∀ v m, Q v m → Q' v m) : Fin P cx nt0 rs Q' S := by
  obtain ⟨vs, out, loc, fz, av, m', h1, h2, h3, h4, h5, h6⟩ := h
  exact ⟨vs, out, loc, fz, av, m', h1, h2, h3, h4, h5, hq _ _ h6⟩
def Conv (v : AV) (m : AMem) (v' : AV) (m' : AMem) : Prop := m'.nb = m.nb ∧ m'.box = m.box ∧ ∀ G w u, RelM G m w → RV G w v u → ∃ G', RelM G' m' w ∧ RV G' w v' u ∧ Le G w G' w ∧ ∀ k, G.bx k = none → G'.bx k = none
theorem Conv.refl (v : AV) (m : AMem) : Conv v m v m := ⟨rfl, rfl, fun G w u h1 h2 => ⟨G, h1, h2, Le.refl G w, fun _ h => h⟩⟩
theorem Conv.newtok (sz sz' : Nat) (box : Nat → Option (List (List AV))) (nb : Nat) (tok : Nat → Bool) (nt : Nat) : Conv (.osl sz [] .full) ⟨box, nb, tok, nt⟩ (.osl sz' [] (.tok nt)) ⟨box, nb, upd tok nt true, nt + 1⟩ := by
  refine ⟨rfl, rfl, fun G w u hm hv => ⟨G.newtok none, hm.newtok none (fun g h => by cases h), ?_, Le.newtok none, fun k h => h⟩⟩
  have hnt : G.nt = nt := hm.nt
  cases hv with
  | osl h ho =>
    cases h with
    | sl u hcap hmax hsz hA hc hr =>
      refine .osl (.sl (fun _ _ => default) hcap hmax (by simp) (by simp) (fun a _ i j hi _ => by simp at hi) (fun i j hi _ => by simp at hi)) ⟨by simp [Gh.newtok, hnt], fun x hx => ?_⟩
      simp only [Gh.newtok, hnt, upd_same, Option.some.injEq] at hx
      subst hx
      exact ho
attribute [simp] intsOf convF
end Go.AM
namespace Go.AM
open Go
variable {P : Program}
def AV.asD1 : AV → AV
  | .osl sz es _ => .d (.sl sz es)
  | x => x
def AV.asD : AV → AV
  | .osl sz es _ => .d (.sl sz es)
  | .agg cs => .agg (cs.map AV.asD1)
  | x => x
theorem RV.asD1 {G : Gh} {w : World} {x : AV} {v : Value} (h : RV G w x v) : RV G w x.asD1 v := by
  cases h with
  | osl h1 h2 => exact .d h1
  | bot => exact .bot
  | d h1 => exact .d h1
  | ptr h1 => exact .ptr h1
  | here h1 h2 => exact .here h1 h2
  | buf h1 h2 h3 h4 => exact .buf h1 h2 h3 h4
  | cptr a u hc hr => exact .cptr a u hc hr
  | msl h1 h2 h3 => exact .msl h1 h2 h3
  | fn hl h => exact .fn hl h
  | agg hl h h1 => exact .agg hl h h1
  | tup hl h => exact .tup hl h
  | ex h => exact .ex h
theorem RV.asD {G : Gh} {w : World} {x : AV} {v : Value} (h : RV G w x v) : RV G w x.asD v := by
  cases h with
  | osl h1 h2 => exact .d h1
  | bot => exact .bot
  | d h1 => exact .d h1
  | ptr h1 => exact .ptr h1
  | here h1 h2 => exact .here h1 h2
  | buf h1 h2 h3 h4 => exact .buf h1 h2 h3 h4
  | cptr a u hc hr => exact .cptr a u hc hr
  | msl h1 h2 h3 => exact .msl h1 h2 h3
  | fn hl h => exact .fn hl h
  | agg hl h h1 => exact .agg (by simp [hl]) (fun i g1 g2 => by simp only [List.getElem_map]; exact (h i (by simpa using g1) g2).asD1) h1
  | tup hl h => exact .tup hl h
  | ex h => exact .ex h
theorem RVs.asD {G : Gh} {w : World} {xs : List AV} {vs : List Value} (h : RVs G w xs vs) : RVs G w (xs.map AV.asD) vs :=
  ⟨by simp [h.1], fun i g1 g2 => by simp only [List.getElem_map]; exact (h.2 i (by simpa using g1) g2).asD⟩
theorem ACalls.asD {f : FuncId} {args : List AV} {m : AMem} {Q : AV → AMem → Prop} (h : ACalls P f (args.map AV.asD) m Q) : ACalls P f args m Q :=
  ⟨h.1, fun G w vals hm hr => h.2 G w vals hm hr.asD⟩
theorem Stop.data {cx : Cx} {dr : Bool} {fid : FuncId} {args : List AV} {S : AState} {dst : Option Tmp} {K : AState → Prop} (h : Stop P cx dr fid (args.map AV.asD) S dst K) : Stop P cx dr fid args S dst K := by
  cases dr with
  | true =>
    obtain ⟨v, tok', nt', h1, h2⟩ := h
    exact ⟨v, tok', nt', fun box nb he => (h1 box nb he).asD, h2⟩
  | false => exact ACalls.asD h
def Sub (x y : AV) : Prop := ∀ G w v, RV G w x v → RV G w y v
theorem Sub.refl (x : AV) : Sub x x := fun _ _ _ h => h
theorem Sub.data (sz : Nat) (es : List (List D)) (o : Own) : Sub (.osl sz es o) (.d (.sl sz es)) := fun _ _ _ h => h.asD
theorem Sub.nil (sz sz' : Nat) (o : Own) : Sub (.osl sz [] o) (.d (.sl sz' [])) := fun G w v h => by
  cases h with
  | osl h ho =>
    cases h with
    | sl u hcap hmax hsz hA hc hr => exact .d (.sl (es := []) (fun _ _ => default) hcap hmax (by simp) (by simp) (fun a _ i j hi _ => by simp at hi) (fun i j hi _ => by simp at hi))
def SubL : List AV → List AV → Prop
  | [], [] => True
  | x :: xs, y :: ys => Sub x y ∧ SubL xs ys
  | _, _ => False
theorem SubL.rvs {G : Gh} {w : World} : ∀ {xs ys : List AV} {vs : List Value}, SubL xs ys → RVs G w xs vs → RVs G w ys vs
  | [], [], vs, _, h => h
  | x :: xs, y :: ys, [], _, h => by have := h.1; simp at this
  | x :: xs, y :: ys, v :: vs, hs, h => RVs.cons (hs.1 _ _ _ (h.2 0 (by simp) (by simp))) (hs.2.rvs ⟨by simpa using h.1, fun i h1 h2 => h.2 (i + 1) (by simpa using h1) (by simpa using h2)⟩)
theorem ACalls.sub {f : FuncId} {args args' : List AV} {m : AMem} {Q : AV → AMem → Prop} (hs : SubL args args') (h : ACalls P f args' m Q) : ACalls P f args m Q :=
  ⟨h.1, fun G w vals hm hr => h.2 G w vals hm (hs.rvs hr)⟩
theorem Stop.sub {cx : Cx} {dr : Bool} {fid : FuncId} {args args' : List AV} {S : AState} {dst : Option Tmp} {K : AState → Prop} (hs : SubL args args') (h : Stop P cx dr fid args' S dst K) : Stop P cx dr fid args S dst K := by
  cases dr with
  | true =>
    obtain ⟨v, tok', nt', h1, h2⟩ := h
    exact ⟨v, tok', nt', fun box nb he => (h1 box nb he).sub hs, h2⟩
  | false => exact ACalls.sub hs h
theorem Stop.of_a {cx : Cx} {fid : FuncId} {args : List AV} {S : AState} {dst : Option Tmp} {K : AState → Prop} {Q : AV → AMem → Prop} (h : ACalls P fid args ⟨S.box, cx.nb, S.tok, S.nt⟩ Q)
    (hk : ∀ v m', Q v m' → K ⟨putT S.tmps dst v, m'.box, m'.tok, m'.nt⟩) : Stop P cx false fid args S dst K := h.mono hk
end Go.AM
namespace Go.AM
open Go
variable {P : Program}
def Trans (cx : Cx) (nt0 : Nat) (S S' : AState) : Prop := ∀ G0 w0 G a w, Entry cx nt0 G0 → G0.nt ≤ nt0 → RelS cx.n cx.nb G S a w → LeC cx G0 w0 G w S → ∃ G', RelS cx.n cx.nb G' S' a w ∧ LeC cx G0 w0 G' w S'
theorem AT.trans {cx : Cx} {nt0 : Nat} {c : Code} {S S' : AState} {K : Exit → AState → Prop} (h : Trans cx nt0 S S') (k : AT P cx nt0 c S' K) : AT P cx nt0 c S K := by
  intro G0 w0 he hn G a w hr hl
  obtain ⟨G', hr', hl'⟩ := h G0 w0 G a w he hn hr hl
  exact k G0 w0 he hn G' a w hr' hl'
theorem AL.trans {cx : Cx} {nt0 : Nat} {K : Exit → AState → Prop} {r : List CI} {S S' : AState} {x : Code} (hw : Trans cx nt0 S S') (h : AL P cx nt0 K (.c x :: r) S') : AL P cx nt0 K (.c x :: r) S := by
  simp only [AL] at h ⊢
  exact AT.trans hw h
inductive ThTo (t k sz : Nat) (es : List (List D)) : AV → AV → Prop
  | bot {x} : ThTo t k sz es x .bot
  | same {x} : ThTo t k sz es x x
  | ex : ThTo t k sz es (.ex t sz es) (.msl k 0 es.length sz)
  | agg {cs ds : List AV} (hl : cs.length = ds.length) (h : ∀ i (h1 : i < cs.length) (h2 : i < ds.length), ThTo t k sz es cs[i] ds[i]) : ThTo t k sz es (.agg cs) (.agg ds)
def ThR (t k sz : Nat) (es : List (List D)) (r r' : List AV) : Prop := r.length = r'.length ∧ ∀ i (h1 : i < r.length) (h2 : i < r'.length), ThTo t k sz es r[i] r'[i]
def ThRs (t k sz : Nat) (es : List (List D)) (r r' : List (List AV)) : Prop := r.length = r'.length ∧ ∀ i (h1 : i < r.length) (h2 : i < r'.length), ThR t k sz es r[i] r'[i]
def ThL (t k sz : Nat) (es : List (List D)) : List (Nat × AV) → List (Nat × AV) → Prop
  | [], [] => True
  | (i, x) :: a, (j, y) :: b => i = j ∧ ThTo t k sz es x y ∧ ThL t k sz es a b
  | _, _ => False
def ThB (t k sz : Nat) (es : List (List D)) : List (Nat × List (List AV)) → List (Nat × List (List AV)) → Prop
  | [], [] => True
  | (i, x) :: a, (j, y) :: b => i = j ∧ ThRs t k sz es x y ∧ ThB t k sz es a b
  | _, _ => False
theorem ThL.at {t k sz : Nat} {es : List (List D)} : ∀ {l l' : List (Nat × AV)}, ThL t k sz es l l' → ∀ i, ThTo t k sz es (tl l i) (tl l' i)
  | [], [], _, i => .same
  | (i, x) :: a, (j, y) :: b, h, q => by
    obtain ⟨rfl, h1, h2⟩ := h
    rw [tl_cons, tl_cons]
    split
    · exact h1
    · exact ThL.at h2 q
  | [], _ :: _, h, _ => h.elim
  | _ :: _, [], h, _ => h.elim
theorem ThB.at {t k sz : Nat} {es : List (List D)} : ∀ {l l' : List (Nat × List (List AV))}, ThB t k sz es l l' → ∀ i, (lk l i = none ∧ lk l' i = none) ∨ ∃ r r', lk l i = some r ∧ lk l' i = some r' ∧ ThRs t k sz es r r'
  | [], [], _, i => .inl ⟨rfl, rfl⟩
  | (i, x) :: a, (j, y) :: b, h, q => by
    obtain ⟨rfl, h1, h2⟩ := h
    rw [lk_cons, lk_cons]
    split
    · exact .inr ⟨x, y, rfl, rfl, h1⟩
    · exact ThB.at h2 q
  | [], _ :: _, h, _ => h.elim
  | _ :: _, [], h, _ => h.elim
theorem ThRs.flat {t k sz : Nat} {es : List (List D)} : ∀ {r r' : List (List AV)}, ThRs t k sz es r r' → ThR t k sz es r.flatten r'.flatten
  | [], [], _ => ⟨rfl, fun i h => by simp at h⟩
  | x :: a, y :: b, h => by
    have h0 := h.2 0 (by simp) (by simp)
    have ih : ThR t k sz es a.flatten b.flatten := ThRs.flat ⟨by simpa using h.1, fun i h1 h2 => h.2 (i + 1) (by simpa using h1) (by simpa using h2)⟩
    simp only [List.getElem_cons_zero] at h0
    refine ⟨by simp [h0.1, ih.1], fun i h1 h2 => ?_⟩
    have hl := h0.1
    have hi2 := ih.1
    simp only [List.flatten_cons] at h1 h2 ⊢
    rw [List.length_append] at h1 h2
    by_cases hi : i < x.length
    · have e1 : (x ++ a.flatten)[i]'(by rw [List.length_append]; omega) = x[i] := List.getElem_append_left hi
      have e2 : (y ++ b.flatten)[i]'(by rw [List.length_append]; omega) = y[i]'(by omega) := List.getElem_append_left (by omega)
      rw [e1, e2]
      exact h0.2 i hi _
    · have e1 : (x ++ a.flatten)[i]'(by rw [List.length_append]; omega) = a.flatten[i - x.length]'(by omega) := List.getElem_append_right (by omega)
      have e2 : (y ++ b.flatten)[i]'(by rw [List.length_append]; omega) = b.flatten[i - y.length]'(by omega) := List.getElem_append_right (by omega)
      rw [e1, e2]
      have := ih.2 (i - x.length) (by omega) (by omega)
      simp only [hl] at this ⊢
      exact this
  | [], _ :: _, h => by have := h.1; simp at this
  | _ :: _, [], h => by have := h.1; simp at this
inductive SeTo (t k sz : Nat) (es : List (List D)) : AV → AV → Prop
  | bot {x} : SeTo t k sz es x .bot
  | same {x} (h : OkIn (· ≠ k) (fun _ => True) x) : SeTo t k sz es x x
  | msl : SeTo t k sz es (.msl k 0 es.length sz) (.ex t sz es)
  | agg {cs ds : List AV} (hl : cs.length = ds.length) (h : ∀ i (h1 : i < cs.length) (h2 : i < ds.length), SeTo t k sz es cs[i] ds[i]) : SeTo t k sz es (.agg cs) (.agg ds)
def SeR (t k sz : Nat) (es : List (List D)) (r r' : List AV) : Prop := r.length = r'.length ∧ ∀ i (h1 : i < r.length) (h2 : i < r'.length), SeTo t k sz es r[i] r'[i]
def SeRs (t k sz : Nat) (es : List (List D)) (r r' : List (List AV)) : Prop := r.length = r'.length ∧ ∀ i (h1 : i < r.length) (h2 : i < r'.length), SeR t k sz es r[i] r'[i]
def SeL (t k sz : Nat) (es : List (List D)) : List (Nat × AV) → List (Nat × AV) → Prop
  | [], [] => True
  | (i, x) :: a, (j, y) :: b => i = j ∧ SeTo t k sz es x y ∧ SeL t k sz es a b
  | _, _ => False
def SeB (t k sz : Nat) (es : List (List D)) : List (Nat × List (List AV)) → List (Nat × List (List AV)) → Prop
  | [], [] => True
  | (i, x) :: a, (j, y) :: b => i = j ∧ SeRs t k sz es x y ∧ SeB t k sz es a b
  | _, _ => False
theorem SeL.at {t k sz : Nat} {es : List (List D)} : ∀ {l l' : List (Nat × AV)}, SeL t k sz es l l' → ∀ i, SeTo t k sz es (tl l i) (tl l' i)
  | [], [], _, i => .bot
  | (i, x) :: a, (j, y) :: b, h, q => by
    obtain ⟨rfl, h1, h2⟩ := h
    rw [tl_cons, tl_cons]
    split
    · exact h1
    · exact SeL.at h2 q
  | [], _ :: _, h, _ => h.elim
  | _ :: _, [], h, _ => h.elim
theorem SeB.at {t k sz : Nat} {es : List (List D)} : ∀ {l l' : List (Nat × List (List AV))}, SeB t k sz es l l' → ∀ i, (lk l i = none ∧ lk l' i = none) ∨ ∃ r r', lk l i = some r ∧ lk l' i = some r' ∧ SeRs t k sz es r r'
  | [], [], _, i => .inl ⟨rfl, rfl⟩
  | (i, x) :: a, (j, y) :: b, h, q => by
    obtain ⟨rfl, h1, h2⟩ := h
    rw [lk_cons, lk_cons]
    split
    · exact .inr ⟨x, y, rfl, rfl, h1⟩
    · exact SeB.at h2 q
  | [], _ :: _, h, _ => h.elim
  | _ :: _, [], h, _ => h.elim
theorem SeRs.flat {t k sz : Nat} {es : List (List D)} : ∀ {r r' : List (List AV)}, SeRs t k sz es r r' → SeR t k sz es r.flatten r'.flatten
  | [], [], _ => ⟨rfl, fun i h => by simp at h⟩
  | x :: a, y :: b, h => by
    have h0 := h.2 0 (by simp) (by simp)
    have ih : SeR t k sz es a.flatten b.flatten := SeRs.flat ⟨by simpa using h.1, fun i h1 h2 => h.2 (i + 1) (by simpa using h1) (by simpa using h2)⟩
    simp only [List.getElem_cons_zero] at h0
    refine ⟨by simp [h0.1, ih.1], fun i h1 h2 => ?_⟩
    have hl := h0.1
    have hi2 := ih.1
    simp only [List.flatten_cons] at h1 h2 ⊢
    rw [List.length_append] at h1 h2
    by_cases hi : i < x.length
    · have e1 : (x ++ a.flatten)[i]'(by rw [List.length_append]; omega) = x[i] := List.getElem_append_left hi
      have e2 : (y ++ b.flatten)[i]'(by rw [List.length_append]; omega) = y[i]'(by omega) := List.getElem_append_left (by omega)
      rw [e1, e2]
      exact h0.2 i hi _
    · have e1 : (x ++ a.flatten)[i]'(by rw [List.length_append]; omega) = a.flatten[i - x.length]'(by omega) := List.getElem_append_right (by omega)
      have e2 : (y ++ b.flatten)[i]'(by rw [List.length_append]; omega) = b.flatten[i - y.length]'(by omega) := List.getElem_append_right (by omega)
      rw [e1, e2]
      have := ih.2 (i - x.length) (by omega) (by omega)
      simp only [hl] at this ⊢
      exact this
  | [], _ :: _, h => by have := h.1; simp at this
  | _ :: _, [], h => by have := h.1; simp at this
section
variable {t k sz : Nat} {es : List (List D)}
@[simp] theorem thTo_bot (x : AV) : ThTo t k sz es x .bot := .bot
@[simp] theorem thTo_same (x : AV) : ThTo t k sz es x x := .same
@[simp] theorem thTo_ex {n : Nat} : ThTo t k sz es (.ex t sz es) (.msl k 0 n sz) ↔ n = es.length := ⟨fun h => by cases h; rfl, fun h => by subst h; exact .ex⟩
@[simp] theorem seTo_bot (x : AV) : SeTo t k sz es x .bot := .bot
@[simp] theorem seTo_d (x : D) : SeTo t k sz es (.d x) (.d x) := .same .d
@[simp] theorem seTo_osl (n : Nat) (xs : List (List D)) (o : Own) : SeTo t k sz es (.osl n xs o) (.osl n xs o) := .same (.osl fun _ _ => trivial)
@[simp] theorem seTo_msl : SeTo t k sz es (.msl k 0 es.length sz) (.ex t sz es) := .msl
end
@[simp] theorem to_ex {p : Nat → Prop} {fz : Option (Nat × Nat × List (List D))} (t sz : Nat) (es : List (List D)) : To p (fun _ => True) fz (.ex t sz es) (.ex t sz es) := .same (.ex trivial)
@[simp] theorem okIn_ex {p q : Nat → Prop} {t sz : Nat} {es : List (List D)} : OkIn p q (.ex t sz es) ↔ q t := ⟨fun h => by cases h; assumption, .ex⟩
end Go.AM
namespace Go.AM
open Go
variable {P : Program}
inductive Bo (box : Nat → Option (List (List AV))) : AV → AV → Prop
  | same {x} (h : OkIn (fun _ => False) (fun _ => True) x) : Bo box x x
  | msl {k sz : Nat} {es : List (List D)} (hk : box k = some (rowsD es)) : Bo box (.msl k 0 es.length sz) (.d (.sl sz es))
def BoL (box : Nat → Option (List (List AV))) : List AV → List AV → Prop
  | [], [] => True
  | x :: a, y :: b => Bo box x y ∧ BoL box a b
  | _, _ => False
theorem Bo.ext {box box' : Nat → Option (List (List AV))} (he : Ext box box') {x y : AV} (h : Bo box x y) : Bo box' x y := by
  cases h with
  | same h => exact .same h
  | msl h => exact .msl (he _ _ h)
theorem BoL.ext {box box' : Nat → Option (List (List AV))} (he : Ext box box') : ∀ {a b : List AV}, BoL box a b → BoL box' a b
  | [], [], _ => trivial
  | x :: a, y :: b, h => ⟨h.1.ext he, BoL.ext he h.2⟩
  | [], _ :: _, h => h.elim
  | _ :: _, [], h => h.elim
end Go.AM
namespace Go.AM
open Go
variable {P : Program}
theorem EffV.val {o : Oper} {ρ : Operand → AV} {box box' : Nat → Option (List (List AV))} {tok tok' : Nat → Bool} {nt nt' : Nat} {v : AV} (h : EffV P o ρ box tok nt v box' tok' nt') : isVal o.op = true := by
  unfold EffV at h
  split at h
  · rename_i c ho
    split at h
    · rename_i f hf
      rw [ho]
      obtain ⟨cal, args, tys⟩ := c
      simp only at hf
      subst hf
      rfl
    · exact h.elim
  · exact h.elim
theorem EffV.spec {o : Oper} {ρ : Operand → AV} {box box' : Nat → Option (List (List AV))} {tok tok' : Nat → Bool} {nt nt' : Nat} {v : AV} (h : EffV P o ρ box tok nt v box' tok' nt') :
    ∃ x k i off rows, callPtr o.op = some x ∧ ρ x = .ptr k i off ∧ box' = upd box k (some rows) := by
  unfold EffV at h
  split at h
  · split at h
    · split at h
      · obtain ⟨x, k, i, off, rows, g1, g2, g3, g4, g5⟩ := h
        exact ⟨x, k, i, off, rows, g1, g2, g4⟩
      · exact h.elim
    · exact h.elim
  · exact h.elim
theorem Eff.up {wr : Bool} {base : Nat} {o : Oper} {ρ : Operand → AV} {box box' : Nat → Option (List (List AV))} {tok tok' : Nat → Bool} {nt nt' : Nat} {v : AV} (h : Eff P false base o ρ box tok nt v box' tok' nt') : Eff P wr base o ρ box tok nt v box' tok' nt' := by
  unfold Eff at h ⊢
  cases hc : cls o.op <;> simp only [hc] at h ⊢ <;> first | exact h | exact .inl (t_false h)
theorem Eff.down {wr : Bool} {base : Nat} {o : Oper} {ρ : Operand → AV} {box box' : Nat → Option (List (List AV))} {tok tok' : Nat → Bool} {nt nt' : Nat} {v : AV} (hv : isVal o.op = false) (h : Eff P wr base o ρ box tok nt v box' tok' nt') : Eff P false base o ρ box tok nt v box' tok' nt' := by
  unfold Eff at h ⊢
  cases hc : cls o.op <;> simp only [hc] at h ⊢ <;> first | exact h | skip
  rcases h with h | ⟨_, h⟩
  · exact .inl h
  · rw [h.val] at hv; cases hv
theorem Step.up {wr : Bool} {base : Nat} {o : Oper} {S S' : AState} (h : Step P false base o S S') : Step P wr base o S S' := by
  obtain ⟨v, b, t, n, h1, h2⟩ := h
  exact ⟨v, b, t, n, h1.up, h2⟩
def ptrOp3 (o : Op) : Option Operand := match ptrOp o with
  | some p => some p
  | none => callPtr o
def calm (x y : Oper) : Bool := match isVal x.op, isVal y.op with
  | true, true => false
  | true, false => decide (cls y.op = .n) || decide (cls y.op = .r)
  | false, true => decide (cls x.op = .n) || decide (cls x.op = .r)
  | false, false => !clash x y || isPtr x.op && isPtr y.op
theorem load_ptr {o : Oper} (h : cls o.op = .r) : ∃ p, ptrOp o.op = some p := by
  cases hop : o.op <;> rw [hop] at h <;> simp only [cls, reduceCtorEq] at h
  · exact ⟨_, rfl⟩
  · split at h <;> first | (rename_i e; cases e; done) | (cases h; done) | simp_all
theorem val_cls {o : Op} (h : isVal o = true) : cls o = .t ∧ ptrOp o = none := by
  unfold isVal at h
  split at h
  · exact ⟨rfl, rfl⟩
  · cases h
theorem calm_swap {base : Nat} {x y : Oper} {ρ : Operand → AV} {b0 b1 b2 : Nat → Option (List (List AV))} {t0 t1 t2 : Nat → Bool} {n0 n1 n2 : Nat} {vx vy : AV} (hc : calm x y = true)
    (hk : ∀ p q, ptrOp3 x.op = some p → ptrOp3 y.op = some q → (cls x.op ≠ .r ∨ cls y.op ≠ .r) → ∀ k i off k' i' off', ρ p = .ptr k i off → ρ q = .ptr k' i' off' → k ≠ k')
    (hx : Eff P true base x ρ b0 t0 n0 vx b1 t1 n1) (hy : Eff P true base y ρ b1 t1 n1 vy b2 t2 n2) : ∃ c t n, Eff P true base y ρ b0 t0 n0 vy c t n ∧ Eff P true base x ρ c t n vx b2 t2 n2 := by
  unfold calm at hc
  cases vx' : isVal x.op <;> cases vy' : isVal y.op <;> simp only [vx', vy'] at hc
  · have dx := hx.down vx'
    have dy := hy.down vy'
    cases hcl : clash x y with
    | false =>
      obtain ⟨c, t, n, h1, h2⟩ := eff_swap hcl dx dy
      exact ⟨c, t, n, h1.up, h2.up⟩
    | true =>
      rw [hcl] at hc
      simp only [Bool.not_true, Bool.false_or, Bool.and_eq_true] at hc
      obtain ⟨p, hp⟩ := Option.isSome_iff_exists.1 hc.1
      obtain ⟨q, hq⟩ := Option.isSome_iff_exists.1 hc.2
      have hp3 : ptrOp3 x.op = some p := by unfold ptrOp3; rw [hp]
      have hq3 : ptrOp3 y.op = some q := by unfold ptrOp3; rw [hq]
      have hr : cls x.op ≠ .r ∨ cls y.op ≠ .r := by
        by_cases e1 : cls x.op = .r
        · by_cases e2 : cls y.op = .r
          · simp [clash, e1, e2] at hcl
          · exact .inr e2
        · exact .inl e1
      obtain ⟨c, t, n, h1, h2⟩ := eff_far hp hq (hk p q hp3 hq3 hr) dx dy
      exact ⟨c, t, n, h1.up, h2.up⟩
  · -- the call comes second
    obtain ⟨cy, py⟩ := val_cls vy'
    unfold Eff at hx hy ⊢
    simp only [Bool.or_eq_true, decide_eq_true_eq] at hc
    rcases hc with hc | hc <;> simp only [hc, cy] at hx hy ⊢
    · obtain ⟨e, rfl, rfl, rfl⟩ := hx
      exact ⟨_, _, _, hy, e, rfl, rfl, rfl⟩
    · obtain ⟨e, rfl, rfl, rfl⟩ := hx
      obtain ⟨p, hp⟩ := load_ptr hc
      refine ⟨_, _, _, hy, ?_, rfl, rfl, rfl⟩
      rcases hy with ⟨_, rfl⟩ | ⟨_, hv⟩
      · exact e
      · obtain ⟨z, k, i, off, rows, g1, g2, rfl⟩ := hv.spec
        refine effR_ptr hp hc e fun k1 i1 off1 h1 => ?_
        exact hk p z (by unfold ptrOp3; rw [hp]) (by unfold ptrOp3; rw [py]; exact g1) (.inr (by rw [cy]; decide)) _ _ _ _ _ _ h1 g2
  · -- the call comes first
    obtain ⟨cx, px⟩ := val_cls vx'
    unfold Eff at hx hy ⊢
    simp only [Bool.or_eq_true, decide_eq_true_eq] at hc
    rcases hc with hc | hc <;> simp only [hc, cx] at hx hy ⊢
    · obtain ⟨e, rfl, rfl, rfl⟩ := hy
      exact ⟨_, _, _, ⟨e, rfl, rfl, rfl⟩, hx⟩
    · obtain ⟨e, rfl, rfl, rfl⟩ := hy
      obtain ⟨q, hq⟩ := load_ptr hc
      refine ⟨_, _, _, ⟨?_, rfl, rfl, rfl⟩, hx⟩
      rcases hx with ⟨_, rfl⟩ | ⟨_, hv⟩
      · exact e
      · obtain ⟨z, k, i, off, rows, g1, g2, rfl⟩ := hv.spec
        refine effR_back hq hc (fun k1 i1 off1 h1 => ?_) e
        exact Ne.symm (hk z q (by unfold ptrOp3; rw [px]; exact g1) (by unfold ptrOp3; rw [hq]) (.inl (by rw [cx]; decide)) _ _ _ _ _ _ g2 h1)
  · cases hc
def regOk3 (ops : Array Oper) : Bool :=
  let an := ancs ops.toList []
  dstUniq ops && (List.range ops.size).all fun i => (match ops[i]? with | some o => (direct o).all fun j => decide (j < i) | none => true) &&
    (List.range i).all fun j => (an.getD i 0).testBit j || (match ops[j]?, ops[i]? with
      | some x, some y => Oper.apart ops x y && calm x y
      | _, _ => false)
def unPairs (ops : Array Oper) : List (Operand × Operand) :=
  let an := ancs ops.toList []
  (List.range ops.size).flatMap fun i => (List.range i).filterMap fun j => if (an.getD i 0).testBit j then none else match ops[j]?, ops[i]? with
    | some x, some y => match ptrOp3 x.op, ptrOp3 y.op with
      | some p, some q => if cls x.op = .r ∧ cls y.op = .r then none else some (p, q)
      | _, _ => none
    | _, _ => none
def FarP (S : AState) : List (Operand × Operand) → Prop
  | [] => True
  | (p, q) :: r => NK (S.ev p) (S.ev q) ∧ FarP S r
theorem FarP.at {S : AState} {p q : Operand} : ∀ {L : List (Operand × Operand)}, FarP S L → (p, q) ∈ L → NK (S.ev p) (S.ev q)
  | (a, b) :: r, h, hm => by
    rcases List.mem_cons.1 hm with e | hm
    · cases e; exact h.1
    · exact FarP.at h.2 hm
theorem unPairs_mem {ops : Array Oper} {i j : Nat} {x y : Oper} {p q : Operand} (hx : ops[j]? = some x) (hy : ops[i]? = some y) (hij : j < i) (hb : ((ancs ops.toList []).getD i 0).testBit j = false) (hp : ptrOp3 x.op = some p) (hq : ptrOp3 y.op = some q) (hr : cls x.op ≠ .r ∨ cls y.op ≠ .r) : (p, q) ∈ unPairs ops := by
  have his : i < ops.size := (Array.getElem?_eq_some_iff.1 hy).1
  unfold unPairs
  simp only [List.mem_flatMap, List.mem_range, List.mem_filterMap]
  refine ⟨i, his, j, hij, ?_⟩
  have hnr : ¬ (cls x.op = .r ∧ cls y.op = .r) := fun h => by rcases hr with hr | hr; exact hr h.1; exact hr h.2
  rw [hb, hx, hy]
  simp [hp, hq, hnr]
theorem any_sound3 {n nb base : Nat} {ops : Array Oper} {Q : Exit → Act → World → Prop} {Sf : AState} {G0 : Gh} {w0 : World} {b0 : Nat → Option (List (List AV))} (hreg : regOk3 ops = true) (hal : allocOk ops = true) (hdst : dstOk n ops = true) (hnb : base + n ≤ nb)
    (hfar : FarP Sf (unPairs ops))
    (hQ : ∀ a' w' G', RelS n nb G' Sf a' w' → LeK base G0 w0 b0 G' w' Sf.box → Q .normal a' w') (fuel : Nat) (listed : Array Bool) (rem : List Nat) (S : AState) (a : Act) (w : World) (G : Gh) (hrem : rem = List.range ops.size) (hside : Side ops S)
    (h1 : listed.size = ops.size) (h2 : rem = (List.range ops.size).filter (fun i => !listed.getD i true)) (h3 : rem.length = fuel) (h4 : ∀ i o, ops[i]? = some o → listed.getD i false = true → ∀ j ∈ direct o, listed.getD j false = true)
    (h5 : IRun P true base ops rem S Sf) (h6 : RelS n nb G S a w) (h7 : ∀ i ∈ rem, ∀ o, ops[i]? = some o → Pend P base o G S.box) (h8 : LeK base G0 w0 b0 G w S.box) : wpAny P .any ops Q fuel listed a w := by
  unfold regOk3 at hreg
  simp only [Bool.and_eq_true] at hreg
  obtain ⟨hu, hreg⟩ := hreg
  have key : ∀ (i : Nat) (o : Oper), ops[i]? = some o → (∀ j ∈ direct o, j < i) ∧ ∀ j x, ops[j]? = some x → j < i → ((ancs ops.toList []).getD i 0).testBit j = true ∨ x.apart ops o = true ∧ calm x o = true := by
    intro i o ho
    have his : i < ops.size := (Array.getElem?_eq_some_iff.1 ho).1
    have hall := List.all_eq_true.1 hreg i (by simpa using his)
    rw [ho] at hall
    simp only [Bool.and_eq_true] at hall
    refine ⟨fun j hj => by simpa using List.all_eq_true.1 hall.1 j hj, fun j x hx hj => ?_⟩
    have h2 := List.all_eq_true.1 hall.2 j (by simpa using hj)
    rw [hx] at h2
    simpa only [Bool.or_eq_true, Bool.and_eq_true] using h2
  have start : Ivs Sf S := by
    intro t
    by_cases hd : ∃ o ∈ ops.toList, o.dst = some t
    · obtain ⟨o, ho, hd⟩ := hd
      exact .inr (hside o ho t hd)
    · refine .inl (irun_keeps (fun j _ x hx hxd => hd ⟨x, by simpa using Array.mem_of_getElem? hx, hxd⟩) h5).symm
  refine any_sound' (wr := true) (fun i o ho => (key i o ho).1) (Iv := Ivs Sf) (fun i o S' S'' rest ho hni hst hrun hiv => ivs_step hu i o S' S'' rest ho hni hst hrun hiv) ?_ hal hdst hnb hQ fuel listed rem S a w G h1 h2 h3 h4 start h5 h6 h7 h8
  intro i j o x ho hx hj hb S' S1 S2 hiv g1 g2
  rcases (key i o ho).2 j x hx hj with h | ⟨h, h'⟩
  · rw [hb] at h; cases h
  · refine gstep_swap' h (fun {c0 c1 c2 s0 s1 s2 m0 m1 m2 vx vy} e1 e2 => ?_) g1 g2
    have back : ∀ (z : Operand) k i off, S'.ev z = .ptr k i off → Sf.ev z = .ptr k i off := by
      intro z k i off hz
      cases z with
      | tmp t =>
        rcases hiv t with e | e
        · exact e.symm.trans hz
        · have hz' : S'.tmps t = .ptr k i off := hz
          rw [hz'] at e
          exact e.elim
      | const c => exact hz
      | global c => exact hz
      | func c => exact hz
    refine calm_swap h' (fun p q hp hq hr k i1 off k' i2 off' hk hk' => ?_) e1 e2
    have hnk := hfar.at (unPairs_mem hx ho hj hb hp hq hr)
    rw [back p _ _ _ hk, back q _ _ _ hk'] at hnk
    exact hnk
def StopW (P : Program) (o : Oper) (fid : FuncId) (args : List AV) (S : AState) (K : AState → Prop) : Prop :=
  (∃ v tok' nt', RCall P fid args S.box S.tok S.nt v tok' nt' ∧ K ⟨putT S.tmps o.dst v, S.box, tok', nt'⟩) ∨
  ∃ x k i off rows v tok' nt', callPtr o.op = some x ∧ S.ev x = .ptr k i off ∧ S.box k ≠ none ∧ WCall P fid args k S.box S.tok S.nt v rows tok' nt' ∧ K ⟨putT S.tmps o.dst v, upd S.box k (some rows), tok', nt'⟩
def FOneW (P : Program) (cx : Cx) (o : Oper) (K : AState → Prop) (S : AState) : Prop := match callFn o S.ev with
  | some (fid, args) => StopW P o fid args S K
  | none => FOne P cx true o K S
def FOpsW (P : Program) (cx : Cx) (ops : Array Oper) : List Oper → (AState → Prop) → AState → Prop
  | [], K, S => K S
  | o :: r, K, S => match o.guard with
    | none => FOneW P cx o (FOpsW P cx ops r K) S
    | some (j, want) => match yieldA ops S j with
      | some (some b) => Gd b want (FOneW P cx o (FOpsW P cx ops r K)) (FSkip o.dst (FOpsW P cx ops r K)) S
      | some none => FSkip o.dst (FOpsW P cx ops r K) S
      | none => False
theorem fOpsW_true {cx : Cx} {ops : Array Oper} {K : AState → Prop} : ∀ (l : List Oper) (S : AState), FOpsW P cx ops l K S → ∃ S', ARun P true cx.base ops l S S' ∧ K S'
  | [], S, h => ⟨S, rfl, h⟩
  | o :: r, S, h => by
    have one : FOneW P cx o (FOpsW P cx ops r K) S → ∃ S1 S', Step P true cx.base o S S1 ∧ ARun P true cx.base ops r S1 S' ∧ K S' := by
      intro h1
      unfold FOneW at h1
      split at h1
      · rename_i fid args hc
        unfold callFn at hc
        split at hc
        · rename_i c ho
          split at hc
          · rename_i f hcal
            split at hc
            · rename_i fid' caps hf
              simp only [Option.some.injEq, Prod.mk.injEq] at hc
              obtain ⟨rfl, rfl⟩ := hc
              have hcl : cls o.op = .t := by
                rw [ho]
                obtain ⟨cal, args, tys⟩ := c
                simp only at hcal
                subst hcal
                rfl
              rcases h1 with ⟨v, tok', nt', hd, hk'⟩ | ⟨x, k, i, off, rows, v, tok', nt', g1, g2, g3, hw, hk'⟩
              · obtain ⟨S', h2, h3⟩ := fOpsW_true r _ hk'
                refine ⟨_, S', ⟨v, S.box, tok', nt', ?_, rfl⟩, h2, h3⟩
                unfold Eff
                rw [hcl]
                refine .inl ⟨.inr ?_, rfl⟩
                unfold EffC
                simp only [ho, hcal, hf]
                exact hd
              · obtain ⟨S', h2, h3⟩ := fOpsW_true r _ hk'
                refine ⟨_, S', ⟨v, upd S.box k (some rows), tok', nt', ?_, rfl⟩, h2, h3⟩
                unfold Eff
                rw [hcl]
                refine .inr ⟨rfl, ?_⟩
                unfold EffV
                rw [ho] at g1 ⊢
                simp only [hcal, hf]
                exact ⟨x, k, i, off, rows, g1, g2, g3, rfl, hw⟩
            · cases hc
          · cases hc
        · cases hc
      · rename_i hc
        rcases fOne_cases h1 with ⟨_, S1, hs, hk⟩ | ⟨hdr, _⟩ | ⟨fid, args, hc', hk⟩
        · obtain ⟨S', h2, h3⟩ := fOpsW_true r S1 hk
          exact ⟨S1, S', hs.up, h2, h3⟩
        · cases hdr
        · rw [hc] at hc'; cases hc'
    unfold FOpsW at h
    unfold ARun
    split at h
    · rename_i hg
      obtain ⟨S1, S', h1, h2, h3⟩ := one h
      exact ⟨S', ⟨S1, by unfold GStep; rw [hg]; exact h1, h2⟩, h3⟩
    · rename_i j want hg
      split at h
      · rename_i b hy
        by_cases e : b = want
        · obtain ⟨S1, S', h1, h2, h3⟩ := one (h.1 e)
          exact ⟨S', ⟨S1, by unfold GStep; rw [hg]; simp only [hy, e, ↓reduceIte]; exact h1, h2⟩, h3⟩
        · obtain ⟨S', h2, h3⟩ := fOpsW_true r _ (h.2 (by cases b <;> cases want <;> simp_all))
          exact ⟨S', ⟨_, by unfold GStep; rw [hg]; simp only [hy, Option.some.injEq, e, ↓reduceIte], h2⟩, h3⟩
      · rename_i hy
        obtain ⟨S', h2, h3⟩ := fOpsW_true r _ h
        exact ⟨S', ⟨_, by unfold GStep; rw [hg]; simp only [hy, reduceCtorEq, ↓reduceIte], h2⟩, h3⟩
      · exact h.elim
def FRegW (P : Program) (cx : Cx) (ops : Array Oper) (K : AState → Prop) (S : AState) : Prop := match preF P cx.base ops.toList S.box with
  | some b => FOpsW P cx ops ops.toList K ⟨S.tmps, b, S.tok, S.nt⟩
  | none => False
theorem AL.region3 {cx : Cx} {nt0 : Nat} {K : Exit → AState → Prop} {r : List CI} {S : AState} {id : Nat} {ops : Array Oper} (hf : P.follows .mixedOrders = true) (hnb : cx.base + cx.n ≤ cx.nb) (hok : (allocOk ops && dstOk cx.n ops && regOk3 ops) = true) (hside : Side ops S) (L : List (Operand × Operand)) (hL : unPairs ops = L)
    (h : FRegW P cx ops (fun S' => FarP S' L ∧ AL P cx nt0 K r S') S) : AL P cx nt0 K (.c (.region id ops true) :: r) S := by
  simp only [AL]
  simp only [Bool.and_eq_true] at hok
  obtain ⟨⟨hal, hdst⟩, hreg⟩ := hok
  intro G0 w0 he hn G a w hr hl
  have hd := dstOk_spec hdst
  have hpre : PreB P cx.base ops.toList S.box fun b => ∃ S', ARun P true cx.base ops ops.toList { S with box := b } S' ∧ FarP S' L ∧ AL P cx nt0 K r S' := by
    unfold FRegW at h
    split at h
    · rename_i b hb
      exact preF_sound _ _ b hb (fOpsW_true _ _ h)
    · exact h.elim
  obtain ⟨b, hb, hr1, hp, hkeep⟩ := preB_sound hnb ops.toList S.box (S := S) hr (fun o ho d hod => hd o d (by simpa using ho) hod) (allocOk_nodup hal) hpre
  have hl1 : LeC cx G0 w0 G w { S with box := b } := ⟨hl.1, fun k hk hg => by
    rw [← hl.2 k hk hg]
    refine hkeep k fun hm => ?_
    obtain ⟨o, ho, he⟩ := List.mem_filterMap.1 hm
    split at he
    · rename_i T s h1 h2
      simp only [Option.some.injEq] at he
      subst he
      exact absurd hk (by simp)
    · cases he⟩
  obtain ⟨S', hrun, hfar, hK⟩ := hb
  refine wp_region_any hf ?_
  have hrd : RelS cx.n cx.nb G { S with box := b } a w.drew := hr1.drew
  have hld : LeC cx G0 w0 G w.drew { S with box := b } := hl1.step ⟨Le.drew, fun k _ hg => ⟨hg, rfl⟩⟩
  refine any_sound3 (n := cx.n) (nb := cx.nb) (base := cx.base) (Sf := S') (G0 := G) (w0 := w.drew) (b0 := b) hreg hal hdst hnb (by rw [hL]; exact hfar) (fun a' w' G' h1 h2 => ⟨S', G', hK, h1, hld.step h2⟩) ops.size (Array.replicate ops.size false) (List.range ops.size) { S with box := b } a w.drew G rfl hside (by simp) ?_ (by simp) ?_ (IRun.of_all hrun) hrd ?_ (LeK.refl _ _ _ _)
  · rw [List.filter_eq_self.2]
    intro i hi
    simp at hi
    simp [Array.getD, hi]
  · intro i o ho hlst
    have hi := (Array.getElem?_eq_some_iff.1 ho).1
    simp [Array.getD, hi] at hlst
  · intro i _ o ho
    exact hp o (by simpa using Array.mem_of_getElem? ho)
theorem StopW.of_r {o : Oper} {fid : FuncId} {args : List AV} {S : AState} {K : AState → Prop} {v : AV} {tok' : Nat → Bool} {nt' : Nat} (h : RCall P fid args S.box S.tok S.nt v tok' nt') (hk : K ⟨putT S.tmps o.dst v, S.box, tok', nt'⟩) : StopW P o fid args S K := .inl ⟨v, tok', nt', h, hk⟩
theorem StopW.of_d {o : Oper} {fid : FuncId} {args : List AV} {S : AState} {K : AState → Prop} {v : AV} {tok' : Nat → Bool} {nt' : Nat} (h : DCall P fid args S.tok S.nt v tok' nt') (hk : K ⟨putT S.tmps o.dst v, S.box, tok', nt'⟩) : StopW P o fid args S K := .of_r (h.r _) hk
theorem StopW.of_w {o : Oper} {fid : FuncId} {args : List AV} {S : AState} {K : AState → Prop} {v : AV} {tok' : Nat → Bool} {nt' : Nat} {x : Operand} {k i off : Nat} {rows : List (List AV)} (hx : callPtr o.op = some x) (hp : S.ev x = .ptr k i off) (hb : S.box k ≠ none)
    (h : WCall P fid args k S.box S.tok S.nt v rows tok' nt') (hk : K ⟨putT S.tmps o.dst v, upd S.box k (some rows), tok', nt'⟩) : StopW P o fid args S K := .inr ⟨x, k, i, off, rows, v, tok', nt', hx, hp, hb, h, hk⟩
attribute [simp] FRegW FOneW callFn FarP
@[simp] theorem FOpsW_nil {cx : Cx} {ops : Array Oper} {K : AState → Prop} {t : Nat → AV} {b : Nat → Option (List (List AV))} {k : Nat → Bool} {n : Nat} : FOpsW P cx ops [] K ⟨t, b, k, n⟩ = K ⟨t, b, k, n⟩ := by simp only [FOpsW]
@[simp] theorem FOpsW_cons {cx : Cx} {ops : Array Oper} {o : Oper} {r : List Oper} {K : AState → Prop} {t : Nat → AV} {b : Nat → Option (List (List AV))} {k : Nat → Bool} {n : Nat} : FOpsW P cx ops (o :: r) K ⟨t, b, k, n⟩ = match o.guard with
    | none => FOneW P cx o (FOpsW P cx ops r K) ⟨t, b, k, n⟩
    | some (j, want) => match yieldA ops ⟨t, b, k, n⟩ j with
      | some (some g) => Gd g want (FOneW P cx o (FOpsW P cx ops r K)) (FSkip o.dst (FOpsW P cx ops r K)) ⟨t, b, k, n⟩
      | some none => FSkip o.dst (FOpsW P cx ops r K) ⟨t, b, k, n⟩
      | none => False := by
  simp only [FOpsW]
end Go.AM
