import Derived.Test.YtgonmjghdkoekaaFacI
import Derived.Test.YtgonmjghdkoekaaAmUse3
namespace Go.AM
open Go Go.Proofs
set_option linter.unusedSimpArgs false
set_option linter.unusedVariables false

/-! ### overlaps.edges, overlaps.nodes -/
/-- What a call does to the tokens, where it appends to one accumulator. -/
structure Adv (tok : Nat → Bool) (nt : Nat) (own : Own) (tok' : Nat → Bool) (nt' : Nat) (own' : Own) : Prop where
  keep : ∀ t, tok t = true → own ≠ .tok t → tok' t = true
  le : nt ≤ nt'
  live : own'.liveP tok'
  new : own' = own ∨ ∃ t, own' = .tok t ∧ nt ≤ t
  lt : ∀ t, tok' t = true → t < nt'

theorem Adv.refl {tok : Nat → Bool} {nt : Nat} {own : Own} (h : own.liveP tok) (hl : ∀ t, tok t = true → t < nt) : Adv tok nt own tok nt own := ⟨fun _ h _ => h, Nat.le_refl _, h, .inl rfl, hl⟩
theorem Adv.trans {t1 t2 t3 : Nat → Bool} {n1 n2 n3 : Nat} {o1 o2 o3 : Own} (hl : ∀ t, t1 t = true → t < n1) (h : Adv t1 n1 o1 t2 n2 o2) (k : Adv t2 n2 o2 t3 n3 o3) : Adv t1 n1 o1 t3 n3 o3 := by
  refine ⟨fun t ht ho => k.keep t (h.keep t ht ho) (fun e => ?_), Nat.le_trans h.le k.le, k.live, ?_, k.lt⟩
  · rcases h.new with e2 | ⟨s, e2, hs⟩
    · exact ho (e2 ▸ e)
    · rw [e2] at e
      cases e
      have := hl _ ht
      omega
  · rcases k.new with e2 | ⟨s, e2, hs⟩
    · rw [e2]; exact h.new
    · exact .inr ⟨s, e2, Nat.le_trans h.le hs⟩
/-- A fresh token, and its end. -/
theorem Adv.fresh {tok : Nat → Bool} {nt : Nat} {own : Own} (h : own.liveP tok) (hl : ∀ t, tok t = true → t < nt) : Adv tok nt own (upd (upd (upd tok nt true) nt false) (nt + 1) true) (nt + 2) own := by
  have key : ∀ t, t < nt → (upd (upd (upd tok nt true) nt false) (nt + 1) true) t = tok t := fun t ht => by
    rw [upd_other _ _ (by omega), upd_other _ _ (by omega), upd_other _ _ (by omega)]
  refine ⟨fun t ht _ => by rw [key t (hl t ht)]; exact ht, by omega, ?_, .inl rfl, fun t ht => ?_⟩
  · cases own with
    | full => trivial
    | tok t => simp only [live_tok] at h ⊢; rw [key t (hl t h)]; exact h
  · by_cases e : t = nt + 1
    · omega
    · rw [upd_other _ _ e] at ht
      by_cases e2 : t = nt
      · omega
      · rw [upd_other _ _ e2, upd_other _ _ e2] at ht
        have := hl t ht
        omega
/-- The accumulator appended to. -/
theorem Adv.app {tok : Nat → Bool} {nt : Nat} {own : Own} (h : own.liveP tok) (hl : ∀ t, tok t = true → t < nt) : Adv tok nt own (upd (own.kill tok) nt true) (nt + 1) (.tok nt) := by
  refine ⟨fun t ht ho => ?_, by omega, by simp [upd_same], .inr ⟨nt, rfl, Nat.le_refl _⟩, fun t ht => ?_⟩
  · have := hl t ht
    rw [upd_other _ _ (by omega)]
    cases own with
    | full => exact ht
    | tok s => simp only [kill_tok]; rw [upd_other _ _ (fun e => ho (by rw [e]))]; exact ht
  · by_cases e : t = nt
    · omega
    · rw [upd_other _ _ e] at ht
      cases own with
      | full => have := hl t ht; omega
      | tok s =>
        simp only [kill_tok] at ht
        by_cases e2 : t = s
        · subst e2; rw [upd_same] at ht; cases ht
        · rw [upd_other _ _ e2] at ht
          have := hl t ht
          omega

theorem upd_upd {α : Type} (f : Nat → α) (k : Nat) (x y : α) : upd (upd f k x) k y = upd f k y := by
  funext j
  simp only [upd]
  split <;> rfl

theorem E.eq_and (x y : E) : (decide (x.ty = y.ty) && (decide (x.fr = y.fr) && decide (x.to = y.to))) = decide (x = y) := by
  cases x; cases y; simp

def wantE (b : Gr) (nodes es : List Int) : E :=
  let x := b.edges.getD es.length default
  ⟨x.ty, nodes.getD x.fr.toNat 0, nodes.getD x.to.toNat 0⟩

def ovE (a b : Gr) (nodes : List Int) : Nat → List Int → List Ov → List Ov
  | 0, es, out => if 2000 < out.length then out else out ++ [glue a b nodes es]
  | n + 1, es, out => if 2000 < out.length then out else
      (List.range a.edges.length).foldl (fun (out : List Ov) (k : Nat) => if a.edges.getD k default = wantE b nodes es ∧ (k : Int) ∉ es then ovE a b nodes n (es ++ [(k : Int)]) out else out) (ovE a b nodes n (es ++ [-1]) out)

structure OvH (a b : Gr) (nodes : List Int) : Prop where
  fa : a.Fit
  va : validG a = 0
  fb : b.Fit
  n : nodes.length = b.nodes.length
  x : ∀ e ∈ b.edges, 0 ≤ e.fr ∧ e.fr < nodes.length ∧ 0 ≤ e.to ∧ e.to < nodes.length

abbrev ovRow (a b : Gr) (out : List Ov) (own : Own) : List AV := [.d (ints a.nodes), .d (AM.edges a.edges), .d (ints b.nodes), .d (AM.edges b.edges), .osl 6 (out.map Ov.cells) own]

def QOv (a b : Gr) (box : Nat → Option (List (List AV))) (nb k : Nat) (tok : Nat → Bool) (nt : Nat) (own : Own) (out : List Ov) (v : AV) (m : AMem) : Prop :=
  v = .tup [] ∧ ∃ own' tok' nt', m = ⟨upd box k (some [ovRow a b out own']), nb, tok', nt'⟩ ∧ Adv tok nt own tok' nt' own'

structure AccO where
  i : Nat
  out : List Ov
  own : Own
  tok : Nat → Bool
  nt : Nat

def ovStep (a b : Gr) (nodes : List Int) (n : Nat) (es : List Int) (out : List Ov) (k : Nat) : List Ov := if a.edges.getD k default = wantE b nodes es ∧ (k : Int) ∉ es then ovE a b nodes n (es ++ [(k : Int)]) out else out

def st83 (a b : Gr) (nodes es : List Int) (nb k : Nat) (box : Nat → Option (List (List AV))) (x : AccO) : AState :=
  ⟨tl [(0, .ptr k 0 0), (1, .d (ints nodes)), (2, .d (ints es)), (7, .ptr (nb + 7) 0 0), (78, .d (AM.edges a.edges)), (79, I a.edges.length), (80, I x.i)],
    lb nb (upd box k (some [ovRow a b x.out x.own])) [(7, [[I (wantE b nodes es).ty, I (wantE b nodes es).fr, I (wantE b nodes es).to]])], x.tok, x.nt⟩

theorem outOk {a b : Gr} {out : List Ov} {own : Own} {box : Nat → Option (List (List AV))} {k base : Nat} {p q : Nat → Prop} (hq : q = fun _ => True) : ∀ k' rows, k' < base → (upd box k (some [ovRow a b out own])) k' = some rows → box k' = some rows ∨ ∀ r ∈ rows, ∀ x ∈ r, OkIn p q x := by
  subst hq
  intro k' rows hk' hr
  by_cases e : k' = k
  · subst e
    rw [upd_same] at hr
    cases hr
    exact .inr (by simp)
  · rw [upd_other _ _ e] at hr
    exact .inl hr

theorem edges_c (a b : Gr) (nodes : List Int) (h : OvH a b nodes) : ∀ (n : Nat) (es : List Int) (out : List Ov) (own : Own) (box : Nat → Option (List (List AV))) (nb k : Nat) (tok : Nat → Bool) (nt : Nat), es.length + n = b.edges.length →
    box k = some [ovRow a b out own] → own.liveP tok → ACalls Try.prog 83 [.ptr k 0 0, .d (ints nodes), .d (ints es)] ⟨box, nb, tok, nt⟩ (QOv a b box nb k tok nt own (ovE a b nodes n es out)) := by
  intro n
  induction n with
  | zero =>
    intro es out own box nb k tok nt hes hk hlive
    have hself : box = upd box k (some [ovRow a b out own]) := (upd_self box k _ hk).symm
    refine ACalls.of_body Try.func83 rfl (by kernel_rfl) follows_Try (by kernel_rfl) (by simp [Try.ntmps83]) ?_
    intro hbox htok
    simp only at hbox htok
    apply AL.start
    have hkn := key_lt hbox hk
    repeat (first | refine AL.seq ?_ | refine AL.block ?_ | refine AL.skip ?_ | refine AL.blk ?_)
    refine AL.region follows_Try (Nat.le_refl _) (by kernel_rfl) ?_
    simp [lb_out hkn, hk]
    repeat (first | refine AL.seq ?_ | refine AL.block ?_ | refine AL.skip ?_ | refine AL.blk ?_)
    refine AL.cond ?_
    simp
    refine ⟨fun hbig => ?_, fun hsm => ?_⟩
    · repeat (first | refine AL.seq ?_ | refine AL.block ?_ | refine AL.skip ?_ | refine AL.blk ?_)
      refine AL.ret ?_
      try simp only [AU]
      refine ⟨by simp, (Fin.own (vs := []) (av := .tup []) (by simp [resAs, resA]) hbox rfl (Nat.le_refl _) (by simp [packA])).mono fun v m hq => ⟨hq.1, own, tok, nt, ?_, Adv.refl hlive htok⟩⟩
      have hbig' : 2000 < out.length := by omega
      rw [hq.2, ovE, if_pos hbig', ← hself]
    · have hsm' : ¬ 2000 < out.length := by omega
      have hes' : es.length = b.edges.length := by omega
      repeat (first | refine AL.seq ?_ | refine AL.block ?_ | refine AL.skip ?_ | refine AL.blk ?_)
      refine AL.region follows_Try (Nat.le_refl _) (by kernel_rfl) ?_
      simp [lb_out hkn, hk]
      repeat (first | refine AL.seq ?_ | refine AL.block ?_ | refine AL.skip ?_ | refine AL.blk ?_)
      refine AL.cond ?_
      simp
      refine ⟨fun _ => ?_, fun hne => absurd (by omega) hne⟩
      have hbe := h.fb.e
      have hbn := h.fb.n
      repeat (first | refine AL.seq ?_ | refine AL.block ?_ | refine AL.skip ?_ | refine AL.blk ?_)
      refine AL.region follows_Try (Nat.le_refl _) (by kernel_rfl) ?_
      simp [lb_out hkn, hk]
      refine Stop.of_d (glued_c a b nodes es h.fa h.va (by rw [h.n]; exact Nat.le_refl _) (by omega) (by rw [h.n]; omega) (by omega) (fun i _ h2 _ => h.x _ (List.getElem_mem h2)) _ _) ?_
      simp [lb_out hkn, hk, upd_lb_out hkn]
      refine ⟨⟨by omega, hlive⟩, ?_⟩
      repeat (first | refine AL.seq ?_ | refine AL.block ?_ | refine AL.skip ?_ | refine AL.blk ?_)
      refine AL.ret ?_
      try simp only [AU]
      refine ⟨by simp, (Fin.gen (vs := []) (av := .tup []) (tok' := upd (own.kill tok) nt true) (nt' := nt + 1) (by simp [resAs, resA]) ?_ (by omega) (Nat.le_refl _) (fun t h => ⟨h, .inl rfl⟩) ?_ (by simp [packA])).mono fun v m hq => ⟨hq.1, .tok nt, upd (own.kill tok) nt true, nt + 1, ?_, Adv.app hlive htok⟩⟩
      · rw [← upd_lb_out hkn, hbox]
      · intro k' rows hk' hr
        by_cases e : k' = k
        · subst e
          rw [upd_same] at hr
          cases hr
          exact .inr (by simp)
        · rw [upd_other _ _ e] at hr
          exact .inl hr
      · rw [hq.2, ovE, if_neg hsm']
        simp [ovRow]
  | succ n ih =>
    intro es out own box nb k tok nt hes hk hlive
    have hself : box = upd box k (some [ovRow a b out own]) := (upd_self box k _ hk).symm
    have hae := h.fa.e
    have hbe := h.fb.e
    have hbn := h.fb.n
    have hlt : es.length < b.edges.length := by omega
    obtain ⟨x1, x2, x3, x4⟩ := h.x b.edges[es.length] (List.getElem_mem hlt)
    have y1 : b.edges[es.length].fr.toNat < nodes.length := by omega
    have y2 : b.edges[es.length].to.toNat < nodes.length := by omega
    refine ACalls.of_body Try.func83 rfl (by kernel_rfl) follows_Try (by kernel_rfl) (by simp [Try.ntmps83]) ?_
    intro hbox htok
    simp only at hbox htok
    apply AL.start
    have hkn := key_lt hbox hk
    repeat (first | refine AL.seq ?_ | refine AL.block ?_ | refine AL.skip ?_ | refine AL.blk ?_)
    refine AL.region follows_Try (Nat.le_refl _) (by kernel_rfl) ?_
    simp [lb_out hkn, hk]
    repeat (first | refine AL.seq ?_ | refine AL.block ?_ | refine AL.skip ?_ | refine AL.blk ?_)
    refine AL.cond ?_
    simp
    refine ⟨fun hbig => ?_, fun hsm => ?_⟩
    · repeat (first | refine AL.seq ?_ | refine AL.block ?_ | refine AL.skip ?_ | refine AL.blk ?_)
      refine AL.ret ?_
      try simp only [AU]
      refine ⟨by simp, (Fin.own (vs := []) (av := .tup []) (by simp [resAs, resA]) hbox rfl (Nat.le_refl _) (by simp [packA])).mono fun v m hq => ⟨hq.1, own, tok, nt, ?_, Adv.refl hlive htok⟩⟩
      have hbig' : 2000 < out.length := by omega
      rw [hq.2, ovE, if_pos hbig', ← hself]
    · have hsm' : ¬ 2000 < out.length := by omega
      repeat (first | refine AL.seq ?_ | refine AL.block ?_ | refine AL.skip ?_ | refine AL.blk ?_)
      refine AL.region follows_Try (Nat.le_refl _) (by kernel_rfl) ?_
      simp [lb_out hkn, hk]
      repeat (first | refine AL.seq ?_ | refine AL.block ?_ | refine AL.skip ?_ | refine AL.blk ?_)
      refine AL.cond ?_
      simp
      refine ⟨fun heq => absurd heq (by omega), fun _ => ?_⟩
      repeat (first | refine AL.seq ?_ | refine AL.block ?_ | refine AL.skip ?_ | refine AL.blk ?_)
      refine AL.region follows_Try (Nat.le_refl _) (by kernel_rfl) ?_
      simp [lb_out hkn, hk, hlt]
      repeat (first | refine AL.seq ?_ | refine AL.block ?_ | refine AL.skip ?_ | refine AL.blk ?_)
      refine AL.region follows_Try (Nat.le_refl _) (by kernel_rfl) ?_
      simp [lb_out hkn, hk, x1, x2, x3, x4, y1, y2]
      repeat (first | refine AL.seq ?_ | refine AL.block ?_ | refine AL.skip ?_ | refine AL.blk ?_)
      refine AL.region follows_Try (Nat.le_refl _) (by kernel_rfl) ?_
      simp [lb_out hkn, hk]
      refine Stop.of_d (clone_c es (by omega) _ _) ?_
      simp
      refine ⟨⟨by omega, by simp [upd_same]⟩, ?_⟩
      refine Stop.data ?_
      simp only [List.map, AV.asD]
      rw [rI_snoc]
      have had := Adv.fresh hlive htok
      refine Stop.of_a (ih (es ++ [-1]) out own _ _ k _ _ (by simp; omega) (by simp only [lb_out hkn, hk]) had.live) ?_
      rintro v m' ⟨rfl, own1, tok1, nt1, rfl, hadv⟩
      simp [upd_lb_out hkn]
      have had1 : Adv tok nt own tok1 nt1 own1 := had.trans htok hadv
      clear hadv had
      repeat (first | refine AL.seq ?_ | refine AL.block ?_ | refine AL.skip ?_ | refine AL.blk ?_)
      refine AL.region follows_Try (Nat.le_refl _) (by kernel_rfl) ?_
      simp [lb_out hkn, upd_same]
      repeat (first | refine AL.seq ?_ | refine AL.block ?_ | refine AL.skip ?_ | refine AL.blk ?_)
      have hwant : wantE b nodes es = ⟨b.edges[es.length].ty, nodes[b.edges[es.length].fr.toNat], nodes[b.edges[es.length].to.toNat]⟩ := by simp [wantE, hlt, y1, y2]
      refine AL.loopT (st83 a b nodes es nb k box) (fun x => x.i ≤ a.edges.length ∧ x.out = (List.range x.i).foldl (ovStep a b nodes n es) (ovE a b nodes n (es ++ [-1]) out) ∧ Adv tok nt own x.tok x.nt x.own) (fun x => a.edges.length - x.i)
        ⟨0, ovE a b nodes n (es ++ [-1]) out, own1, tok1, nt1⟩ ⟨Nat.zero_le _, rfl, had1⟩ (Weaks.mk' had1.le (by simp [ToL, lk, hwant]; exact to_ptr (by rw [lb_out hkn, upd_same]; simp)) (by simp [BoxL, lk, hwant]) (outOk rfl)) ?_
      rintro ⟨i, out2, own2, tok2, nt2⟩ S ⟨hi, hout, hadv2⟩ hS
      simp only [st83] at hS hi hout hadv2
      subst hS
      have hw : IntKind.i64.wrap (↑i + 1) = ((i + 1 : Nat) : Int) := by rw [wrap_in (by omega) (by omega)]; rfl
      repeat (first | refine AL.seq ?_ | refine AL.block ?_ | refine AL.skip ?_ | refine AL.blk ?_)
      refine AL.region follows_Try (Nat.le_refl _) (by kernel_rfl) ?_
      simp
      repeat (first | refine AL.seq ?_ | refine AL.block ?_ | refine AL.skip ?_ | refine AL.blk ?_)
      refine AL.cond ?_
      simp
      refine ⟨fun hli => ?_, fun hge => ?_⟩
      · repeat (first | refine AL.seq ?_ | refine AL.block ?_ | refine AL.skip ?_ | refine AL.blk ?_)
        refine AL.region follows_Try (Nat.le_refl _) (by kernel_rfl) ?_
        simp [hli]
        repeat (first | refine AL.seq ?_ | refine AL.block ?_ | refine AL.skip ?_ | refine AL.blk ?_)
        refine AL.region follows_Try (Nat.le_refl _) (by kernel_rfl) ?_
        simp [lb_out hkn, upd_same]
        have hfold : (List.range (i + 1)).foldl (ovStep a b nodes n es) (ovE a b nodes n (es ++ [-1]) out) = ovStep a b nodes n es out2 i := by
          rw [List.range_succ, List.foldl_append, ← hout]; rfl
        have hgi : a.edges.getD i default = a.edges[i] := by simp [hli]
        simp only [E.eq_and]
        first | refine Gd.dt (fun hE => ?_) (fun hE => ?_) | refine Gd.df (fun hE => ?_) (fun hE => ?_) | refine Gd.t (fun hE => ?_) (fun hE => ?_) | refine Gd.f (fun hE => ?_) (fun hE => ?_)
        · simp [hE]
          refine Stop.of_d (contains_c es i (by omega) _ _) ?_
          simp [hE]
          repeat (first | refine AL.seq ?_ | refine AL.block ?_ | refine AL.skip ?_ | refine AL.blk ?_)
          refine AL.cond ?_
          simp
          refine ⟨fun hni => ?_, fun hin => ?_⟩
          · repeat (first | refine AL.seq ?_ | refine AL.block ?_ | refine AL.skip ?_ | refine AL.blk ?_)
            refine AL.region follows_Try (Nat.le_refl _) (by kernel_rfl) ?_
            simp [lb_out hkn, upd_same]
            refine Stop.of_d (clone_c es (by omega) _ _) ?_
            simp
            refine ⟨⟨by omega, by simp [upd_same]⟩, ?_⟩
            refine Stop.data ?_
            simp only [List.map, AV.asD]
            rw [rI_snoc]
            have had := Adv.fresh hadv2.live hadv2.lt
            refine Stop.of_a (ih (es ++ [(i : Int)]) out2 own2 _ _ k _ _ (by simp; omega) (by simp only [lb_out hkn, upd_same]) had.live) ?_
            rintro v m' ⟨rfl, own3, tok3, nt3, rfl, hadv⟩
            simp [upd_lb_out hkn, upd_upd]
            have had3 : Adv tok nt own tok3 nt3 own3 := hadv2.trans htok (had.trans hadv2.lt hadv)
            clear hadv had
            repeat (first | refine AL.seq ?_ | refine AL.block ?_ | refine AL.skip ?_ | refine AL.blk ?_)
            refine AL.region follows_Try (Nat.le_refl _) (by kernel_rfl) ?_
            simp [hw]
            repeat (first | refine AL.seq ?_ | refine AL.block ?_ | refine AL.skip ?_ | refine AL.blk ?_)
            refine AL.nil ?_
            refine ⟨⟨i + 1, ovE a b nodes n (es ++ [(i : Int)]) out2, own3, tok3, nt3⟩, ⟨hli, ?_, had3⟩, by simp; omega, Weaks.mk' had3.le (by simp [ToL, lk]; exact to_ptr (by rw [lb_out hkn, upd_same]; simp)) (by simp [BoxL, lk]) (outOk rfl)⟩
            rw [hfold, ovStep, if_pos ⟨by rw [hgi, hE], hni⟩]
          · repeat (first | refine AL.seq ?_ | refine AL.block ?_ | refine AL.skip ?_ | refine AL.blk ?_)
            refine AL.region follows_Try (Nat.le_refl _) (by kernel_rfl) ?_
            simp [hw]
            repeat (first | refine AL.seq ?_ | refine AL.block ?_ | refine AL.skip ?_ | refine AL.blk ?_)
            refine AL.nil ?_
            refine ⟨⟨i + 1, out2, own2, tok2, nt2⟩, ⟨hli, ?_, hadv2⟩, by simp; omega, Weaks.mk' hadv2.le (by simp [ToL, lk]; exact to_ptr (by rw [lb_out hkn, upd_same]; simp)) (by simp [BoxL, lk]) (outOk rfl)⟩
            rw [hfold, ovStep, if_neg (fun hh => hh.2 hin)]
        · simp [hE]
          repeat (first | refine AL.seq ?_ | refine AL.block ?_ | refine AL.skip ?_ | refine AL.blk ?_)
          refine AL.cond ?_
          simp
          repeat (first | refine AL.seq ?_ | refine AL.block ?_ | refine AL.skip ?_ | refine AL.blk ?_)
          refine AL.region follows_Try (Nat.le_refl _) (by kernel_rfl) ?_
          simp [hw]
          repeat (first | refine AL.seq ?_ | refine AL.block ?_ | refine AL.skip ?_ | refine AL.blk ?_)
          refine AL.nil ?_
          refine ⟨⟨i + 1, out2, own2, tok2, nt2⟩, ⟨hli, ?_, hadv2⟩, by simp; omega, Weaks.mk' hadv2.le (by simp [ToL, lk]; exact to_ptr (by rw [lb_out hkn, upd_same]; simp)) (by simp [BoxL, lk]) (outOk rfl)⟩
          rw [hfold, ovStep, if_neg (fun hh => hE (by rw [← hgi, hh.1]))]
      · repeat (first | refine AL.seq ?_ | refine AL.block ?_ | refine AL.skip ?_ | refine AL.blk ?_)
        refine AL.exit ?_
        simp only [AU, ↓reduceIte]
        have hin : i = a.edges.length := by omega
        subst hin
        repeat (first | refine AL.seq ?_ | refine AL.block ?_ | refine AL.skip ?_ | refine AL.blk ?_)
        refine AL.nil ?_
        refine ⟨by simp, (Fin.gen (vs := []) (av := .tup []) (tok' := tok2) (nt' := nt2) (by simp [resAs, resA]) ?_ hadv2.le (Nat.le_refl _) (fun t h => ⟨h, .inl rfl⟩) (outOk (by simp)) (by simp [packA])).mono fun v m hq => ⟨hq.1, own2, tok2, nt2, ?_, hadv2⟩⟩
        · rw [← upd_lb_out hkn, hbox]
        · rw [hq.2, ovE, if_neg hsm', hout]; rfl
end Go.AM
