/-
 Parts of the proof, as merged from many texts: a machine over data, what the functions compute, plain laws.
-/
import Derived.Test.YtebmobphgaiaiaaGreatPCW10
import Derived.WalkKit
import Derived.ProofKit
import Derived.OpenShut
import Derived.ChangeStays
import Derived.SizedLaws
set_option linter.unusedSimpArgs false
set_option linter.unusedVariables false
namespace Go.AM
open Go Go.Proofs
structure AccS where
 i : Nat
 out : List Ov
 own : Nat
 tok : Nat → Bool
 nt : Nat
abbrev ovRowS (a b : Gr) (out : List Ov) (own : Nat) : List AV := [.d (ints a.nodes), .d (AM.edges a.edges), .d (ints b.nodes), .d (AM.edges b.edges), .stk own 6 (out.map Ov.cells)]
def QOvS (a b : Gr) (box : Bxs) (nb k : Nat) (tok : Tks) (nt : Nat) (own : Nat) (out : List Ov) (v : AV) (m : AMem) : Prop :=
 v = .tup [] ∧ ∃ own' tok' nt', m = ⟨upd box k (some [ovRowS a b out own']), nb, tok', nt'⟩ ∧ Adv tok nt (.tok own) tok' nt' (.tok own')
def st83S (a b : Gr) (nodes es : List Int) (nb k : Nat) (box : Bxs) (x : AccS) : AState :=
 ⟨tl [(0, .ptr k 0 0), (1, .d (ints nodes)), (2, .d (ints es)), (7, .ptr (nb + 7) 0 0), (78, .d (AM.edges a.edges)), (79, I a.edges.length), (80, I x.i)],
  lb nb (upd box k (some [ovRowS a b x.out x.own])) [(7, [[I (wantE b nodes es).ty, I (wantE b nodes es).fr, I (wantE b nodes es).to]])], x.tok, x.nt⟩
theorem outOkS {a b : Gr} {out : List Ov} {own : Nat} {box : Bxs} {k base : Nat} {p q : Nat → Prop} (hq : q = fun _ => True) : ∀ k' rows, k' < base → (upd box k (some [ovRowS a b out own])) k' = some rows → box k' = some rows ∨ ∀ r ∈ rows, ∀ x ∈ r, OkIn p q x := by
 subst hq
 intro k' rows hk' hr
 by_cases e : k' = k
 ·subst e
  rw [upd_same] at hr
  cases hr
  exact .inr (by simp)
 ·rw [upd_other _ _ e] at hr
  exact .inl hr
theorem edgesS_c (a b : Gr) (nodes : List Int) (h : OvH a b nodes) : ∀ (n : Nat) (es : List Int) (out : List Ov) (own : Nat) (box : Bxs) (nb k : Nat) (tok : Tks) (nt : Nat), es.length + n = b.edges.length →
  box k = some [ovRowS a b out own] → tok own = true → ACalls Tryz.prog 175 [.ptr k 0 0, .d (ints nodes), .d (ints es)] ⟨box, nb, tok, nt⟩ (QOvS a b box nb k tok nt own (ovE a b nodes n es out)) := by
 intro n
 induction n with
 | zero =>
  intro es out own box nb k tok nt hes hk hlive
  have hself : box = upd box k (some [ovRowS a b out own]) := (upd_self box k _ hk).symm
  refine sB Tryz.func175 Tryz.ntmps175 ?_
  intro hbox htok
  simp only at hbox htok
  apply AL.start
  have hkn := key_lt hbox hk
  refine sR ?_
  simp [lb_out hkn, hk]
  refine sC ?_
  simp
  refine ⟨fun hbig => ?_, fun hsm => ?_⟩
  ·refine sN ?_
   refine AL.ret ?_
   try simp only [AU]
   refine ⟨by simp, (Fin.own (vs := []) (av := .tup []) (by simp [resAs, resA]) hbox rfl (Nat.le_refl _) (by simp [packA])).mono fun v m hq => ⟨hq.1, own, tok, nt, ?_, Adv.refl hlive htok⟩⟩
   have hbig' : 2000 < out.length := by omega
   rw [hq.2, ovE, if_pos hbig', ← hself]
  ·have hsm' : ¬ 2000 < out.length := by omega
   have hes' : es.length = b.edges.length := by omega
   refine sR ?_
   simp [lb_out hkn, hk]
   refine sC ?_
   simp
   refine ⟨fun _ => ?_, fun hne => absurd (by omega) hne⟩
   have hbe := h.fb.e
   have hbn := h.fb.n
   refine sR ?_
   simp [lb_out hkn, hk]
   refine Stop.of_d (glued_c a b nodes es h.fa h.va (by rw [h.n]; exact Nat.le_refl _) (by omega) (by rw [h.n]; omega) (by omega) (fun i _ h2 _ => h.x _ (List.getElem_mem h2)) _ _) ?_
   simp [lb_out hkn, hk, upd_lb_out hkn]
   refine ⟨⟨by omega, hlive⟩, ?_⟩
   refine sN ?_
   refine AL.ret ?_
   try simp only [AU]
   refine ⟨by simp, (Fin.gen (vs := []) (av := .tup []) (tok' := upd (upd tok own false) nt true) (nt' := nt + 1) (by simp [resAs, resA]) ?_ (by omega) (Nat.le_refl _) (fun t h => ⟨h, .inl rfl⟩) ?_ (by simp [packA])).mono fun v m hq => ⟨hq.1, nt, upd (upd tok own false) nt true, nt + 1, ?_, Adv.app hlive htok⟩⟩
   ·rw [← upd_lb_out hkn, hbox]
   ·intro k' rows hk' hr
    by_cases e : k' = k
    ·subst e
     rw [upd_same] at hr
     cases hr
     exact .inr (by simp)
    ·rw [upd_other _ _ e] at hr
     exact .inl hr
   ·rw [hq.2, ovE, if_neg hsm']
    simp [ovRowS]
 | succ n ih =>
  intro es out own box nb k tok nt hes hk hlive
  have hself : box = upd box k (some [ovRowS a b out own]) := (upd_self box k _ hk).symm
  have hae := h.fa.e
  have hbe := h.fb.e
  have hbn := h.fb.n
  have hlt : es.length < b.edges.length := by omega
  obtain ⟨x1, x2, x3, x4⟩ := h.x b.edges[es.length] (List.getElem_mem hlt)
  have y1 : b.edges[es.length].fr.toNat < nodes.length := by omega
  have y2 : b.edges[es.length].to.toNat < nodes.length := by omega
  refine sB Tryz.func175 Tryz.ntmps175 ?_
  intro hbox htok
  simp only at hbox htok
  apply AL.start
  have hkn := key_lt hbox hk
  refine sR ?_
  simp [lb_out hkn, hk]
  refine sC ?_
  simp
  refine ⟨fun hbig => ?_, fun hsm => ?_⟩
  ·refine sN ?_
   refine AL.ret ?_
   try simp only [AU]
   refine ⟨by simp, (Fin.own (vs := []) (av := .tup []) (by simp [resAs, resA]) hbox rfl (Nat.le_refl _) (by simp [packA])).mono fun v m hq => ⟨hq.1, own, tok, nt, ?_, Adv.refl hlive htok⟩⟩
   have hbig' : 2000 < out.length := by omega
   rw [hq.2, ovE, if_pos hbig', ← hself]
  ·have hsm' : ¬ 2000 < out.length := by omega
   refine sR ?_
   simp [lb_out hkn, hk]
   refine sC ?_
   simp
   refine ⟨fun heq => absurd heq (by omega), fun _ => ?_⟩
   refine sR ?_
   simp [lb_out hkn, hk, hlt]
   refine sR ?_
   simp [lb_out hkn, hk, x1, x2, x3, x4, y1, y2]
   refine sR ?_
   simp [lb_out hkn, hk]
   refine Stop.of_d (clone_c es (by omega) _ _) ?_
   simp
   refine ⟨⟨by omega, by simp [upd_same]⟩, ?_⟩
   refine Stop.data ?_
   simp only [List.map, AV.asD]
   rw [rI_snoc]
   have had := Adv.fresh (own := .tok own) hlive htok
   refine Stop.of_a (ih (es ++ [-1]) out own _ _ k _ _ (by simp; omega) (by simp only [lb_out hkn, hk]) had.live) ?_
   rintro v m' ⟨rfl, own1, tok1, nt1, rfl, hadv⟩
   simp [upd_lb_out hkn]
   have had1 : Adv tok nt (.tok own) tok1 nt1 (.tok own1) := had.trans htok hadv
   clear hadv had
   refine sR ?_
   simp [lb_out hkn, upd_same]
   refine sN ?_
   have hwant : wantE b nodes es = ⟨b.edges[es.length].ty, nodes[b.edges[es.length].fr.toNat], nodes[b.edges[es.length].to.toNat]⟩ := by simp [wantE, hlt, y1, y2]
   refine AL.loopT (st83S a b nodes es nb k box) (fun x => x.i ≤ a.edges.length ∧ x.out = (List.range x.i).foldl (ovStep a b nodes n es) (ovE a b nodes n (es ++ [-1]) out) ∧ Adv tok nt (.tok own) x.tok x.nt (.tok x.own)) (fun x => a.edges.length - x.i)
    ⟨0, ovE a b nodes n (es ++ [-1]) out, own1, tok1, nt1⟩ ⟨Nat.zero_le _, rfl, had1⟩ (Weaks.mk' had1.le (by simp [ToL, lk, hwant]; exact to_ptr (by rw [lb_out hkn, upd_same]; simp)) (by simp [BoxL, lk, hwant]) (outOkS rfl)) ?_
   rintro ⟨i, out2, own2, tok2, nt2⟩ S ⟨hi, hout, hadv2⟩ hS
   simp only [st83S] at hS hi hout hadv2
   subst hS
   have hw := sW (i := i) (by omega)
   refine sR ?_
   simp
   refine sC ?_
   simp
   refine ⟨fun hli => ?_, fun hge => ?_⟩
   ·refine sR ?_
    simp [hli]
    refine sR ?_
    simp [lb_out hkn, upd_same]
    have hfold : (List.range (i + 1)).foldl (ovStep a b nodes n es) (ovE a b nodes n (es ++ [-1]) out) = ovStep a b nodes n es out2 i := by
     rw [List.range_succ, List.foldl_append, ← hout]; rfl
    have hgi : a.edges.getD i default = a.edges[i] := by simp [hli]
    simp only [E.eq_and]
    first | refine Gd.dt (fun hE => ?_) (fun hE => ?_) | refine Gd.df (fun hE => ?_) (fun hE => ?_) | refine Gd.t (fun hE => ?_) (fun hE => ?_) | refine Gd.f (fun hE => ?_) (fun hE => ?_)
    ·simp [hE]
     refine Stop.of_d (contains_c es i (by omega) _ _) ?_
     simp [hE]
     refine sC ?_
     simp
     refine ⟨fun hni => ?_, fun hin => ?_⟩
     ·refine sR ?_
      simp [lb_out hkn, upd_same]
      refine Stop.of_d (clone_c es (by omega) _ _) ?_
      simp
      refine ⟨⟨by omega, by simp [upd_same]⟩, ?_⟩
      refine Stop.data ?_
      simp only [List.map, AV.asD]
      rw [rI_snoc]
      have had := Adv.fresh hadv2.live hadv2.lt
      refine Stop.of_a (ih (es ++ [(i : Int)]) out2 own2 _ _ k _ _ (by simp; omega) (by simp only [lb_out hkn, upd_same]) had.live) ?_
      rintro v m' ⟨rfl, own3, tok3, nt3, rfl, hadv⟩
      simp [upd_lb_out hkn, upd_upd]
      have had3 : Adv tok nt (.tok own) tok3 nt3 (.tok own3) := hadv2.trans htok (had.trans hadv2.lt hadv)
      clear hadv had
      refine sR ?_
      simp [hw]
      refine sE ?_
      refine ⟨⟨i + 1, ovE a b nodes n (es ++ [(i : Int)]) out2, own3, tok3, nt3⟩, ⟨hli, ?_, had3⟩, by simp; omega, Weaks.mk' had3.le (by simp [ToL, lk]; exact to_ptr (by rw [lb_out hkn, upd_same]; simp)) (by simp [BoxL, lk]) (outOkS rfl)⟩
      rw [hfold, ovStep, if_pos ⟨by rw [hgi, hE], hni⟩]
     ·refine sR ?_
      simp [hw]
      refine sE ?_
      refine ⟨⟨i + 1, out2, own2, tok2, nt2⟩, ⟨hli, ?_, hadv2⟩, by simp; omega, Weaks.mk' hadv2.le (by simp [ToL, lk]; exact to_ptr (by rw [lb_out hkn, upd_same]; simp)) (by simp [BoxL, lk]) (outOkS rfl)⟩
      rw [hfold, ovStep, if_neg (fun hh => hh.2 hin)]
    ·simp [hE]
     refine sC ?_
     simp
     refine sR ?_
     simp [hw]
     refine sE ?_
     refine ⟨⟨i + 1, out2, own2, tok2, nt2⟩, ⟨hli, ?_, hadv2⟩, by simp; omega, Weaks.mk' hadv2.le (by simp [ToL, lk]; exact to_ptr (by rw [lb_out hkn, upd_same]; simp)) (by simp [BoxL, lk]) (outOkS rfl)⟩
     rw [hfold, ovStep, if_neg (fun hh => hE (by rw [← hgi, hh.1]))]
   ·refine sX ?_
    simp only [AU, ↓reduceIte]
    have hin : i = a.edges.length := by omega
    subst hin
    refine sE ?_
    refine ⟨by simp, (Fin.gen (vs := []) (av := .tup []) (tok' := tok2) (nt' := nt2) (by simp [resAs, resA]) ?_ hadv2.le (Nat.le_refl _) (fun t h => ⟨h, .inl rfl⟩) (outOkS (by simp)) (by simp [packA])).mono fun v m hq => ⟨hq.1, own2, tok2, nt2, ?_, hadv2⟩⟩
    ·rw [← upd_lb_out hkn, hbox]
    ·rw [hq.2, ovE, if_neg hsm', hout]; rfl
def st43S (a b : Gr) (l : List Int) (nb k : Nat) (box : Bxs) (x : AccS) : AState :=
 ⟨tl [(0, .ptr k 0 0), (1, .d (ints l)), (34, .d (ints a.nodes)), (35, I a.nodes.length), (36, I x.i)],
  lb nb (upd box k (some [ovRowS a b x.out x.own])) [], x.tok, x.nt⟩
theorem nodesS_c (a b : Gr) (h : NoH a b) : ∀ (n : Nat) (l : List Int) (out : List Ov) (own : Nat) (box : Bxs) (nb k : Nat) (tok : Tks) (nt : Nat), l.length + n = b.nodes.length →
  box k = some [ovRowS a b out own] → tok own = true → ACalls Tryz.prog 92 [.ptr k 0 0, .d (ints l)] ⟨box, nb, tok, nt⟩ (QOvS a b box nb k tok nt own (ovN a b n l out)) := by
 intro n
 induction n with
 | zero =>
  intro l out own box nb k tok nt hl hk hlive
  have hself : box = upd box k (some [ovRowS a b out own]) := (upd_self box k _ hk).symm
  refine sB Tryz.func92 Tryz.ntmps92 ?_
  intro hbox htok
  simp only at hbox htok
  apply AL.start
  have hkn := key_lt hbox hk
  refine sR ?_
  simp [lb_out hkn, hk]
  refine sC ?_
  simp
  refine ⟨fun hbig => ?_, fun hsm => ?_⟩
  ·refine sN ?_
   refine AL.ret ?_
   try simp only [AU]
   refine ⟨by simp, (Fin.own (vs := []) (av := .tup []) (by simp [resAs, resA]) hbox rfl (Nat.le_refl _) (by simp [packA])).mono fun v m hq => ⟨hq.1, own, tok, nt, ?_, Adv.refl hlive htok⟩⟩
   have hbig' : 2000 < out.length := by omega
   rw [hq.2, ovN, if_pos hbig', ← hself]
  ·have hsm' : ¬ 2000 < out.length := by omega
   have hl' : l.length = b.nodes.length := by omega
   refine sR ?_
   simp [lb_out hkn, hk]
   refine sC ?_
   simp
   refine ⟨fun _ => ?_, fun hne => absurd (by omega) hne⟩
   have hbe := h.fb.e
   have hbn := h.fb.n
   refine sR ?_
   simp [lb_out hkn, hk]
   refine Stop.sub (args' := [.ptr k 0 0, .d (ints l), .d (ints [])]) ⟨Sub.refl _, Sub.refl _, Sub.nil _ _ _, trivial⟩ ?_
   refine Stop.of_a (edgesS_c a b l ⟨h.fa, h.va, h.fb, hl', by rw [hl']; exact h.x⟩ b.edges.length [] out own _ _ k _ _ (by simp) (by simp only [lb_out hkn, hk]) hlive) ?_
   rintro v m' ⟨rfl, own1, tok1, nt1, rfl, hadv⟩
   simp [upd_lb_out hkn]
   refine sN ?_
   refine AL.ret ?_
   try simp only [AU]
   refine ⟨by simp, (Fin.gen (vs := []) (av := .tup []) (tok' := tok1) (nt' := nt1) (by simp [resAs, resA]) ?_ hadv.le (Nat.le_refl _) (fun t h => ⟨h, .inl rfl⟩) (outOkS (by simp)) (by simp [packA])).mono fun v m hq => ⟨hq.1, own1, tok1, nt1, ?_, hadv⟩⟩
   ·rw [← upd_lb_out hkn, hbox]
   ·rw [hq.2, ovN, if_neg hsm']
 | succ n ih =>
  intro l out own box nb k tok nt hl hk hlive
  have hself : box = upd box k (some [ovRowS a b out own]) := (upd_self box k _ hk).symm
  have han := h.fa.n
  have hbn := h.fb.n
  have hlt : l.length < b.nodes.length := by omega
  refine sB Tryz.func92 Tryz.ntmps92 ?_
  intro hbox htok
  simp only at hbox htok
  apply AL.start
  have hkn := key_lt hbox hk
  refine sR ?_
  simp [lb_out hkn, hk]
  refine sC ?_
  simp
  refine ⟨fun hbig => ?_, fun hsm => ?_⟩
  ·refine sN ?_
   refine AL.ret ?_
   try simp only [AU]
   refine ⟨by simp, (Fin.own (vs := []) (av := .tup []) (by simp [resAs, resA]) hbox rfl (Nat.le_refl _) (by simp [packA])).mono fun v m hq => ⟨hq.1, own, tok, nt, ?_, Adv.refl hlive htok⟩⟩
   have hbig' : 2000 < out.length := by omega
   rw [hq.2, ovN, if_pos hbig', ← hself]
  ·have hsm' : ¬ 2000 < out.length := by omega
   refine sR ?_
   simp [lb_out hkn, hk]
   refine sC ?_
   simp
   refine ⟨fun heq => absurd heq (by omega), fun _ => ?_⟩
   refine sR ?_
   simp [lb_out hkn, hk]
   refine Stop.of_d (clone_c l (by omega) _ _) ?_
   simp
   refine ⟨⟨by omega, by simp [upd_same]⟩, ?_⟩
   refine Stop.data ?_
   simp only [List.map, AV.asD]
   rw [rI_snoc]
   have had := Adv.fresh (own := .tok own) hlive htok
   refine Stop.of_a (ih (l ++ [-1]) out own _ _ k _ _ (by simp; omega) (by simp only [lb_out hkn, hk]) had.live) ?_
   rintro v m' ⟨rfl, own1, tok1, nt1, rfl, hadv⟩
   simp [upd_lb_out hkn]
   have had1 : Adv tok nt (.tok own) tok1 nt1 (.tok own1) := had.trans htok hadv
   clear hadv had
   refine sR ?_
   simp [lb_out hkn, upd_same]
   refine sN ?_
   refine AL.loopT (st43S a b l nb k box) (fun x => x.i ≤ a.nodes.length ∧ x.out = (List.range x.i).foldl (ovStepN a b (ovN a b n) l) (ovN a b n (l ++ [-1]) out) ∧ Adv tok nt (.tok own) x.tok x.nt (.tok x.own)) (fun x => a.nodes.length - x.i)
    ⟨0, ovN a b n (l ++ [-1]) out, own1, tok1, nt1⟩ ⟨Nat.zero_le _, rfl, had1⟩ (Weaks.mk' had1.le (by simp [ToL, lk]; exact to_ptr (by rw [lb_out hkn, upd_same]; simp)) (by simp [BoxL, lk]) (outOkS rfl)) ?_
   rintro ⟨i, out2, own2, tok2, nt2⟩ S ⟨hi, hout, hadv2⟩ hS
   simp only [st43S] at hS hi hout hadv2
   subst hS
   have hw := sW (i := i) (by omega)
   refine sR ?_
   simp
   refine sC ?_
   simp
   refine ⟨fun hli => ?_, fun hge => ?_⟩
   ·refine sR ?_
    simp [hli]
    refine sR ?_
    simp [lb_out hkn, upd_same, hlt]
    have hfold : (List.range (i + 1)).foldl (ovStepN a b (ovN a b n) l) (ovN a b n (l ++ [-1]) out) = ovStepN a b (ovN a b n) l out2 i := by
     rw [List.range_succ, List.foldl_append, ← hout]; rfl
    have hgi : a.nodes.getD i 0 = a.nodes[i] := by simp [hli]
    have hgl : b.nodes.getD l.length 0 = b.nodes[l.length] := by simp [hlt]
    simp only [beqD]
    first | refine Gd.dt (fun hE => ?_) (fun hE => ?_) | refine Gd.df (fun hE => ?_) (fun hE => ?_) | refine Gd.t (fun hE => ?_) (fun hE => ?_) | refine Gd.f (fun hE => ?_) (fun hE => ?_)
    ·simp [hE]
     refine Stop.of_d (contains_c l i (by omega) _ _) ?_
     simp [hE]
     refine sC ?_
     simp
     refine ⟨fun hni => ?_, fun hin => ?_⟩
     ·refine sR ?_
      simp [lb_out hkn, upd_same]
      refine Stop.of_d (clone_c l (by omega) _ _) ?_
      simp
      refine ⟨⟨by omega, by simp [upd_same]⟩, ?_⟩
      refine Stop.data ?_
      simp only [List.map, AV.asD]
      rw [rI_snoc]
      have had := Adv.fresh hadv2.live hadv2.lt
      refine Stop.of_a (ih (l ++ [(i : Int)]) out2 own2 _ _ k _ _ (by simp; omega) (by simp only [lb_out hkn, upd_same]) had.live) ?_
      rintro v m' ⟨rfl, own3, tok3, nt3, rfl, hadv⟩
      simp [upd_lb_out hkn, upd_upd]
      have had3 : Adv tok nt (.tok own) tok3 nt3 (.tok own3) := hadv2.trans htok (had.trans hadv2.lt hadv)
      clear hadv had
      refine sR ?_
      simp [hw]
      refine sE ?_
      refine ⟨⟨i + 1, ovN a b n (l ++ [(i : Int)]) out2, own3, tok3, nt3⟩, ⟨hli, ?_, had3⟩, by simp; omega, Weaks.mk' had3.le (by simp [ToL, lk]; exact to_ptr (by rw [lb_out hkn, upd_same]; simp)) (by simp [BoxL, lk]) (outOkS rfl)⟩
      rw [hfold, ovStepN, if_pos ⟨by rw [hgi, hgl, hE], hni⟩]
     ·refine sR ?_
      simp [hw]
      refine sE ?_
      refine ⟨⟨i + 1, out2, own2, tok2, nt2⟩, ⟨hli, ?_, hadv2⟩, by simp; omega, Weaks.mk' hadv2.le (by simp [ToL, lk]; exact to_ptr (by rw [lb_out hkn, upd_same]; simp)) (by simp [BoxL, lk]) (outOkS rfl)⟩
      rw [hfold, ovStepN, if_neg (fun hh => hh.2 hin)]
    ·simp [hE]
     refine sC ?_
     simp
     refine sR ?_
     simp [hw]
     refine sE ?_
     refine ⟨⟨i + 1, out2, own2, tok2, nt2⟩, ⟨hli, ?_, hadv2⟩, by simp; omega, Weaks.mk' hadv2.le (by simp [ToL, lk]; exact to_ptr (by rw [lb_out hkn, upd_same]; simp)) (by simp [BoxL, lk]) (outOkS rfl)⟩
     rw [hfold, ovStepN, if_neg (fun hh => hE (by rw [← hgi, hh.1, hgl]))]
   ·refine sX ?_
    simp only [AU, ↓reduceIte]
    have hin : i = a.nodes.length := by omega
    subst hin
    refine sE ?_
    refine ⟨by simp, (Fin.gen (vs := []) (av := .tup []) (tok' := tok2) (nt' := nt2) (by simp [resAs, resA]) ?_ hadv2.le (Nat.le_refl _) (fun t h => ⟨h, .inl rfl⟩) (outOkS (by simp)) (by simp [packA])).mono fun v m hq => ⟨hq.1, own2, tok2, nt2, ?_, hadv2⟩⟩
    ·rw [← upd_lb_out hkn, hbox]
    ·rw [hq.2, ovN, if_neg hsm', hout]
end Go.AM
namespace Go.AM
open Go Go.Proofs
def QOl (a b : Gr) (box : Bxs) (nb : Nat) (tok : Tks) (nt : Nat) (v : AV) (m : AMem) : Prop :=
 ((overlapsR a b).2 ≠ 0 ∧ v = .tup [.osl 0 [] .full, I (overlapsR a b).2] ∧ m = ⟨box, nb, tok, nt⟩) ∨
 ((overlapsR a b).2 = 0 ∧ ∃ t tok' nt', v = .tup [.stk t 6 ((overlapsR a b).1.map Ov.cells), I 0] ∧ m = ⟨box, nb, tok', nt'⟩ ∧ (∀ s, tok s = true → tok' s = true ∧ s ≠ t) ∧ nt ≤ nt' ∧ tok' t = true ∧ ∀ s, tok' s = true → s < nt')
theorem overlapsS_c (a b : Gr) (ha : a.Fit) (hb : b.Fit) (box : Bxs) (nb : Nat) (tok : Tks) (nt : Nat) : ACalls Tryz.prog 41 [a.av, b.av] ⟨box, nb, tok, nt⟩ (QOl a b box nb tok nt) := by
 have han := ha.n
 have hae := ha.e
 have hbn := hb.n
 have hbe := hb.e
 refine sB Tryz.func41 Tryz.ntmps41 ?_
 intro hbox htok
 simp only at hbox htok
 apply AL.start
 refine sR ?_
 simp
 refine sR ?_
 simp
 refine ⟨rfl, ?_⟩
 refine sN ?_
 refine AL.loopT (st13 a b nb box tok nt) (inv13 a b) mu13 0 ⟨by omega, by omega, by omega⟩ (Weaks.mk (Nat.le_refl _) rfl (by simp [ToL, lk]) (by simp [BoxL, lk])) ?_
 rintro i S ⟨hi, h0, h1⟩ hS
 simp only [st13] at hS
 subst hS
 refine sR ?_
 simp
 refine sC ?_
 simp
 have h012 : i = 0 ∨ i = 1 ∨ i = 2 := by omega
 rcases h012 with rfl | rfl | rfl
 ·simp
  refine sR ?_
  simp
  refine sR ?_
  simp
  refine Stop.of_d (graphValid_c a ha _ _) ?_
  simp
  by_cases hv : validG a = 0
  ·refine sR ?_
   simp [hv]
   refine sC ?_
   simp
   refine sR ?_
   simp [show IntKind.i64.wrap 1 = 1 from rfl]
   refine sE ?_
   refine ⟨1, ⟨by omega, fun _ => hv, by omega⟩, by decide, Weaks.mk (Nat.le_refl _) rfl (by simp [ToL, lk]) (by simp [BoxL, lk])⟩
  ·refine sR ?_
   simp
   refine sC ?_
   simp [hv]
   refine sR ?_
   simp
   have hR : overlapsR a b = ([], validG a) := by simp [overlapsR, hv]
   refine sN ?_
   refine AL.ret ?_
   try simp only [AU]
   refine ⟨by simp, (Fin.data (av := .tup [.osl 0 [] .full, I (validG a)]) (by simp [resAs, resA]; rfl) hbox rfl htok (fun _ h => h) (Nat.le_refl _) (by simp [packA])).mono fun v m hq => .inl ⟨by rw [hR]; first | assumption | decide, by rw [hR, hq.1], hq.2⟩⟩
 ·simp
  have h0 : validG a = 0 := h0 (by omega)
  refine sR ?_
  simp
  refine sR ?_
  simp
  refine Stop.of_d (graphValid_c b hb _ _) ?_
  simp
  by_cases hv : validG b = 0
  ·refine sR ?_
   simp [hv]
   refine sC ?_
   simp
   refine sR ?_
   simp [show IntKind.i64.wrap 2 = 2 from rfl]
   refine sE ?_
   refine ⟨2, ⟨by omega, fun _ => h0, fun _ => hv⟩, by decide, Weaks.mk (Nat.le_refl _) rfl (by simp [ToL, lk]) (by simp [BoxL, lk])⟩
  ·refine sR ?_
   simp
   refine sC ?_
   simp [hv]
   refine sR ?_
   simp
   have hR : overlapsR a b = ([], validG b) := by simp [overlapsR, hv, h0]
   refine sN ?_
   refine AL.ret ?_
   try simp only [AU]
   refine ⟨by simp, (Fin.data (av := .tup [.osl 0 [] .full, I (validG b)]) (by simp [resAs, resA]; rfl) hbox rfl htok (fun _ h => h) (Nat.le_refl _) (by simp [packA])).mono fun v m hq => .inl ⟨by rw [hR]; first | assumption | decide, by rw [hR, hq.1], hq.2⟩⟩
 ·simp
  refine sX ?_
  simp only [AU, ↓reduceIte]
  have hva : validG a = 0 := h0 (by omega)
  have hvb : validG b = 0 := h1 (by omega)
  have hw1 : IntKind.i64.wrap (↑a.nodes.length + ↑b.nodes.length) = (a.nodes.length : Int) + b.nodes.length := wrap_in (by omega) (by omega)
  have hw2 : IntKind.i64.wrap (↑a.edges.length + ↑b.edges.length) = (a.edges.length : Int) + b.edges.length := wrap_in (by omega) (by omega)
  have big : (40 < a.nodes.length + b.nodes.length ∨ 80 < a.edges.length + b.edges.length) → ∀ {l loc}, Fin Tryz.prog ⟨nb, nb + 58, 58, box⟩ nt [ResultVar.tmp 4, ResultVar.tmp 5] (QOl a b box nb tok nt)
    ⟨tl ((5, I 3) :: (4, .osl 0 [] .full) :: l), lb nb box loc, tok, nt⟩ := fun hbig {l loc} => by
   have hR : overlapsR a b = ([], 3) := by simp [overlapsR, hva, hvb, hbig]
   exact (Fin.data (av := .tup [.osl 0 [] .full, I 3]) (by simp [resAs, resA]; rfl) hbox rfl htok (fun _ h => h) (Nat.le_refl _) (by simp [packA])).mono fun v m hq => .inl ⟨by rw [hR]; first | assumption | decide, by rw [hR, hq.1], hq.2⟩
  refine sR ?_
  simp [hw1, hw2]
  first | refine Gd.dt (fun hs1 => ?_) (fun hs1 => ?_) | refine Gd.df (fun hs1 => ?_) (fun hs1 => ?_) | refine Gd.t (fun hs1 => ?_) (fun hs1 => ?_) | refine Gd.f (fun hs1 => ?_) (fun hs1 => ?_)
  ·simp [hs1, hw1, hw2]
   refine sC ?_
   simp
   refine sR ?_
   simp
   refine sN ?_
   refine AL.ret ?_
   try simp only [AU]
   exact ⟨by simp, big (by omega)⟩
  ·simp [hs1, hw1, hw2]
   refine sC ?_
   simp
   refine ⟨fun hs2 => ?_, fun hs2 => ?_⟩
   ·refine sR ?_
    simp
    refine sN ?_
    refine AL.ret ?_
    try simp only [AU]
    exact ⟨by simp, big (by omega)⟩
   ·have hsm : ¬ (40 < a.nodes.length + b.nodes.length ∨ 80 < a.edges.length + b.edges.length) := by omega
    refine sR ?_
    simp
    refine AL.weak (Weaks.mk (l' := [(9, .ptr (nb + 45) 0 0)]) (loc' := [(45, [ovRow a b [] .full])]) (Nat.le_refl _) rfl (by simp [ToL, lk]) (by simp [BoxL, lk])) ?_
    refine AL.trans (Trans.opn (l' := [(9, .ptr (nb + 45) 0 0)]) (loc' := [(45, [ovRowS a b [] nt])]) 6 (by simp [CvL]) ⟨rfl, cvRs_one (cvR_cons .same (cvR_cons .same (cvR_cons .same (cvR_cons .same (cvR_cons .nil cvR_nil))))), trivial⟩) ?_
    refine sR ?_
    simp
    refine Stop.sub (args' := [.ptr (nb + 45) 0 0, .d (ints [])]) ⟨Sub.refl _, Sub.nil _ _ _, trivial⟩ ?_
    refine Stop.of_a (nodesS_c a b ⟨ha, hva, hb, validG_edges hvb⟩ b.nodes.length [] [] nt _ _ (nb + 45) _ _ (by simp) (by simp) (upd_same _ _ _)) ?_
    rintro v m' ⟨rfl, own1, tok1, nt1, rfl, hadv⟩
    have hadv : Adv (upd tok nt true) (nt + 1) (.tok nt) tok1 nt1 (.tok own1) := hadv
    simp
    refine sR ?_
    simp
    refine sC ?_
    simp
    have hkeep : ∀ t, tok t = true → tok1 t = true := fun t ht => by
     have h1 := htok t ht
     exact hadv.keep t (by rw [upd_other _ _ (by omega)]; exact ht) (by intro e; cases e; omega)
    have hne : ∀ t, tok t = true → t ≠ own1 := fun t ht e => by
     have h1 := htok t ht
     rcases hadv.new with e2 | ⟨s, e2, hs⟩
     ·cases e2; omega
     ·cases e2; omega
    have hle := hadv.le
    have hlv : tok1 own1 = true := hadv.live
    have hlt := hadv.lt
    refine ⟨fun hmany => ?_, fun hfew => ?_⟩
    ·have hR : overlapsR a b = ([], 3) := by
      have : 2000 < (ovN a b b.nodes.length [] []).length := by omega
      simp [overlapsR, hva, hvb, hsm, this]
     refine sR ?_
     simp
     refine sN ?_
     refine AL.ret ?_
     try simp only [AU]
     exact ⟨by simp, (Fin.data (av := .tup [.osl 0 [] .full, I 3]) (by simp [resAs, resA]; rfl) hbox rfl htok hkeep (by omega) (by simp [packA])).mono fun v m hq => .inl ⟨by rw [hR]; first | assumption | decide, by rw [hR, hq.1], hq.2⟩⟩
    ·have hR : overlapsR a b = (ovN a b b.nodes.length [] [], 0) := by
      have : ¬ 2000 < (ovN a b b.nodes.length [] []).length := by omega
      simp [overlapsR, hva, hvb, hsm, this]
     refine sR ?_
     simp
     refine sN ?_
     refine AL.ret ?_
     try simp only [AU]
     exact ⟨by simp, (Fin.gen (av := .tup [.stk own1 6 ((ovN a b b.nodes.length [] []).map Ov.cells), I 0]) (tok' := tok1) (nt' := nt1) (by simp [resAs, resA]; rfl) hbox (by omega) (Nat.le_refl _) (fun t h => ⟨h, .inl rfl⟩) (fun k rows _ h => .inl h) (by simp [packA])).mono fun v m hq => .inr ⟨by rw [hR], own1, tok1, nt1, by rw [hR, hq.1], hq.2, fun s hs => ⟨hkeep s hs, hne s hs⟩, by omega, hlv, hlt⟩⟩
end Go.AM
namespace Go.AM
open Go Go.Proofs
def rowsO (ys : List Ov) : List (List AV) := rowsD (ys.map Ov.cells)
theorem rowsO_get {ys : List Ov} {i : Nat} (h : i < ys.length) (R : List (List AV)) : (rowsO ys ++ R)[i]? = some [.d (ints ys[i].g.nodes), .d (AM.edges ys[i].g.edges), .d (ints ys[i].l.nodes), .d (ints ys[i].l.edges), .d (ints ys[i].r.nodes), .d (ints ys[i].r.edges)] := by
 rw [List.getElem?_append_left (by simp [rowsO, rowsD]; exact h)]
 simp [rowsO, rowsD, h]
theorem rowsO_set (ys : List Ov) (i : Nat) (h : i < ys.length) (o : Ov) (R : List (List AV)) : (rowsO ys ++ R).set i [.d (ints o.g.nodes), .d (AM.edges o.g.edges), .d (ints o.l.nodes), .d (ints o.l.edges), .d (ints o.r.nodes), .d (ints o.r.edges)] = rowsO (ys.set i o) ++ R := by
 rw [List.set_append_left _ _ (by simp [rowsO, rowsD]; exact h)]
 simp [rowsO, rowsD, List.map_set]
theorem rowsO_len (ys : List Ov) : (rowsO ys).length = ys.length := by simp [rowsO]
structure DelS where
 j : Nat
 i : Nat
 ys : List Ov
structure DelOk (xs : List Ov) (p : Ov → Bool) (x : DelS) : Prop where
 ij : x.i < x.j
 jn : x.j ≤ xs.length
 len : x.ys.length = xs.length
 tk : x.ys.take x.i = (xs.take x.j).filter fun o => !p o
 dr : x.ys.drop x.j = xs.drop x.j
theorem DelOk.at {xs : List Ov} {p : Ov → Bool} {x : DelS} (h : DelOk xs p x) (hj : x.j < xs.length) : x.ys[x.j]'(by rw [h.len]; exact hj) = xs[x.j] := by
 have h1 : x.ys[x.j]'(by rw [h.len]; exact hj) = (x.ys.drop x.j)[0]'(by simp [h.len]; omega) := by simp
 have h2 : xs[x.j] = (xs.drop x.j)[0]'(by simp; omega) := by simp
 rw [h1, h2]
 simp only [h.dr]
theorem DelOk.skip {xs : List Ov} {p : Ov → Bool} {j i : Nat} {ys : List Ov} (h : DelOk xs p ⟨j, i, ys⟩) (hj : j < xs.length) (hp : p xs[j] = true) : DelOk xs p ⟨j + 1, i, ys⟩ := by
 obtain ⟨h1, h2, h3, h4, h5⟩ := h
 simp only at h1 h2 h3 h4 h5
 refine ⟨by simp only; omega, hj, h3, ?_, ?_⟩
 ·simp only
  rw [h4, ← List.take_append_getElem hj, List.filter_append]
  simp [hp]
 ·simp only
  rw [← List.drop_drop, ← List.drop_drop, h5]
theorem DelOk.put {xs : List Ov} {p : Ov → Bool} {j i : Nat} {ys : List Ov} (h : DelOk xs p ⟨j, i, ys⟩) (hj : j < xs.length) (hp : p xs[j] = false) : DelOk xs p ⟨j + 1, i + 1, ys.set i xs[j]⟩ := by
 obtain ⟨h1, h2, h3, h4, h5⟩ := h
 simp only at h1 h2 h3 h4 h5
 refine ⟨by simp only; omega, hj, by simp [h3], ?_, ?_⟩
 ·simp only
  have hi : i < (ys.set i xs[j]).length := by simp; omega
  rw [← List.take_append_getElem hi, ← List.take_append_getElem hj, List.filter_append, ← h4]
  simp [hp, List.take_set_of_le]
 ·simp only
  rw [List.drop_set_of_lt (by omega), ← List.drop_drop, ← List.drop_drop, h5]
theorem DelOk.end {xs : List Ov} {p : Ov → Bool} {i : Nat} {ys : List Ov} (h : DelOk xs p ⟨xs.length, i, ys⟩) : ys.take i = xs.filter fun o => !p o := by
 have := h.tk
 simpa using this
theorem DelOk.start {xs : List Ov} {p : Ov → Bool} (h : xs.any p = true) : DelOk xs p ⟨xs.findIdx p + 1, xs.findIdx p, xs⟩ := by
 have hlt : xs.findIdx p < xs.length := by
  rw [List.findIdx_lt_length]
  simpa using h
 refine ⟨Nat.lt_succ_self _, hlt, rfl, ?_, rfl⟩
 simp only
 rw [← List.take_append_getElem hlt, List.filter_append]
 have h1 : p xs[xs.findIdx p] = true := List.findIdx_getElem (w := hlt)
 have h2 : (xs.take (xs.findIdx p)).filter (fun o => !p o) = xs.take (xs.findIdx p) := by
  refine List.filter_eq_self.2 fun a ha => ?_
  obtain ⟨q, hq, rfl⟩ := List.getElem_of_mem ha
  rw [List.getElem_take]
  have := List.not_of_lt_findIdx (p := p) (xs := xs) (i := q) (by simp at hq; omega)
  simpa using this
 rw [h2]
 simp [h1]
def stDf (n k : Nat) (f : FuncId) (nb : Nat) (box : Bxs) (tok : Tks) (nt : Nat) (R : List (List AV)) (x : DelS) : AState :=
 ⟨tl [(0, .msl (nb + 8) 0 n 6), (1, .fn (.func f) [.ptr k 0 0]), (5, I x.i), (6, I x.j)], lb nb box [(8, rowsO x.ys ++ R)], tok, nt⟩
theorem deleteFuncO_c (xs : List Ov) (f : FuncId) (p : Ov → Bool) (hx : xs.length ≤ 1000000) (row : List AV) (ds : List D) (k t : Nat) (box : Bxs) (nb : Nat) (tok : Tks) (nt : Nat) (hk : box k = some [row]) (hcd : ∀ tok, CellDs tok row ds) (ht : tok t = true)
  (hf : ∀ x ∈ xs, ∀ tok nt, DCall Tryz.prog f [x.av, .cptr ds 0] tok nt (B (p x)) tok nt) :
  ACalls Tryz.prog 42 [.stk t 6 (xs.map Ov.cells), .fn (.func f) [.ptr k 0 0]] ⟨box, nb, tok, nt⟩ fun v m => v = .d (ovs (xs.filter fun x => !p x)) ∧ m = ⟨box, nb, upd tok t false, nt⟩ := by
 have hix : ∀ tok, DCall Tryz.prog 93 [.d (ovs xs), .fn (.func f) [.cptr ds 0]] tok nt (I (findI p xs)) tok nt := fun tok box nb =>
  indexFuncO_c xs f [.cptr ds 0] p hx box nb tok nt (fun c hc => by rw [List.mem_singleton.1 hc]; exact .cptr) (fun x hx box' nb' _ => hf x hx tok nt box' nb')
 refine sB Tryz.func42 Tryz.ntmps42 ?_
 intro hbox htok
 simp only at hbox htok
 apply AL.start
 have kn := key_lt hbox hk
 try (simp)
 repeat (refine sR ?_; simp)
 refine Stop.of_r (RCall.lends rfl hix ⟨.stk ht, .fn1 (.ptr (by simp [lb_out kn, hk]) (hcd _)), trivial⟩) ?_
 simp
 try (simp)
 repeat (refine sR ?_; simp)
 by_cases hn : findI p xs = -1
 ·have hb : (findI p xs == -1) = true := by simp [hn]
  refine AL.stkD t ht ?_
  simp only [List.map_cons, List.map_nil, AV.sdT, ↓reduceIte]
  refine sC ?_
  simp [hb]
  have hfl : (xs.filter fun x => !p x) = xs := by
   refine List.filter_eq_self.2 fun x hx' => ?_
   by_cases hany : xs.any p = true
   ·simp only [findI, hany, ↓reduceIte] at hn
    omega
   ·have := List.any_eq_false.1 (by simpa using hany) x hx'
    simpa using this
  try (simp)
  repeat (refine sR ?_; simp)
  refine sT ?_
  try simp only [AU]
  refine ⟨by simp, (Fin.gen (av := .d (ovs xs)) (tok' := upd tok t false) (nt' := nt) (by simp [resAs, resA, lk]; rfl) hbox (Nat.le_refl _) (Nat.le_refl _) (fun t ht => ⟨ht, .inl rfl⟩) (fun k rows _ h => .inl h) (by simp [packA])).mono fun v m hq => ?_⟩
  rw [hfl]
  exact hq
 ·have hany : xs.any p = true := by
   by_cases h : xs.any p = true
   ·exact h
   ·exact absurd (by simp [findI, h]) hn
  have hne : xs.map Ov.cells ≠ [] := by
   intro h
   have : xs = [] := by simpa using h
   rw [this] at hany
   cases hany
  have hb : (findI p xs == -1) = false := by simp [hn]
  have hfi : findI p xs = (xs.findIdx p : Nat) := by simp [findI, hany]
  refine sC ?_
  simp [hb]
  refine AL.thawS (l' := [(12, .bot), (11, .bot), (5, I (findI p xs)), (10, .bot), (9, .bot), (8, .bot), (4, .bot), (0, .msl (nb + 8) 0 xs.length 6), (1, .fn (.func f) [.ptr k 0 0])]) (loc' := []) t 8 6 (xs.map Ov.cells) 0 rfl (show (8 : Nat) < 42 by decide) rfl ht hne rfl ?_ trivial ?_
  ·simp [CvL]
  intro m
  have hst := DelOk.start hany
  rw [hfi]
  generalize xs.findIdx p = i0 at *
  generalize hRm : List.replicate m (List.replicate 6 AV.bot) = R
  have hbt : ∀ t', upd tok t false t' = true → upd tok t false t' = true := fun _ h => h
  have hw0 : IntKind.i64.wrap (↑i0 + 1) = ((i0 + 1 : Nat) : Int) := by rw [wrap_in (by omega) (by have := hst.jn; simp only at this; omega)]; rfl
  have hfn : ∀ (loc : List (Nat × List (List AV))) (fz : Option (Nat × Nat × List (List D))), To (fun k => lb nb box loc k ≠ none) (fun _ => True) fz (.fn (.func f) [.ptr k 0 0]) (.fn (.func f) [.ptr k 0 0]) := fun loc fz => .same (okFn (fun c hc => by rw [List.mem_singleton.1 hc]; simp [hk]) hbox loc rfl rfl _)
  have hro : ∀ (ys : List Ov) (p q : Nat → Prop) (fz : Option (Nat × Nat × List (List D))), RowsTo p q fz (rowsO ys ++ R) (rowsO ys ++ R) := fun ys p q fz => rowsTo_same fun r hr x hx => by
   rcases List.mem_append.1 hr with hr | hr
   ·obtain ⟨e, _, rfl⟩ := List.mem_map.1 hr
    obtain ⟨d, _, rfl⟩ := List.mem_map.1 hx
    exact .d
   ·rw [← hRm] at hr
    rw [List.eq_of_mem_replicate hr] at hx
    rw [List.eq_of_mem_replicate hx]
    exact .bot
  try (simp [hw0])
  repeat (refine sR ?_; simp [hw0])
  refine sN ?_
  refine AL.loopT (stDf xs.length k f nb box (upd tok t false) nt R) (DelOk xs p) (fun x => xs.length - x.j) ⟨i0 + 1, i0, xs⟩ hst (Weaks.mk (Nat.le_refl _) rfl (by simp [ToL, lk, lb_at]; exact hfn _ _) (by simp only [BoxL, lk_cons, ↓reduceIte, and_true]; exact ⟨_, rfl, hro _ _ _ _⟩)) ?_
  rintro ⟨j, i, ys⟩ S hok hS
  simp only [stDf] at hS
  subst hS
  have h1 := hok.ij
  have h2 := hok.jn
  have h3 := hok.len
  simp only at h1 h2 h3
  have hwj := sW (i := j) (by omega)
  have hwi := sW (i := i) (by omega)
  try (simp)
  repeat (refine sR ?_; simp)
  refine sC ?_
  simp
  refine ⟨fun hlt => ?_, fun hge => ?_⟩
  ·have hat := hok.at hlt
   simp only at hat
   have hys : j < ys.length := by omega
   have hyi : i < ys.length := by omega
   have hget := rowsO_get hys R
   have hgi := rowsO_get hyi R
   have hset := rowsO_set ys i hyi xs[j] R
   have hsk := fun h => hok.skip hlt h
   have hpt := fun h => hok.put hlt h
   have hdel := hf xs[j] (List.getElem_mem hlt)
   rw [hat] at hget
   generalize xs[j] = x at *
   try (simp [hlt, hget])
   repeat (refine sR ?_; simp [hlt, hget])
   refine Stop.of_r (RCall.lends rfl (fun tok => hdel tok nt) ⟨.same (by simp), .ptr (by simp [lb_out kn, hk]) (hcd _), trivial⟩) ?_
   simp
   cases hp : p x
   ·try (simp)
    repeat (refine sR ?_; simp)
    refine sC ?_
    simp
    try (simp [hgi, hset, hwi, hwj])
    repeat (refine sR ?_; simp [hgi, hset, hwi, hwj])
    refine ⟨by omega, ?_⟩
    try (simp [hwi, hwj])
    repeat (refine sR ?_; simp [hwi, hwj])
    refine sE ?_
    exact ⟨⟨j + 1, i + 1, ys.set i x⟩, hpt hp, by simp only; omega, Weaks.mk (Nat.le_refl _) rfl (by simp [ToL, lk, lb_at]; exact hfn _ _) (by simp only [BoxL, lk_cons, ↓reduceIte, and_true]; exact ⟨_, rfl, hro _ _ _ _⟩)⟩
   ·try (simp)
    repeat (refine sR ?_; simp)
    refine sC ?_
    simp
    try (simp [hwj])
    repeat (refine sR ?_; simp [hwj])
    refine sE ?_
    exact ⟨⟨j + 1, i, ys⟩, hsk hp, by simp only; omega, Weaks.mk (Nat.le_refl _) rfl (by simp [ToL, lk, lb_at]; exact hfn _ _) (by simp only [BoxL, lk_cons]; simp; exact hro _ _ _ _)⟩
  ·refine sX ?_
   simp only [AU, ↓reduceIte]
   have hj : j = xs.length := by omega
   subst hj
   have hend := hok.end
   have hil : i < xs.length := by omega
   try (simp [hil])
   repeat (refine sR ?_; simp [hil])
   refine ⟨by omega, by rw [rowsO_len]; omega, ?_⟩
   have hcut : List.take i (rowsO ys ++ R) = rowsO (ys.take i) := by
    rw [List.take_append_of_le_length (by rw [rowsO_len]; omega)]
    simp [rowsO, rowsD, List.map_take]
   rw [hcut]
   obtain ⟨rest, hrest⟩ : ∃ rest, (List.replicate (xs.length - i) [AV.osl 0 [] .full, AV.osl 0 [] .full, AV.osl 0 [] .full, AV.osl 0 [] .full, AV.osl 0 [] .full, AV.osl 0 [] .full] ++ List.drop (i + (xs.length - i)) (rowsO ys ++ R)) = rest := ⟨_, rfl⟩
   rw [hrest]
   have hrr : ∀ (p : Nat → Prop) (fz : Option (Nat × Nat × List (List D))), RowsTo p (fun _ => True) fz (rowsO (ys.take i) ++ rest) (rowsO (ys.take i) ++ rest) := fun p fz => rowsTo_same fun r hr x hx => by
    rcases List.mem_append.1 hr with hr | hr
    ·obtain ⟨e, _, rfl⟩ := List.mem_map.1 hr
     obtain ⟨d, _, rfl⟩ := List.mem_map.1 hx
     exact .d
    ·rw [← hrest] at hr
     rcases List.mem_append.1 hr with hr | hr
     ·rw [List.eq_of_mem_replicate hr] at hx
      simp at hx
      rw [hx]
      exact .osl fun _ _ => trivial
     ·rcases List.mem_append.1 (List.mem_of_mem_drop hr) with hr | hr
      ·obtain ⟨e, _, rfl⟩ := List.mem_map.1 hr
       obtain ⟨d, _, rfl⟩ := List.mem_map.1 hx
       exact .d
      ·rw [← hRm] at hr
       rw [List.eq_of_mem_replicate hr] at hx
       rw [List.eq_of_mem_replicate hx]
       exact .bot
   have hes : ((ys.take i).map Ov.cells).length = i := by simp; omega
   try (simp [hil])
   repeat (refine sR ?_; simp [hil])
   try refine ⟨by omega, ?_⟩
   refine AL.weak (Weaks.mk (l' := [(4, .msl (nb + 8) 0 i 6)]) (loc' := [(8, rowsO (ys.take i) ++ rest)]) (Nat.le_refl _) rfl (by simp [ToL, lk, lb_at]) (by simp only [BoxL, lk_cons, ↓reduceIte, and_true]; exact ⟨_, rfl, hrr _ _⟩)) ?_
   refine AL.trans (Trans.sealD (l' := [(4, .d (.sl 6 ((ys.take i).map Ov.cells)))]) (loc := []) (loc' := []) 8 6 ((ys.take i).map Ov.cells) rest 4 rfl (fun e he => by obtain ⟨o, _, rfl⟩ := List.mem_map.1 he; rfl) (by rw [hes]; rfl) rfl ⟨rfl, by have := @SpTo.msl (nb + 8) 6 ((ys.take i).map Ov.cells); rw [hes] at this; exact this, trivial⟩ trivial) ?_
   rw [hend]
   refine sT ?_
   try simp only [AU]
   refine ⟨by simp, (Fin.gen (av := .d (ovs (xs.filter fun x => !p x))) (tok' := upd tok t false) (nt' := nt) (by simp [resAs, resA, lk]; rfl) hbox (Nat.le_refl _) (Nat.le_refl _) (fun t ht => ⟨ht, .inl rfl⟩) (fun k rows _ h => .inl h) (by simp [packA]))⟩
end Go.AM
namespace Go.AM
open Go Go.Proofs
theorem ru_cds (r : Ru) (tok : Tks) : CellDs tok r.row r.rowK := ⟨.d, .d, .d, .d, .d, .d, .d, .d, .d, .d, .d, .d, .d, .d, .d, .d, .d, .d, .d, .d, .d, .d, .d, .d, .d, trivial⟩
structure WaysOk (t : Ty) (r : Ru) (c : Co) : Prop where
 n : (waysR t r c).1.length ≤ 1000000
 fit : ∀ o ∈ (waysR t r c).1, o.Fit
theorem givP_ok {t : Ty} {r : Ru} {c : Co} (h : givP t r c = 0) : tyE t = 0 ∧ strR r = 0 ∧ shpE c = 0 := by
 unfold givP at h
 split at h
 ·contradiction
 rename_i h1
 split at h
 ·contradiction
 rename_i h2
 split at h
 ·split at h
  ·unfold cnE at h
   split at h
   ·contradiction
   split at h
   ·contradiction
   rename_i h3
   exact ⟨by simpa using h1, by simpa using h2, by simpa using h3⟩
  ·cases h
 ·cases h
theorem ways_ok {t : Ty} {r : Ru} {c : Co} (hr : r.Fit) (hc : c.Fit) : WaysOk t r c := by
 obtain ⟨W, hW⟩ : ∃ W, waysR t r c = W := ⟨_, rfl⟩
 suffices h : W.1.length ≤ 1000000 ∧ ∀ o ∈ W.1, o.Fit by
  constructor
  ·rw [hW]; exact h.1
  ·rw [hW]; exact h.2
 unfold waysR at hW
 split at hW
 ·subst hW; simp
 ·rename_i hg
  have hg := givP_ok (Decidable.not_not.1 hg)
  split at hW
  ·split at hW
   ·subst hW; simp
   ·have hv := (strR_zero hg.2.1).2.2
    obtain ⟨hok, hfit⟩ := ovs_ok hr.rg hv hc.g rfl
    have hfew := ovs_few (p := c.g) hv rfl
    subst hW
    refine ⟨Nat.le_trans (List.length_filter_le _ _) (by omega), fun o ho => hfit o ((List.mem_filter.1 ho).1)⟩
  ·subst hW; simp
set_option maxRecDepth 100000 in
theorem waysP_c (t : Ty) (ht : t.Fit) (r : Ru) (hr : r.Fit) (c : Co) (hc : c.Fit) (tok : Tks) (nt : Nat) : DCall Tryz.prog 14 [t.av, r.av, c.av] tok nt (.tup [.d (ovs (waysR t r c).1), I (waysR t r c).2]) tok nt := by
 intro box nb
 have h1 := givenP_c t ht r hr c hc
 have hg := @givP_ok t r c
 have h2 := overlapsS_c r.rg c.g hr.rg hc.g
 obtain ⟨N, hN⟩ : ∃ N, waysR t r c = N := ⟨_, rfl⟩
 rw [hN]
 unfold waysR at hN
 generalize givP t r c = E at *
 refine sB Tryz.func14 Tryz.ntmps14 ?_
 intro hbox htok
 simp only at hbox htok
 apply AL.start
 try (simp)
 repeat (refine sR ?_; simp)
 refine Stop.of_d (h1 _ _) ?_
 simp
 try (simp)
 repeat (refine sR ?_; simp)
 by_cases e1 : E = 0
 ·rw [if_neg (by simp [e1])] at hN
  refine sC ?_
  simp [e1]
  try (simp)
  repeat (refine sR ?_; simp)
  by_cases e2 : c.kind = 1
  ·rw [if_pos e2] at hN
   have hv := (strR_zero (hg e1).2.1).2.2
   obtain ⟨_, hfit⟩ := ovs_ok hr.rg hv hc.g rfl
   have hfew := ovs_few (p := c.g) hv rfl
   try (simp [e2])
   repeat (first | (refine sR ?_; simp [e2]) | (refine sC ?_; simp [e2]) | (refine sX ?_; simp only [AU, ↓reduceIte]))
   refine Stop.of_a (h2 _ _ _ _) ?_
   unfold QOl
   generalize overlapsR r.rg c.g = R at *
   rintro v m' (⟨e3, rfl, rfl⟩ | ⟨e3, t', tok', nt', rfl, rfl, hkp, hle, hlv, hlt⟩)
   ·rw [if_pos e3] at hN
    have b3 : (R.2 != 0) = true := by simp [e3]
    try (simp [b3])
    repeat (first | (refine sR ?_; simp [b3]) | (refine sC ?_; simp [b3]) | (refine sX ?_; simp only [AU, ↓reduceIte]))
    refine sT ?_
    try simp only [AU]
    refine ⟨by simp, sF hbox htok (fun _ h => h) (Nat.le_refl _) ?_⟩
    simp [packA, ← hN, ovs]
   ·rw [if_neg (by simp [e3])] at hN
    try (simp)
    repeat (refine sR ?_; simp)
    refine sC ?_
    simp
    try (simp)
    repeat (refine sR ?_; simp)
    refine Stop.of_b (deleteFuncO_c R.1 43 (fun o => !keepO r o) (by omega) r.row r.rowK (nb + 4) t' _ _ _ _ (by simp [lb_at]) (ru_cds r) hlv (fun o ho tok nt => ways1_c r hr o (hfit o ho) tok nt)) ?_
    simp only [Bool.not_not]
    try (simp)
    repeat (refine sR ?_; simp)
    refine sT ?_
    try simp only [AU]
    refine ⟨by simp, sF hbox htok (fun s hs => by rw [upd_other _ _ (hkp s hs).2]; exact (hkp s hs).1) hle ?_⟩
    simp [packA, ← hN, ovs]
  ·rw [if_neg e2] at hN
   have b2 : (c.kind != 1) = true := by simp [e2]
   try (simp [b2])
   repeat (first | (refine sR ?_; simp [b2]) | (refine sC ?_; simp [b2]) | (refine sX ?_; simp only [AU, ↓reduceIte]))
   refine sT ?_
   try simp only [AU]
   refine ⟨by simp, sF hbox htok (fun _ h => h) (Nat.le_refl _) ?_⟩
   simp [packA, ← hN, ovs]
 ·rw [if_pos e1] at hN
  have b1 : (E != 0) = true := by simp [e1]
  refine sC ?_
  simp [b1]
  try (simp)
  repeat (refine sR ?_; simp)
  refine sT ?_
  try simp only [AU]
  refine ⟨by simp, sF hbox htok (fun _ h => h) (Nat.le_refl _) ?_⟩
  simp [packA, ← hN, ovs]
end Go.AM
namespace Go.AM
open Go Go.Proofs
theorem always_c (tok : Tks) (nt : Nat) : DCall Tryz.prog 36 [] tok nt (cdOf 1 []).av tok nt := by
 intro box nb
 refine sB Tryz.func36 Tryz.ntmps36 ?_
 intro hbox htok
 simp only at hbox htok
 apply AL.start
 try (simp)
 repeat (refine sR ?_; simp)
 refine sT ?_
 try simp only [AU]
 refine ⟨by simp, sF hbox htok (fun _ h => h) (Nat.le_refl _) ?_⟩
 simp [packA, cdOf, Cd.kind, Cd.kids, Cd.m, Cd.g, Cd.sl, Cd.vars, Cd.te, conds, ints, AM.edges, slots, tests]
def preN (l : List Ov) : List Cd := l.map fun o => cdOf 2 [exP o]
theorem preN_succ (l : List Ov) {i : Nat} (h : i < l.length) : preN (l.take (i + 1)) = preN (l.take i) ++ [cdOf 2 [exP l[i]]] := by
 unfold preN
 rw [← List.take_append_getElem h, List.map_append]; rfl
theorem presC_fit {l : List Ov} (hn : l.length ≤ 1000000) (h : ∀ o ∈ l, o.Fit) : (presC l).Fit := by
 have e0 : ∀ k, (cdOf k []).Fit := fun k => cdOf_fit (by rw [kidN_eq]; simp) (by simp)
 unfold presC
 split
 ·exact e0 _
 ·refine cdOf_fit (by rw [kidN_eq, List.length_map]; omega) fun x hx => ?_
  obtain ⟨o, ho, rfl⟩ := List.mem_map.1 hx
  have of := h o ho
  refine cdOf_fit (by rw [kidN_eq]; simp) fun y hy => ?_
  rw [List.mem_singleton.1 hy]
  exact .mk (by rw [kidN_eq]; simp [exP, Cd.kids]) of.l of.g (by rw [bigN_eq]; simp [exP, Cd.sl]) (by rw [bigN_eq]; simp [exP, Cd.te]) fun z hz => by
   rw [show z = cdOf 1 [] by simpa [exP, Cd.kids] using hz]
   exact e0 _
def stPw (r : Ru) (l : List Ov) (nb : Nat) (box : Bxs) (x : Acc) : AState :=
 ⟨tl [(28, I x.i), (27, I l.length), (26, .d (ovs l)), (10, .ptr (nb + 10) 0 0), (8, .d (ovs l)), (6, .ptr (nb + 6) 0 0), (4, .ptr (nb + 4) 0 0)],
  lb nb box [(10, [[I 3, .osl 9 ((preN (l.take x.i)).map Cd.cells) x.own, nilS, nilS, nilS, nilS, nilS, z0i, nilS]]), (4, [r.row]), (6, [[z0i, nilS, nilS, nilS, nilS, nilS, nilS, z0i, nilS]])], x.tok, x.nt⟩
set_option maxRecDepth 100000 in
theorem preserveP_c (t : Ty) (ht : t.Fit) (r : Ru) (hr : r.Fit) (c : Co) (hc : c.Fit) (tok : Tks) (nt : Nat) : DCall Tryz.prog 12 [t.av, r.av, c.av] tok nt (.tup [(presR t r c).1.av, I (presR t r c).2]) tok nt := by
 intro box nb
 have h1 := waysP_c t ht r hr c hc
 obtain ⟨wn, wf⟩ := ways_ok (t := t) hr hc
 have h2 := leftP_c r (presC (waysR t r c).1) hr (presC_fit wn wf)
 obtain ⟨N, hN⟩ : ∃ N, presR t r c = N := ⟨_, rfl⟩
 rw [hN]
 unfold presR at hN
 generalize waysR t r c = W at *
 refine sB Tryz.func12 Tryz.ntmps12 ?_
 intro hbox htok
 simp only at hbox htok
 apply AL.start
 try (simp)
 repeat (refine sR ?_; simp)
 refine Stop.of_d (h1 _ _) ?_
 simp
 try (simp)
 repeat (refine sR ?_; simp)
 by_cases e1 : W.2 = 0
 ·rw [if_neg (by simp [e1])] at hN
  rw [hN] at h2
  refine sC ?_
  simp [e1]
  try (simp)
  repeat (refine sR ?_; simp)
  refine sN ?_
  have hal := always_c
  refine AL.loopT (stPw r W.1 nb box) (fun x => x.i ≤ W.1.length ∧ TK tok nt x.tok x.nt [x.own]) (fun x => W.1.length - x.i) ⟨0, .full, tok, nt⟩ ⟨Nat.zero_le _, (TK.start htok).full⟩ (Weaks.mk (Nat.le_refl _) rfl (by simp [ToL, lk]) (by simp [BoxL, lk, preN])) ?_
  rintro ⟨i, own, tok', nt'⟩ S ⟨hi, htk⟩ hS
  simp only [stPw] at hS hi htk
  subst hS
  have hw := sW (i := i) (by omega)
  obtain ⟨K, hK⟩ : ∃ K, preN (W.1.take i) = K := ⟨_, rfl⟩
  have hKl : K.length ≤ i := by rw [← hK]; simp [preN]; omega
  rw [hK]
  try (simp)
  repeat (refine sR ?_; simp)
  refine sC ?_
  simp
  refine ⟨fun hlt => ?_, fun hge => ?_⟩
  ·have hstep := preN_succ W.1 hlt
   rw [hK] at hstep
   try (simp [hlt])
   repeat (refine sR ?_; simp [hlt])
   refine Stop.of_d (hal _ _) ?_
   simp
   try (simp)
   repeat (refine sR ?_; simp)
   refine ⟨⟨by omega, htk.live⟩, ?_⟩
   try (simp [hw])
   repeat (refine sR ?_; simp [hw])
   refine sE ?_
   refine ⟨⟨i + 1, .tok nt', upd (own.kill tok') nt' true, nt' + 1⟩, ⟨hlt, htk.app⟩, by simp only; omega, ?_⟩
   simp only [stPw, hstep]
   refine Weaks.mk htk.app.le rfl ?_ ?_
   ·simp [ToL, lk]
   ·simp [BoxL, lk]
    refine to_snoc ?_ _
    simp [dsub_one, cdOf, exP, Cd.cells_eq, Cd.kind, Cd.kids, Cd.m, Cd.g, Cd.sl, Cd.vars, Cd.te, slots, tests, conds, ints, AM.edges]
  ·refine sX ?_
   simp only [AU, ↓reduceIte]
   have : i = W.1.length := by omega
   subst this
   rw [List.take_length] at hK
   have hK2 : (W.1.map fun o => cdOf 2 [exP o]) = K := hK
   have e6 : (cdOf 3 K).row = [I 3, .d (conds K), .d (ints []), .d (ints []), .d (ints []), .d (AM.edges []), .d (slots []), z0i, .d (tests [])] := rfl
   refine AL.weak (Weaks.mk (l' := [(10, .ptr (nb + 10) 0 0), (8, .d (ovs W.1)), (6, .ptr (nb + 6) 0 0), (4, .ptr (nb + 4) 0 0)]) (loc' := [(10, [(cdOf 3 K).row]), (4, [r.row]), (6, [[z0i, nilS, nilS, nilS, nilS, nilS, nilS, z0i, nilS]])]) htk.le rfl (by simp [ToL, lk]) (by simp [BoxL, lk, e6, ints, AM.edges, slots, tests])) ?_
   unfold presC at h2
   by_cases h0 : W.1 = []
   ·rw [if_pos h0] at h2
    try (simp [h0])
    repeat (first | (refine sR ?_; simp [h0]) | (refine sC ?_; simp [h0]) | (refine sX ?_; simp only [AU, ↓reduceIte]))
    refine Stop.of_d (hal _ _) ?_
    simp
    try (simp)
    repeat (refine sR ?_; simp)
    refine Stop.of_d (h2 _ _) ?_
    simp
    try (simp)
    repeat (refine sR ?_; simp)
    refine sT ?_
    try simp only [AU]
    refine ⟨by simp, sF hbox htok htk.old htk.le ?_⟩
    simp [packA, ← hN]
   ·rw [if_neg h0, hK2] at h2
    try (simp [h0])
    repeat (first | (refine sR ?_; simp [h0]) | (refine sC ?_; simp [h0]) | (refine sX ?_; simp only [AU, ↓reduceIte]))
    refine Stop.of_d (h2 _ _) ?_
    simp
    try (simp)
    repeat (refine sR ?_; simp)
    refine sT ?_
    try simp only [AU]
    refine ⟨by simp, sF hbox htok htk.old htk.le ?_⟩
    simp [packA, ← hN]
 ·rw [if_pos e1] at hN
  have b1 : (W.2 != 0) = true := by simp [e1]
  refine sC ?_
  simp [b1]
  try (simp)
  repeat (refine sR ?_; simp)
  refine sT ?_
  try simp only [AU]
  refine ⟨by simp, sF hbox htok (fun _ h => h) (Nat.le_refl _) ?_⟩
  simp [packA, ← hN, cdOf, conds, ints, AM.edges, slots, tests, Cd.kind, Cd.kids, Cd.m, Cd.g, Cd.sl, Cd.vars, Cd.te]
end Go.AM
namespace Go.AM
open Go Go.Proofs
end Go.AM
namespace Go.AM
open Go Go.Proofs
end Go.AM
namespace Go.AM
open Go Go.Proofs
end Go.AM
namespace Go.AM
open Go Go.Proofs
end Go.AM
namespace Go.AM
open Go Go.Proofs
structure Ar where
 to : Gr
 m : Mo
abbrev Ar.av (x : Ar) : AV := .agg [.d (ints x.to.nodes), .d (AM.edges x.to.edges), .d (ints x.m.nodes), .d (ints x.m.edges)]
structure Ar.Big (x : Ar) : Prop where
 n : x.m.nodes.length ≤ bigN
 e : x.m.edges.length ≤ bigN
end Go.AM
namespace Go.AM
open Go Go.Proofs
def RS (n : Int) (s t : St2) : Prop := (s.2 = 0 ∧ t.2 = 0 ∧ s.1 + t.1 = 2000 ∧ 0 ≤ s.1 ∧ s.1 ≤ n) ∨ (s.2 = 3 ∧ t.2 = 3)
theorem RS.zero {n : Int} {s t : St2} (h : RS n s t) (h0 : s.2 = 0) : t.2 = 0 := by
 rcases h with h | h
 ·exact h.2.1
 ·rw [h.1] at h0; cases h0
end Go.AM
namespace Go.AM
open Go Go.Proofs
end Go.AM
namespace Go.AM
open Go Go.Proofs
end Go.AM
namespace Go.AM
open Go Go.Proofs
structure Ch where
 a : Dr
 b : List Int
 g : List Int
 c : List Int
abbrev Ch.av (x : Ch) : AV := .agg [.d (.sl 1 (x.a.nodes.map fun n => [u8 n])), .d (.sl 3 (x.a.edges.map fun e => [u8 e.1, u8 e.2.1, u8 e.2.2])), .d (bytes x.b), .d (bytes x.g), .d (bytes x.c)]
def Ch.ok (x : Ch) : Bool := decide (x.a.nodes.length ≤ 1 ∧ x.a.edges.length ≤ 1 ∧ x.c.length ≤ 12 ∧ x.b.length ≤ 10 ∧ x.g.length ≤ 10)
def Ch.A (x : Ch) : Gr := madeG x.a
def Ch.B (x : Ch) : Gr := growR x.A x.b 2
end Go.AM
namespace Go.AM
open Go Go.Proofs
theorem Pre.le {a b : Gr} (h : Pre a b) : a.nodes.length ≤ b.nodes.length ∧ a.edges.length ≤ b.edges.length := by
 obtain ⟨t, ht⟩ := h.n
 obtain ⟨u, hu⟩ := h.e
 rw [ht, hu]; simp
end Go.AM
namespace Go.AM
open Go Go.Proofs
end Go.AM
namespace Go.AM
open Go Go.Proofs
end Go.AM
namespace Go.AM
open Go Go.Proofs
end Go.AM
namespace Go.AM
open Go Go.Proofs
inductive Cd.Pl : Cd → Prop
 | mk {c : Cd} (hs : c.sl = []) (hv : c.vars = 0) (ht : c.te = []) (h : ∀ x ∈ c.kids, Cd.Pl x) : Cd.Pl c
theorem Cd.Pl.sl {c : Cd} (h : c.Pl) : c.sl = [] := by cases h; assumption
theorem Cd.Pl.te {c : Cd} (h : c.Pl) : c.te = [] := by cases h; assumption
theorem Cd.Pl.vars {c : Cd} (h : c.Pl) : c.vars = 0 := by cases h; assumption
theorem Cd.Pl.kid {c : Cd} (h : c.Pl) : ∀ x ∈ c.kids, Cd.Pl x := by cases h; assumption
theorem ovr_pl : ∀ (n : Nat) (c : Cd), SizeOf.sizeOf c < n → ∀ a, c.ovr a = 0 → c.Pl
 | 0, c, hn, _, _ => absurd hn (Nat.not_lt_zero _)
 | n + 1, c, hn, a, h => by
  obtain ⟨h0, _, h2⟩ := Cd.ovr_zero h
  unfold shapeC at h0
  split at h0
  ·split at h0
   ·rename_i hp
    simp only [plainC, Bool.and_eq_true] at hp
    have e1 := (z0_iff _).1 hp.1
    have e2 := (z0_iff _).1 hp.2.2
    have e3 := (z0_iff _).1 hp.2.1
    exact .mk (List.length_eq_zero_iff.1 (by omega)) (by omega) (List.length_eq_zero_iff.1 (by omega)) fun x hx => ovr_pl n x (by have := Cd.kid_lt hx; omega) _ (h2 x hx)
   ·cases h0
  ·cases h0
theorem copiedGraphP_c (g : Gr) (hg : g.Fit) (tok : Tks) (nt : Nat) : DCall Tryz.prog 119 [g.av] tok nt g.av tok nt := by
 intro box nb
 have h1 := clone_c g.nodes hg.n
 have h2 := cloneE_c g.edges hg.e
 refine sB Tryz.func119 Tryz.ntmps119 ?_
 intro hbox htok
 simp only at hbox htok
 apply AL.start
 have htk := (((TK.start htok).full.app).full.app)
 try (simp)
 repeat (refine sR ?_; simp)
 refine Stop.of_d (h1 _ _) ?_
 simp
 try (simp)
 repeat (refine sR ?_; simp)
 refine Stop.of_d (h2 _ _) ?_
 simp
 try (simp)
 repeat (refine sR ?_; simp)
 refine sT ?_
 try simp only [AU]
 refine ⟨by simp, sF hbox htok htk.old htk.le ?_⟩
 simp [packA, ]
def stCq (c : Cd) (nb : Nat) (box : Bxs) (x : Acc) : AState :=
 ⟨tl [(26, I x.i), (25, I c.kids.length), (24, .d (conds c.kids)), (3, .ptr (nb + 3) 0 0), (2, .ptr (nb + 2) 0 0)],
  lb nb box [(3, [[I c.kind, .osl 9 ((c.kids.take x.i).map Cd.cells) x.own, .d (ints c.m.nodes), .d (ints c.m.edges), .d (ints c.g.nodes), .d (AM.edges c.g.edges), nilS, z0i, nilS]]), (2, [[z0i, nilS, nilS, nilS, nilS, nilS, nilS, z0i, nilS]])], x.tok, x.nt⟩
set_option maxRecDepth 100000 in
theorem copiedCond_c : ∀ (n : Nat) (c : Cd), SizeOf.sizeOf c < n → c.Fit → c.Pl → ∀ (tok : Tks) (nt : Nat), DCall Tryz.prog 121 [c.av] tok nt c.av tok nt
 | 0, c, hn, _, _, _, _ => absurd hn (Nat.not_lt_zero _)
 | n + 1, c, hn, hf, hp, tok, nt => by
  have ih := fun x (hx : x ∈ c.kids) => copiedCond_c n x (by have := Cd.kid_lt hx; omega) (hf.kid x hx) (hp.kid x hx)
  intro box nb
  have hkl := hf.kids
  have h1 := clone_c c.m.nodes hf.m.n
  have h2 := clone_c c.m.edges hf.m.e
  have h3 := copiedGraphP_c c.g hf.g
  refine sB Tryz.func121 Tryz.ntmps121 ?_
  intro hbox htok
  simp only at hbox htok
  apply AL.start
  try (simp)
  repeat (refine sR ?_; simp)
  refine Stop.of_d (h1 _ _) ?_
  simp
  try (simp)
  repeat (refine sR ?_; simp)
  refine Stop.of_d (h2 _ _) ?_
  simp
  try (simp)
  repeat (refine sR ?_; simp)
  refine Stop.of_d (h3 _ _) ?_
  simp
  try (simp)
  repeat (refine sR ?_; simp)
  refine sN ?_
  have hkl2 := hkl
  rw [kidN_eq] at hkl2
  have htk0 : TK tok nt (upd (upd tok nt true) (nt + 1) true) (nt + 1 + 1) [.full] := ((((TK.start htok).full.app).full.app).tail.tail).full
  refine AL.loopT (stCq c nb box) (fun x => x.i ≤ c.kids.length ∧ TK tok nt x.tok x.nt [x.own]) (fun x => c.kids.length - x.i) ⟨0, .full, _, _⟩ ⟨Nat.zero_le _, htk0⟩ (Weaks.mk htk0.le rfl (by simp [ToL, lk, lb_at]) (by simp [BoxL, lk])) ?_
  rintro ⟨i, own, tok', nt'⟩ S ⟨hi, htk⟩ hS
  simp only [stCq] at hS hi htk
  subst hS
  have hw := sW (i := i) (by omega)
  obtain ⟨K, hK⟩ : ∃ K, c.kids.take i = K := ⟨_, rfl⟩
  have hKl : K.length ≤ i := by rw [← hK]; simp; omega
  rw [hK]
  try (simp)
  repeat (refine sR ?_; simp)
  refine sC ?_
  simp
  refine ⟨fun hlt => ?_, fun hge => ?_⟩
  ·have hmem : c.kids[i] ∈ c.kids := List.getElem_mem hlt
   have ihx := ih _ hmem
   have hstep : c.kids.take (i + 1) = K ++ [c.kids[i]] := by rw [← hK, ← List.take_append_getElem hlt]
   try (simp [hlt, Cd.cells_eq])
   repeat (refine sR ?_; simp [hlt, Cd.cells_eq])
   refine Stop.of_d (ihx _ _) ?_
   simp
   try (simp)
   repeat (refine sR ?_; simp)
   refine ⟨⟨by omega, htk.live⟩, ?_⟩
   try (simp [hw])
   repeat (refine sR ?_; simp [hw])
   refine sE ?_
   exact ⟨⟨i + 1, _, _, _⟩, ⟨hlt, htk.app⟩, by simp only; omega, Weaks.mk htk.app.le rfl (by simp [ToL, lk]) (by simp [BoxL, lk, hstep, Cd.cells_eq])⟩
  ·refine sX ?_
   simp only [AU, ↓reduceIte]
   have : i = c.kids.length := by omega
   subst this
   rw [List.take_length] at hK
   try (simp)
   repeat (refine sR ?_; simp)
   refine sT ?_
   try simp only [AU]
   refine ⟨by simp, sF hbox htok htk.old htk.le ?_⟩
   simp [packA, ← hK, hp.sl, hp.te, hp.vars, slots, tests]
set_option maxRecDepth 100000 in
theorem copiedRule_c (r : Ru) (hr : r.Fit) (hl : r.plainL) (hrr : r.plainR) (hc : r.c.Fit) (hp : r.c.Pl) (tok : Tks) (nt : Nat) : DCall Tryz.prog 62 [r.av] tok nt r.av tok nt := by
 intro box nb
 have h1 := copiedGraphP_c r.lg hr.lg
 have h2 := copiedGraphP_c r.rg hr.rg
 have h3 := clone_c r.k.nodes hr.k.n
 have h4 := clone_c r.k.edges hr.k.e
 have h5 := clone_c r.i.nodes hr.i.n
 have h6 := clone_c r.i.edges hr.i.e
 have h7 := copiedCond_c _ r.c (Nat.lt_succ_self _) hc hp
 refine sB Tryz.func62 Tryz.ntmps62 ?_
 intro hbox htok
 simp only at hbox htok
 apply AL.start
 have htk := (((((TK.start htok).full.app).full.app).full.app).full.app)
 try (simp)
 repeat (refine sR ?_; simp)
 refine Stop.of_d (h1 _ _) ?_
 simp
 try (simp)
 repeat (refine sR ?_; simp)
 refine Stop.of_d (h2 _ _) ?_
 simp
 try (simp)
 repeat (refine sR ?_; simp)
 refine Stop.of_d (h3 _ _) ?_
 simp
 try (simp)
 repeat (refine sR ?_; simp)
 refine Stop.of_d (h4 _ _) ?_
 simp
 try (simp)
 repeat (refine sR ?_; simp)
 refine Stop.of_d (h5 _ _) ?_
 simp
 try (simp)
 repeat (refine sR ?_; simp)
 refine Stop.of_d (h6 _ _) ?_
 simp
 try (simp)
 repeat (refine sR ?_; simp)
 refine Stop.of_d (h7 _ _) ?_
 simp
 try (simp)
 repeat (refine sR ?_; simp)
 obtain ⟨l1, l2⟩ := hl
 obtain ⟨r1, r2⟩ := hrr
 have e1 : r.lsl = [] := List.length_eq_zero_iff.1 (by omega)
 have e2 : r.lte = [] := List.length_eq_zero_iff.1 (by omega)
 have e3 : r.rsl = [] := List.length_eq_zero_iff.1 (by omega)
 have e4 : r.rte = [] := List.length_eq_zero_iff.1 (by omega)
 refine sT ?_
 try simp only [AU]
 refine ⟨by simp, sF hbox htok htk.old htk.le ?_⟩
 simp [packA, e1, e2, e3, e4, l2, r2, slots, tests]
end Go.AM
namespace Go.AM
open Go Go.Proofs
def zRu : Ru := ⟨⟨#[]⟩, ⟨[], []⟩, [], 0, [], ⟨[], []⟩, [], 0, [], ⟨[], []⟩, ⟨[], []⟩, false, cdOf 0 []⟩
def Ru.wc (r : Ru) (c : Cd) : Ru := ⟨r.name, r.lg, r.lsl, r.lv, r.lte, r.rg, r.rsl, r.rv, r.rte, r.k, r.i, r.inj, c⟩
def withR (r : Ru) (c : Cd) : Ru × Int := if withE r c ≠ 0 then (zRu, withE r c) else (r.wc (wthC r.c c), 0)
theorem wthC_fit {a c : Cd} (ha : a.Fit) (hc : c.Fit) : (wthC a c).Fit := by
 unfold wthC
 split
 ·exact hc
 ·split
  ·exact ha
  ·refine cdOf_fit (by rw [kidN_eq]; simp) fun x hx => ?_
   simp only [List.mem_cons, List.not_mem_nil, or_false] at hx
   rcases hx with h | h
   ·rw [h]; exact ha
   ·rw [h]; exact hc
theorem zRu_av : zRu.av = .agg [.d (.raw (.string ⟨#[]⟩)), .d (.sl 1 []), .d (.sl 3 []), .d (.sl 4 []), I 0, .d (.sl 5 []), .d (.sl 1 []), .d (.sl 3 []), .d (.sl 4 []), I 0, .d (.sl 5 []), .d (.sl 1 []), .d (.sl 1 []), .d (.sl 1 []), .d (.sl 1 []), B false,
 I 0, .d (.sl 9 []), .d (.sl 1 []), .d (.sl 1 []), .d (.sl 1 []), .d (.sl 3 []), .d (.sl 4 []), I 0, .d (.sl 5 [])] := rfl
theorem wc_row (r : Ru) (d : Cd) : (r.wc d).row = [.d (.raw (.string r.name)), .d (ints r.lg.nodes), .d (AM.edges r.lg.edges), .d (slots r.lsl), I r.lv, .d (tests r.lte), .d (ints r.rg.nodes), .d (AM.edges r.rg.edges), .d (slots r.rsl), I r.rv, .d (tests r.rte),
 .d (ints r.k.nodes), .d (ints r.k.edges), .d (ints r.i.nodes), .d (ints r.i.edges), B r.inj, I d.kind, .d (conds d.kids), .d (ints d.m.nodes), .d (ints d.m.edges), .d (ints d.g.nodes), .d (AM.edges d.g.edges), .d (slots d.sl), I d.vars, .d (tests d.te)] := rfl
theorem strR_plain {r : Ru} (h : strR r = 0) : r.plainL ∧ r.plainR := by
 unfold strR at h
 split at h
 ·contradiction
 ·split at h
  ·contradiction
  ·split at h
   ·contradiction
   ·split at h
    ·contradiction
    ·split at h
     ·cases h
     ·split at h
      ·rename_i h6; exact ⟨h6.1, h6.2.1⟩
      ·cases h
abbrev zRowS : List AV := [.d (.raw (.string ⟨#[]⟩)), nilS, nilS, nilS, I 0, nilS, nilS, nilS, nilS, I 0, nilS, nilS, nilS, nilS, nilS, B false, I 0, nilS, nilS, nilS, nilS, nilS, nilS, I 0, nilS]
set_option maxRecDepth 100000 in
theorem withP_c (r : Ru) (c : Cd) (hr : r.Fit) (hrc : r.c.Fit) (hc : c.Fit) (tok : Tks) (nt : Nat) : DCall Tryz.prog 21 [r.av, c.av] tok nt (.tup [(withR r c).1.av, I (withR r c).2]) tok nt := by
 intro box nb
 have h1 := structuralPc_c r hr
 have h2 := validC_c r.lg r.c hr.lg hrc
 have h3 := validC_c r.lg c hr.lg hc
 obtain ⟨N, hN⟩ : ∃ N, withR r c = N := ⟨_, rfl⟩
 rw [hN]
 unfold withR at hN
 have hz := @strR_plain r
 refine sB Tryz.func21 Tryz.ntmps21 ?_
 intro hbox htok
 simp only at hbox htok
 apply AL.start
 try (simp)
 repeat (refine sR ?_; simp)
 refine Stop.of_d (h1 _ _) ?_
 simp
 try (simp)
 repeat (refine sR ?_; simp)
 by_cases e1 : strR r = 0
 ·try (simp [e1])
  repeat (first | (refine sR ?_; simp [e1]) | (refine sC ?_; simp [e1]) | (refine sX ?_; simp only [AU, ↓reduceIte]))
  refine Stop.of_d (h2 _ _) ?_
  simp
  try (simp)
  repeat (refine sR ?_; simp)
  by_cases e2 : validC r.lg r.c = 0
  ·try (simp [e2])
   repeat (first | (refine sR ?_; simp [e2]) | (refine sC ?_; simp [e2]) | (refine sX ?_; simp only [AU, ↓reduceIte]))
   refine Stop.of_d (h3 _ _) ?_
   simp
   try (simp)
   repeat (refine sR ?_; simp)
   by_cases e3 : validC r.lg c = 0
   ·by_cases k1 : r.c.kind = 1
    ·have hd : wthC r.c c = c := by rw [wthC, if_pos k1]
     have hvd := validC_c r.lg (c) hr.lg (hd ▸ wthC_fit hrc hc)
     try (simp [e3, k1])
     repeat (first | (refine sR ?_; simp [e3, k1]) | (refine sC ?_; simp [e3, k1]) | (refine sX ?_; simp only [AU, ↓reduceIte]))
     refine Stop.of_d (hvd _ _) ?_
     simp
     try (simp)
     repeat (refine sR ?_; simp)
     by_cases e4 : validC r.lg (c) = 0
     ·have hE : withE r c = 0 := by unfold withE; simp [e1, e2, e3, hd, e4]
      rw [hE, if_neg (by simp), hd] at hN
      have hcp := copiedRule_c (r.wc (c)) ⟨hr.lg, hr.rg, hr.k, hr.i, hr.ls, hr.lt, hr.rs, hr.rt⟩ (hz e1).1 (hz e1).2 (hd ▸ wthC_fit hrc hc) (ovr_pl _ _ (Nat.lt_succ_self _) _ (validC_zero e4).2)
      try (simp [e4])
      repeat (first | (refine sR ?_; simp [e4]) | (refine sC ?_; simp [e4]) | (refine sX ?_; simp only [AU, ↓reduceIte]))
      refine Stop.of_d (hcp _ _) ?_
      simp
      try (simp)
      repeat (refine sR ?_; simp)
      refine sT ?_
      try simp only [AU]
      refine ⟨by simp, sF hbox htok (fun _ h => h) (Nat.le_refl _) ?_⟩
      simp [packA, ← hN]
     ·have hE : withE r c = validC r.lg (c) := by unfold withE; simp [e1, e2, e3, hd]
      have b4 : (validC r.lg (c) != 0) = true := by simp [e4]
      rw [hE, if_pos e4] at hN
      try (simp [b4])
      repeat (first | (refine sR ?_; simp [b4]) | (refine sC ?_; simp [b4]) | (refine sX ?_; simp only [AU, ↓reduceIte]))
      refine sT ?_
      try simp only [AU]
      refine ⟨by simp, sF hbox htok (fun _ h => h) (Nat.le_refl _) ?_⟩
      simp [packA, ← hN, zRu_av]
    ·have k1b : (r.c.kind == 1) = false := by simp [k1]
     by_cases k2 : c.kind = 1
     ·have hd : wthC r.c c = r.c := by rw [wthC, if_neg k1, if_pos k2]
      have hvd := validC_c r.lg (r.c) hr.lg (hd ▸ wthC_fit hrc hc)
      try (simp [e3, k1b, k2])
      repeat (first | (refine sR ?_; simp [e3, k1b, k2]) | (refine sC ?_; simp [e3, k1b, k2]) | (refine sX ?_; simp only [AU, ↓reduceIte]))
      refine Stop.of_d (hvd _ _) ?_
      simp
      try (simp)
      repeat (refine sR ?_; simp)
      by_cases e4 : validC r.lg (r.c) = 0
      ·have hE : withE r c = 0 := by unfold withE; simp [e1, e2, e3, hd, e4]
       rw [hE, if_neg (by simp), hd] at hN
       have hcp := copiedRule_c (r.wc (r.c)) ⟨hr.lg, hr.rg, hr.k, hr.i, hr.ls, hr.lt, hr.rs, hr.rt⟩ (hz e1).1 (hz e1).2 (hd ▸ wthC_fit hrc hc) (ovr_pl _ _ (Nat.lt_succ_self _) _ (validC_zero e4).2)
       try (simp [e4])
       repeat (first | (refine sR ?_; simp [e4]) | (refine sC ?_; simp [e4]) | (refine sX ?_; simp only [AU, ↓reduceIte]))
       refine Stop.of_d (hcp _ _) ?_
       simp
       try (simp)
       repeat (refine sR ?_; simp)
       refine sT ?_
       try simp only [AU]
       refine ⟨by simp, sF hbox htok (fun _ h => h) (Nat.le_refl _) ?_⟩
       simp [packA, ← hN]
      ·have hE : withE r c = validC r.lg (r.c) := by unfold withE; simp [e1, e2, e3, hd]
       have b4 : (validC r.lg (r.c) != 0) = true := by simp [e4]
       rw [hE, if_pos e4] at hN
       try (simp [b4])
       repeat (first | (refine sR ?_; simp [b4]) | (refine sC ?_; simp [b4]) | (refine sX ?_; simp only [AU, ↓reduceIte]))
       refine sT ?_
       try simp only [AU]
       refine ⟨by simp, sF hbox htok (fun _ h => h) (Nat.le_refl _) ?_⟩
       simp [packA, ← hN, zRu_av]
     ·have k2b : (c.kind != 1) = true := by simp [k2]
      have hd : wthC r.c c = cdOf 3 [r.c, c] := by rw [wthC, if_neg k1, if_neg k2]
      have hvd := validC_c r.lg (cdOf 3 [r.c, c]) hr.lg (hd ▸ wthC_fit hrc hc)
      try (simp [e3, k1b, k2b])
      repeat (first | (refine sR ?_; simp [e3, k1b, k2b]) | (refine sC ?_; simp [e3, k1b, k2b]) | (refine sX ?_; simp only [AU, ↓reduceIte]))
      refine ⟨rfl, ?_⟩
      refine AL.weak (Weaks.mk (l' := [(4, .ptr (nb + 4) 0 0), (3, .ptr (nb + 3) 0 0), (2, .ptr (nb + 2) 0 0)]) (loc' := [(2, [(r.wc (cdOf 3 [r.c, c])).row]), (3, [c.row]), (4, [zRowS])]) (Nat.le_refl _) rfl (by simp [ToL, lk]) (by simp [BoxL, lk, wc_row, cdOf, Cd.cells_eq, Cd.kind, Cd.kids, Cd.m, Cd.g, Cd.sl, Cd.vars, Cd.te, slots, tests, conds, ints, AM.edges])) ?_
      try (simp)
      repeat (refine sR ?_; simp)
      refine Stop.of_d (hvd _ _) ?_
      simp
      try (simp)
      repeat (refine sR ?_; simp)
      by_cases e4 : validC r.lg (cdOf 3 [r.c, c]) = 0
      ·have hE : withE r c = 0 := by unfold withE; simp [e1, e2, e3, hd, e4]
       rw [hE, if_neg (by simp), hd] at hN
       have hcp := copiedRule_c (r.wc (cdOf 3 [r.c, c])) ⟨hr.lg, hr.rg, hr.k, hr.i, hr.ls, hr.lt, hr.rs, hr.rt⟩ (hz e1).1 (hz e1).2 (hd ▸ wthC_fit hrc hc) (ovr_pl _ _ (Nat.lt_succ_self _) _ (validC_zero e4).2)
       try (simp [e4])
       repeat (first | (refine sR ?_; simp [e4]) | (refine sC ?_; simp [e4]) | (refine sX ?_; simp only [AU, ↓reduceIte]))
       refine Stop.of_d (hcp _ _) ?_
       simp
       try (simp)
       repeat (refine sR ?_; simp)
       refine sT ?_
       try simp only [AU]
       refine ⟨by simp, sF hbox htok (fun _ h => h) (Nat.le_refl _) ?_⟩
       simp [packA, ← hN]
      ·have hE : withE r c = validC r.lg (cdOf 3 [r.c, c]) := by unfold withE; simp [e1, e2, e3, hd]
       have b4 : (validC r.lg (cdOf 3 [r.c, c]) != 0) = true := by simp [e4]
       rw [hE, if_pos e4] at hN
       try (simp [b4])
       repeat (first | (refine sR ?_; simp [b4]) | (refine sC ?_; simp [b4]) | (refine sX ?_; simp only [AU, ↓reduceIte]))
       refine sT ?_
       try simp only [AU]
       refine ⟨by simp, sF hbox htok (fun _ h => h) (Nat.le_refl _) ?_⟩
       simp [packA, ← hN, zRu_av]
   ·have b3 : (validC r.lg c != 0) = true := by simp [e3]
    have hE : withE r c = validC r.lg c := by unfold withE; simp [e1, e2, e3]
    rw [hE, if_pos e3] at hN
    try (simp [b3])
    repeat (first | (refine sR ?_; simp [b3]) | (refine sC ?_; simp [b3]) | (refine sX ?_; simp only [AU, ↓reduceIte]))
    refine sT ?_
    try simp only [AU]
    refine ⟨by simp, sF hbox htok (fun _ h => h) (Nat.le_refl _) ?_⟩
    simp [packA, ← hN, zRu_av]
  ·have b2 : (validC r.lg r.c == 0) = false := by simp [e2]
   have b2' : (validC r.lg r.c != 0) = true := by simp [e2]
   have hE : withE r c = validC r.lg r.c := by unfold withE; simp [e1, e2]
   rw [hE, if_pos e2] at hN
   try (simp [b2, b2', e2])
   repeat (first | (refine sR ?_; simp [b2, b2', e2]) | (refine sC ?_; simp [b2, b2', e2]) | (refine sX ?_; simp only [AU, ↓reduceIte]))
   refine sT ?_
   try simp only [AU]
   refine ⟨by simp, sF hbox htok (fun _ h => h) (Nat.le_refl _) ?_⟩
   simp [packA, ← hN, zRu_av]
 ·have b1 : (strR r == 0) = false := by simp [e1]
  have b1' : (strR r != 0) = true := by simp [e1]
  have hE : withE r c = strR r := by unfold withE; simp [e1]
  rw [hE, if_pos e1] at hN
  try (simp [b1, b1', e1])
  repeat (first | (refine sR ?_; simp [b1, b1', e1]) | (refine sC ?_; simp [b1, b1', e1]) | (refine sX ?_; simp only [AU, ↓reduceIte]))
  refine sT ?_
  try simp only [AU]
  refine ⟨by simp, sF hbox htok (fun _ h => h) (Nat.le_refl _) ?_⟩
  simp [packA, ← hN, zRu_av]
end Go.AM
namespace Go.AM
open Go Go.Proofs
set_option maxRecDepth 100000 in
theorem withS_c (r : Ru) (c : Cd) (hr : r.Fit) (hrc : r.c.Fit) (hc : c.Fit) (tok : Tks) (nt : Nat) : DCall Tryz.prog 22 [r.av, c.av] tok nt (.tup [(withR r c).1.av, I (withR r c).2]) tok nt := by
 intro box nb
 have h1 := structural34_c r hr
 have h2 := validR_c r.lg r.c hr.lg hrc
 have h3 := validR_c r.lg c hr.lg hc
 obtain ⟨N, hN⟩ : ∃ N, withR r c = N := ⟨_, rfl⟩
 rw [hN]
 unfold withR at hN
 have hz := @strR_plain r
 refine sB Tryz.func22 Tryz.ntmps22 ?_
 intro hbox htok
 simp only at hbox htok
 apply AL.start
 try (simp)
 repeat (refine sR ?_; simp)
 refine Stop.of_d (h1 _ _) ?_
 simp
 try (simp)
 repeat (refine sR ?_; simp)
 by_cases e1 : strR r = 0
 ·try (simp [e1])
  repeat (first | (refine sR ?_; simp [e1]) | (refine sC ?_; simp [e1]) | (refine sX ?_; simp only [AU, ↓reduceIte]))
  refine Stop.of_d (h2 _ _) ?_
  simp
  try (simp)
  repeat (refine sR ?_; simp)
  by_cases e2 : validC r.lg r.c = 0
  ·try (simp [e2])
   repeat (first | (refine sR ?_; simp [e2]) | (refine sC ?_; simp [e2]) | (refine sX ?_; simp only [AU, ↓reduceIte]))
   refine Stop.of_d (h3 _ _) ?_
   simp
   try (simp)
   repeat (refine sR ?_; simp)
   by_cases e3 : validC r.lg c = 0
   ·by_cases k1 : r.c.kind = 1
    ·have hd : wthC r.c c = c := by rw [wthC, if_pos k1]
     have hvd := validR_c r.lg (c) hr.lg (hd ▸ wthC_fit hrc hc)
     try (simp [e3, k1])
     repeat (first | (refine sR ?_; simp [e3, k1]) | (refine sC ?_; simp [e3, k1]) | (refine sX ?_; simp only [AU, ↓reduceIte]))
     refine Stop.of_d (hvd _ _) ?_
     simp
     try (simp)
     repeat (refine sR ?_; simp)
     by_cases e4 : validC r.lg (c) = 0
     ·have hE : withE r c = 0 := by unfold withE; simp [e1, e2, e3, hd, e4]
      rw [hE, if_neg (by simp), hd] at hN
      try (simp [e4])
      repeat (first | (refine sR ?_; simp [e4]) | (refine sC ?_; simp [e4]) | (refine sX ?_; simp only [AU, ↓reduceIte]))
      refine sT ?_
      try simp only [AU]
      refine ⟨by simp, sF hbox htok (fun _ h => h) (Nat.le_refl _) ?_⟩
      simp [packA, ← hN, Ru.wc]
     ·have hE : withE r c = validC r.lg (c) := by unfold withE; simp [e1, e2, e3, hd]
      have b4 : (validC r.lg (c) != 0) = true := by simp [e4]
      rw [hE, if_pos e4] at hN
      try (simp [b4])
      repeat (first | (refine sR ?_; simp [b4]) | (refine sC ?_; simp [b4]) | (refine sX ?_; simp only [AU, ↓reduceIte]))
      refine sT ?_
      try simp only [AU]
      refine ⟨by simp, sF hbox htok (fun _ h => h) (Nat.le_refl _) ?_⟩
      simp [packA, ← hN, zRu_av]
    ·have k1b : (r.c.kind == 1) = false := by simp [k1]
     by_cases k2 : c.kind = 1
     ·have hd : wthC r.c c = r.c := by rw [wthC, if_neg k1, if_pos k2]
      have hvd := validR_c r.lg (r.c) hr.lg (hd ▸ wthC_fit hrc hc)
      try (simp [e3, k1b, k2])
      repeat (first | (refine sR ?_; simp [e3, k1b, k2]) | (refine sC ?_; simp [e3, k1b, k2]) | (refine sX ?_; simp only [AU, ↓reduceIte]))
      refine Stop.of_d (hvd _ _) ?_
      simp
      try (simp)
      repeat (refine sR ?_; simp)
      by_cases e4 : validC r.lg (r.c) = 0
      ·have hE : withE r c = 0 := by unfold withE; simp [e1, e2, e3, hd, e4]
       rw [hE, if_neg (by simp), hd] at hN
       try (simp [e4])
       repeat (first | (refine sR ?_; simp [e4]) | (refine sC ?_; simp [e4]) | (refine sX ?_; simp only [AU, ↓reduceIte]))
       refine sT ?_
       try simp only [AU]
       refine ⟨by simp, sF hbox htok (fun _ h => h) (Nat.le_refl _) ?_⟩
       simp [packA, ← hN, Ru.wc]
      ·have hE : withE r c = validC r.lg (r.c) := by unfold withE; simp [e1, e2, e3, hd]
       have b4 : (validC r.lg (r.c) != 0) = true := by simp [e4]
       rw [hE, if_pos e4] at hN
       try (simp [b4])
       repeat (first | (refine sR ?_; simp [b4]) | (refine sC ?_; simp [b4]) | (refine sX ?_; simp only [AU, ↓reduceIte]))
       refine sT ?_
       try simp only [AU]
       refine ⟨by simp, sF hbox htok (fun _ h => h) (Nat.le_refl _) ?_⟩
       simp [packA, ← hN, zRu_av]
     ·have k2b : (c.kind != 1) = true := by simp [k2]
      have hd : wthC r.c c = cdOf 3 [r.c, c] := by rw [wthC, if_neg k1, if_neg k2]
      have hvd := validR_c r.lg (cdOf 3 [r.c, c]) hr.lg (hd ▸ wthC_fit hrc hc)
      try (simp [e3, k1b, k2b])
      repeat (first | (refine sR ?_; simp [e3, k1b, k2b]) | (refine sC ?_; simp [e3, k1b, k2b]) | (refine sX ?_; simp only [AU, ↓reduceIte]))
      refine ⟨rfl, ?_⟩
      refine AL.weak (Weaks.mk (l' := [(4, .ptr (nb + 4) 0 0), (3, .ptr (nb + 3) 0 0), (2, .ptr (nb + 2) 0 0)]) (loc' := [(2, [(r.wc (cdOf 3 [r.c, c])).row]), (3, [c.row]), (4, [zRowS])]) (Nat.le_refl _) rfl (by simp [ToL, lk]) (by simp [BoxL, lk, wc_row, cdOf, Cd.cells_eq, Cd.kind, Cd.kids, Cd.m, Cd.g, Cd.sl, Cd.vars, Cd.te, slots, tests, conds, ints, AM.edges])) ?_
      try (simp)
      repeat (refine sR ?_; simp)
      refine Stop.of_d (hvd _ _) ?_
      simp
      try (simp)
      repeat (refine sR ?_; simp)
      by_cases e4 : validC r.lg (cdOf 3 [r.c, c]) = 0
      ·have hE : withE r c = 0 := by unfold withE; simp [e1, e2, e3, hd, e4]
       rw [hE, if_neg (by simp), hd] at hN
       try (simp [e4])
       repeat (first | (refine sR ?_; simp [e4]) | (refine sC ?_; simp [e4]) | (refine sX ?_; simp only [AU, ↓reduceIte]))
       refine sT ?_
       try simp only [AU]
       refine ⟨by simp, sF hbox htok (fun _ h => h) (Nat.le_refl _) ?_⟩
       simp [packA, ← hN, Ru.wc]
      ·have hE : withE r c = validC r.lg (cdOf 3 [r.c, c]) := by unfold withE; simp [e1, e2, e3, hd]
       have b4 : (validC r.lg (cdOf 3 [r.c, c]) != 0) = true := by simp [e4]
       rw [hE, if_pos e4] at hN
       try (simp [b4])
       repeat (first | (refine sR ?_; simp [b4]) | (refine sC ?_; simp [b4]) | (refine sX ?_; simp only [AU, ↓reduceIte]))
       refine sT ?_
       try simp only [AU]
       refine ⟨by simp, sF hbox htok (fun _ h => h) (Nat.le_refl _) ?_⟩
       simp [packA, ← hN, zRu_av]
   ·have b3 : (validC r.lg c != 0) = true := by simp [e3]
    have hE : withE r c = validC r.lg c := by unfold withE; simp [e1, e2, e3]
    rw [hE, if_pos e3] at hN
    try (simp [b3])
    repeat (first | (refine sR ?_; simp [b3]) | (refine sC ?_; simp [b3]) | (refine sX ?_; simp only [AU, ↓reduceIte]))
    refine sT ?_
    try simp only [AU]
    refine ⟨by simp, sF hbox htok (fun _ h => h) (Nat.le_refl _) ?_⟩
    simp [packA, ← hN, zRu_av]
  ·have b2 : (validC r.lg r.c == 0) = false := by simp [e2]
   have b2' : (validC r.lg r.c != 0) = true := by simp [e2]
   have hE : withE r c = validC r.lg r.c := by unfold withE; simp [e1, e2]
   rw [hE, if_pos e2] at hN
   try (simp [b2, b2', e2])
   repeat (first | (refine sR ?_; simp [b2, b2', e2]) | (refine sC ?_; simp [b2, b2', e2]) | (refine sX ?_; simp only [AU, ↓reduceIte]))
   refine sT ?_
   try simp only [AU]
   refine ⟨by simp, sF hbox htok (fun _ h => h) (Nat.le_refl _) ?_⟩
   simp [packA, ← hN, zRu_av]
 ·have b1 : (strR r == 0) = false := by simp [e1]
  have b1' : (strR r != 0) = true := by simp [e1]
  have hE : withE r c = strR r := by unfold withE; simp [e1]
  rw [hE, if_pos e1] at hN
  try (simp [b1, b1', e1])
  repeat (first | (refine sR ?_; simp [b1, b1', e1]) | (refine sC ?_; simp [b1, b1', e1]) | (refine sX ?_; simp only [AU, ↓reduceIte]))
  refine sT ?_
  try simp only [AU]
  refine ⟨by simp, sF hbox htok (fun _ h => h) (Nat.le_refl _) ?_⟩
  simp [packA, ← hN, zRu_av]
end Go.AM
namespace Go.AM
open Go
variable {P : Program}
theorem getD_some {l : Array Bool} {i : Nat} {d v : Bool} (h : l[i]? = some v) : l.getD i d = v := by simp [Array.getD_eq_getD_getElem?, h]
end Go.AM
namespace Go.AM
open Go Go.Proofs
structure Ac3 where
 own : Own
 tok : Nat → Bool
 nt : Nat
def Ac3.add (x : Ac3) (b : Bool) : Ac3 := if b = true then ⟨.tok (x.nt + 2), upd (x.own.kill (upd (upd (upd x.tok x.nt true) x.nt false) (x.nt + 1) true)) (x.nt + 2) true, x.nt + 3⟩ else x
structure Ac3.Ok (x : Ac3) (tok : Tks) (nt : Nat) : Prop where
 adv : Adv tok nt .full x.tok x.nt x.own
 lt : ∀ t, tok t = true → t < nt
theorem Ac3.Ok.add {x : Ac3} {tok : Nat → Bool} {nt : Nat} (h : x.Ok tok nt) (b : Bool) : (x.add b).Ok tok nt := by
 unfold Ac3.add
 split
 ·have had := Adv.fresh h.adv.live h.adv.lt
  exact ⟨h.adv.trans h.lt (had.trans h.adv.lt (Adv.app had.live had.lt)), h.lt⟩
 ·exact h
theorem Ac3.Ok.tk {x : Ac3} {tok : Nat → Bool} {nt : Nat} (h : x.Ok tok nt) : TK tok nt x.tok x.nt [x.own] :=
 ⟨fun t ht => h.adv.keep t ht (by simp), h.lt, h.adv.le, fun o ho t e => by
  rw [List.mem_singleton] at ho
  subst ho
  have hl := h.adv.live
  rw [e] at hl
  refine ⟨hl, ?_, h.adv.lt t hl⟩
  rcases h.adv.new with e2 | ⟨s, e2, hs⟩
  ·rw [e] at e2; cases e2
  ·rw [e] at e2; cases e2; exact hs, List.pairwise_singleton _ _⟩
abbrev Gr.cells (g : Gr) : List D := [ints g.nodes, AM.edges g.edges]
end Go.AM
namespace Go.AM
open Go Go.Proofs
theorem Ac3.Ok.start {tok : Nat → Bool} {nt : Nat} (h : ∀ t, tok t = true → t < nt) : (Ac3.mk .full tok nt).Ok tok nt := ⟨Adv.refl trivial h, h⟩
end Go.AM
namespace Go.AM
open Go Go.Proofs
theorem TK.adv {mtok : Nat → Bool} {nt0 : Nat} {tok tok' : Nat → Bool} {nt nt' : Nat} {os : List Own} {own' : Own} (h : TK mtok nt0 tok nt os) (ha : Adv tok nt .full tok' nt' own') : TK mtok nt0 tok' nt' (own' :: os) := by
 have hnew : ∀ s, own' = .tok s → nt ≤ s ∧ tok' s = true := fun s e => by
  have hl := ha.live
  rw [e] at hl
  rcases ha.new with e2 | ⟨s2, e2, hs⟩
  ·rw [e] at e2; cases e2
  ·rw [e] at e2; cases e2; exact ⟨hs, hl⟩
 refine ⟨fun t ht => ha.keep t (h.old t ht) (by simp), h.lt, Nat.le_trans h.le ha.le, fun o ho t e => ?_, ?_⟩
 ·rcases List.mem_cons.1 ho with rfl | ho
  ·obtain ⟨h1, h2⟩ := hnew t e
   exact ⟨h2, Nat.le_trans h.le h1, ha.lt t h2⟩
  ·obtain ⟨h1, h2, h3⟩ := h.own o ho t e
   exact ⟨ha.keep t h1 (by simp), h2, Nat.lt_of_lt_of_le h3 ha.le⟩
 ·refine List.pairwise_cons.2 ⟨fun b hb t e e2 => ?_, h.ne⟩
  obtain ⟨h1, h2⟩ := hnew t e
  obtain ⟨_, _, h3⟩ := h.own b hb t e2
  omega
end Go.AM
namespace Go.AM
open Go Go.Proofs
def Ac3.ed (x : Ac3) (s : Nat) : Ac3 := ⟨.tok (x.nt + 1), upd (x.own.kill (upd (upd x.tok s false) x.nt true)) (x.nt + 1) true, x.nt + 2⟩
def Ac3.nd (x : Ac3) (s : Nat) : Ac3 := ⟨x.own, upd (upd x.tok s false) x.nt true, x.nt + 1⟩
end Go.AM
namespace Go.AM
open Go Go.Proofs
end Go.AM
namespace Go.AM
open Go Go.Proofs
end Go.AM
namespace Go.AM
open Go Go.Proofs
end Go.AM
namespace Go.AM
open Go Go.Proofs
def exT : Ty := ⟨[⟨⟨#[65, 99, 99, 111, 117, 110, 116]⟩, -1, true, [⟨⟨#[98, 97, 108, 97, 110, 99, 101]⟩, -1000, 1000, []⟩]⟩, ⟨⟨#[67, 97, 115, 104]⟩, 0, false, []⟩, ⟨⟨#[76, 111, 97, 110]⟩, 0, false, [⟨⟨#[115, 116, 97, 116, 101]⟩, 0, 1, [⟨#[111, 112, 101, 110]⟩, ⟨#[99, 108, 111, 115, 101, 100]⟩]⟩]⟩, ⟨⟨#[80, 101, 114, 115, 111, 110]⟩, -1, false, []⟩],
 [⟨⟨#[111, 119, 110, 115]⟩, 3, 0, 0, -1, 1, 1⟩, ⟨⟨#[112, 97, 121, 115]⟩, 1, 1, 0, -1, 0, -1⟩]⟩
def payR : Ru := ⟨⟨#[112, 97, 121]⟩, ⟨[1, 1], []⟩, [], 0, [], ⟨[1, 1], [⟨1, 0, 1⟩]⟩, [], 0, [], ⟨[0, 1], []⟩, ⟨[0, 1], []⟩, true, cdOf 1 []⟩
def dblC : Co := ⟨⟨#[100, 111, 117, 98, 108, 101]⟩, 1, ⟨[1, 1], [⟨1, 0, 1⟩, ⟨1, 0, 1⟩]⟩, []⟩
def slfC : Co := ⟨⟨#[115, 101, 108, 102]⟩, 1, ⟨[1], [⟨1, 0, 0⟩]⟩, []⟩
theorem aw43a : (waysR exT payR dblC).2 = 0 ∧ (waysR exT payR dblC).1.length = 2 := by decide +kernel
theorem aw43b : (waysR exT payR slfC).2 = 0 ∧ (waysR exT payR slfC).1 = [] := by decide +kernel
theorem aw43c : (presR exT payR dblC).2 = 0 ∧ (presR exT payR dblC).1.kind = 3 ∧ (presR exT payR dblC).1.kids.length = 2 := by decide +kernel
theorem exT_fit : exT.Fit := ⟨by decide, by decide, by decide, by decide, by simp [exT]; exact ⟨⟨by decide, by decide, by decide⟩, ⟨by decide, by decide, by decide⟩⟩⟩
theorem dss_nil : DSs [] [] := ⟨rfl, fun i h => by simp at h⟩
theorem dss_cons {x y : List D} {xs ys : List (List D)} : DSs (x :: xs) (y :: ys) ↔ DS1 x y ∧ DSs xs ys := by
 constructor
 ·rintro ⟨h1, h2⟩
  exact ⟨h2 0 (by simp) (by simp), by simpa using h1, fun j g1 g2 => h2 (j + 1) (by simpa using g1) (by simpa using g2)⟩
 ·rintro ⟨h1, h2, h3⟩
  refine ⟨by simp [h2], fun j g1 g2 => ?_⟩
  match j with
  | 0 => exact h1
  | j + 1 => exact h3 j (by simpa using g1) (by simpa using g2)
theorem dsub_all {sz : Nat} {es es' : List (List D)} (h : DSs es es') : DSub (.sl sz es) (.sl sz es') := h.sub sz
theorem to_dss {p q : Nat → Prop} {fz : Option (Nat × Nat × List (List D))} {sz : Nat} {es es' : List (List D)} {o : Own} (h : DSs es es') : To p q fz (.osl sz es o) (.d (.sl sz es')) := .odsub (h.sub sz)
set_option maxRecDepth 100000 in
theorem example04_c (tok : Tks) (nt : Nat) : DCall Tryz.prog 31 [] tok nt exT.av tok nt := by
 intro box nb
 refine sB Tryz.func31 Tryz.ntmps31 ?_
 intro hbox htok
 simp only at hbox htok
 apply AL.start
 try (simp)
 repeat (refine sR ?_; simp)
 try refine ⟨rfl, ?_⟩
 try (simp)
 repeat (refine sR ?_; simp)
 try refine ⟨rfl, ?_⟩
 try (simp)
 repeat (refine sR ?_; simp)
 try refine ⟨rfl, ?_⟩
 try (simp)
 repeat (refine sR ?_; simp)
 try refine ⟨rfl, ?_⟩
 try (simp)
 repeat (refine sR ?_; simp)
 refine sT ?_
 try simp only [AU]
 refine ⟨by simp, sF hbox htok (fun _ h => h) (Nat.le_refl _) ?_⟩
 simp [packA, exT, nts, ets, atts, strs]
 exact to_dss (by simp [dss_cons, dss_nil, dsub_all, atts, strs])
set_option maxRecDepth 100000 in
theorem pay43_c (tok : Tks) (nt : Nat) : DCall Tryz.prog 32 [] tok nt payR.av tok nt := by
 intro box nb
 refine sB Tryz.func32 Tryz.ntmps32 ?_
 intro hbox htok
 simp only at hbox htok
 apply AL.start
 try (simp)
 repeat (refine sR ?_; simp)
 try refine ⟨rfl, ?_⟩
 try (simp)
 repeat (refine sR ?_; simp)
 try refine ⟨rfl, ?_⟩
 try (simp)
 repeat (refine sR ?_; simp)
 try refine ⟨rfl, ?_⟩
 try (simp)
 repeat (refine sR ?_; simp)
 try refine ⟨rfl, ?_⟩
 try (simp)
 repeat (refine sR ?_; simp)
 refine sT ?_
 try simp only [AU]
 refine ⟨by simp, sF hbox htok (fun _ h => h) (Nat.le_refl _) ?_⟩
 simp [packA, payR, cdOf, conds, ints, AM.edges, slots, tests, Cd.kind, Cd.kids, Cd.m, Cd.g, Cd.sl, Cd.vars, Cd.te, rI, rE]
set_option maxRecDepth 100000 in
theorem double43_c (tok : Tks) (nt : Nat) : DCall Tryz.prog 33 [] tok nt dblC.av tok nt := by
 intro box nb
 refine sB Tryz.func33 Tryz.ntmps33 ?_
 intro hbox htok
 simp only at hbox htok
 apply AL.start
 try (simp)
 repeat (refine sR ?_; simp)
 try refine ⟨rfl, ?_⟩
 try (simp)
 repeat (refine sR ?_; simp)
 try refine ⟨rfl, ?_⟩
 try (simp)
 repeat (refine sR ?_; simp)
 try refine ⟨rfl, ?_⟩
 try (simp)
 repeat (refine sR ?_; simp)
 try refine ⟨rfl, ?_⟩
 try (simp)
 repeat (refine sR ?_; simp)
 refine sT ?_
 try simp only [AU]
 refine ⟨by simp, sF hbox htok (fun _ h => h) (Nat.le_refl _) ?_⟩
 simp [packA, dblC, xts, cdOf, conds, ints, AM.edges, slots, tests, Cd.kind, Cd.kids, Cd.m, Cd.g, Cd.sl, Cd.vars, Cd.te]
theorem payR_fit : payR.Fit := ⟨⟨by decide, by decide⟩, ⟨by decide, by decide⟩, ⟨by decide, by decide⟩, ⟨by decide, by decide⟩, by rw [bigN_eq]; simp [payR], by rw [bigN_eq]; simp [payR], by rw [bigN_eq]; simp [payR], by rw [bigN_eq]; simp [payR]⟩
theorem dblC_fit : dblC.Fit := ⟨by decide, ⟨by decide, by decide⟩, by decide, by simp [dblC]⟩
theorem slfC_fit : slfC.Fit := ⟨by decide, ⟨by decide, by decide⟩, by decide, by simp [slfC]⟩
set_option maxRecDepth 100000 in
theorem awake43_c (tok : Tks) (nt : Nat) : DCall Tryz.prog 10 [] tok nt (B true) tok nt := by
 intro box nb
 have h1 := waysP_c exT exT_fit payR payR_fit dblC dblC_fit
 have h2 := preserveP_c exT exT_fit payR payR_fit dblC dblC_fit
 have h3 := waysP_c exT exT_fit payR payR_fit slfC slfC_fit
 have hE := example04_c
 have hP := pay43_c
 have hD := double43_c
 obtain ⟨a1, a2⟩ := aw43a
 obtain ⟨b1, b2⟩ := aw43b
 obtain ⟨c1, c2, c3⟩ := aw43c
 generalize waysR exT payR dblC = L at *
 generalize waysR exT payR slfC = M at *
 generalize presR exT payR dblC = R at *
 refine sB Tryz.func10 Tryz.ntmps10 ?_
 intro hbox htok
 simp only at hbox htok
 apply AL.start
 try (simp)
 repeat (refine sR ?_; simp)
 refine Stop.of_d (hE _ _) ?_
 simp
 try (simp)
 repeat (refine sR ?_; simp)
 refine Stop.of_d (hP _ _) ?_
 simp
 try (simp)
 repeat (refine sR ?_; simp)
 refine Stop.of_d (hD _ _) ?_
 simp
 try (simp)
 repeat (refine sR ?_; simp)
 refine Stop.of_d (h1 _ _) ?_
 simp
 try (simp)
 repeat (refine sR ?_; simp)
 refine Stop.of_d (hD _ _) ?_
 simp
 try (simp)
 repeat (refine sR ?_; simp)
 refine Stop.of_d (h2 _ _) ?_
 simp
 try (simp)
 repeat (refine sR ?_; simp)
 refine Stop.sub (args' := [exT.av, payR.av, slfC.av]) ⟨Sub.refl _, Sub.refl _, Sub.agg ⟨Sub.refl _, Sub.refl _, Sub.data _ _ _, Sub.data _ _ _, Sub.nil _ _ _, trivial⟩, trivial⟩ ?_
 refine Stop.of_d (h3 _ _) ?_
 simp
 try (simp [a1, a2, b1, b2, c1, c2, c3])
 repeat (first | (refine sR ?_; simp [a1, a2, b1, b2, c1, c2, c3]) | (refine sC ?_; simp [a1, a2, b1, b2, c1, c2, c3]) | (refine sX ?_; simp only [AU, ↓reduceIte]))
 refine sT ?_
 try simp only [AU]
 refine ⟨by simp, sF hbox htok (fun _ h => h) (Nat.le_refl _) ?_⟩
 simp [packA, a1, a2, b1, b2, c1, c2, c3]
end Go.AM
namespace Go.AM
open Go Go.Proofs
theorem fewM_fit2 {m : Mo} (h : fewM m 140 = true) : m.Fit := by
 simp [fewM] at h
 exact ⟨by omega, by omega⟩
theorem fewR_fit {r : Ru} (hb : r.Big) (h : fewR r = true) : r.Fit := by
 simp only [fewR, Bool.and_eq_true] at h
 exact ⟨fewG_fit h.1.1.1, fewG_fit h.1.1.2, fewM_fit2 h.1.2, fewM_fit2 h.2, hb.ls, hb.lt, hb.rs, hb.rt⟩
end Go.AM
namespace Go.AM
open Go Go.ChangeShapes
variable {P : Program}
def Rd (w : World) (cs : List Value) (ds : List D) : Prop := cs.length = ds.length ∧ ∀ i (h1 : i < cs.length) (h2 : i < ds.length), RVd w.cell? (fun _ => True) ds[i] cs[i]
theorem Rd.append {w : World} {cs cs' : List Value} {ds ds' : List D} (h : Rd w cs ds) (k : Rd w cs' ds') : Rd w (cs ++ cs') (ds ++ ds') := by
 refine ⟨by simp [h.1, k.1], fun i h1 h2 => ?_⟩
 by_cases hi : i < cs.length
 ·rw [List.getElem_append_left hi, List.getElem_append_left (by rw [← h.1]; exact hi)]
  exact h.2 i hi _
 ·have hl := h.1
  rw [List.getElem_append_right (by omega), List.getElem_append_right (by omega)]
  have := k.2 (i - cs.length) (by simp at h1; omega) (by have := k.1; simp at h1; omega)
  simpa [hl] using this
theorem Rd.one {w : World} {c : Value} {d : D} (h : RVd w.cell? (fun _ => True) d c) : Rd w [c] [d] := ⟨rfl, fun i h1 h2 => by
 have : i = 0 := by simpa using h1
 subst this
 exact h⟩
def Light {H : Type} (P : Program) (T : TypeId) (d : DataW H) : Prop := (d.weights P T).all (· ≤ reachBytes) = true
structure Rdr (P : Program) (T : TypeId) (α : Type) where
 enc : α → List D
 ok : α → Prop
 len : ∀ x, (enc x).length = P.cellsOf T
 sound : ∀ {H : Type} (e : TypeId × Value → H) (w : World) (base : Nat) (spare : Nat → Bool) (held : Bool) (fuel : Nat) (cs : List Value) (x : DataW H × List MemPlace),
  DataW.trod e P w base spare held fuel T cs = some x → ∃ y, Rd w cs (enc y) ∧ (Light P T x.1 → ok y)
def Rdr.int {T : TypeId} {k : IntKind} (h : P.underlying T = some (.int k)) (hc : P.cellsOf T = 1) : Rdr P T Int where
 enc n := [.raw (.int k n)]
 ok n := (Lit.int k n).wf = true
 len _ := by simp [hc]
 sound e w base spare held fuel cs x hx := by
  cases fuel with
  | zero => simp [DataW.trod] at hx
  | succ n =>
   unfold DataW.trod at hx
   rw [h] at hx
   split at hx <;> simp_all
   rename_i k' n' _
   exact ⟨n', Rd.one (.raw rfl), fun _ => hx.1.2⟩
theorem cells_spec {w : World} {base : Nat} {a : Addr} {n : Nat} {l : List Value} (h : w.cells? base a n = some l) : l.length = n ∧ ∀ i (hi : i < l.length), w.cell? (a.add i) = some l[i] := by
 unfold World.cells? at h
 split at h
 ·have h1 : l.length = n := by have := mapM_some_length h; simpa using this
  refine ⟨h1, fun i hi => ?_⟩
  have hin : i < n := by omega
  have := mapM_some_get h i i (by simp [hin])
  rw [this]
  exact List.getElem?_eq_getElem hi
 ·cases h
theorem light_slice {H : Type} {T E : TypeId} (h : P.underlying T = some (.slice E)) {elems rest : List (DataW H)} (hl : Light P T (.slice elems rest)) : elems.length * P.bytesOf E ≤ reachBytes ∧ ∀ d ∈ elems, Light P E d := by
 unfold Light at hl ⊢
 simp only [DataW.weights, h, List.all_cons, List.all_append, Bool.and_eq_true, decide_eq_true_eq] at hl
 refine ⟨Nat.le_trans (Nat.mul_le_mul_right _ (Nat.le_add_right _ _)) hl.1, ?_⟩
 have key : ∀ l : List (DataW H), (DataW.weightsAll P E l).all (· ≤ reachBytes) = true → ∀ d ∈ l, (d.weights P E).all (· ≤ reachBytes) = true := by
  intro l
  induction l with
  | nil => intro _ d hd; simp at hd
  | cons x l ih =>
   intro hx d hd
   simp only [DataW.weightsAll, List.all_append, Bool.and_eq_true] at hx
   rcases List.mem_cons.1 hd with rfl | hd
   ·exact hx.1
   ·exact ih hx.2 d hd
 exact key elems hl.2.1
def Rdr.slice {T E : TypeId} {α : Type} (r : Rdr P E α) (h : P.underlying T = some (.slice E)) (hc : P.cellsOf T = 1) : Rdr P T (List α) where
 enc l := [.sl (P.cellsOf E) (l.map r.enc)]
 ok l := (∀ x ∈ l, r.ok x) ∧ l.length * P.bytesOf E ≤ reachBytes
 len _ := by simp [hc]
 sound e w base spare held fuel cs x hx := by
  rcases DataW.trod_slice h hx with ⟨rfl, rfl⟩ | ⟨a, len, cap, elems, rest, n, rfl, rfl, rfl, hb, hl, hm, hel, hat, _⟩
  ·exact ⟨[], Rd.one (.sl (es := []) (fun _ _ => default) (Nat.le_refl _) (by decide) (by simp) (by simp) (by simp) (by simp)), fun _ => ⟨by simp, by simp⟩⟩
  ·have key : ∀ i (hi : i < elems.length), ∃ cs y, cs.length = P.cellsOf E ∧ (∀ j (hj : j < cs.length), w.cell? (a.add (i * P.cellsOf E + j)) = some cs[j]) ∧ Rd w cs (r.enc y) ∧ (Light P E elems[i].1 → r.ok y) := by
    intro i hi
    have h1 := hat i (by omega)
    have h2 : elems[i]? = some elems[i] := List.getElem?_eq_getElem hi
    rw [h2, Option.bind_eq_some_iff] at h1
    obtain ⟨cs, hcs, htr⟩ := h1
    obtain ⟨hcl, hcc⟩ := cells_spec hcs
    obtain ⟨y, hy, hok⟩ := r.sound e w base spare held n cs _ htr
    refine ⟨cs, y, hcl, fun j hj => ?_, hy, hok⟩
    rw [← Addr.add_add]
    exact hcc j hj
   have pick : ∀ m, m ≤ elems.length → ∃ ys : List α, ys.length = m ∧ (∀ i (hi : i < ys.length) (hi2 : i < elems.length), ∃ cs, cs.length = P.cellsOf E ∧ (∀ j (hj : j < cs.length), w.cell? (a.add (i * P.cellsOf E + j)) = some cs[j]) ∧ Rd w cs (r.enc ys[i]) ∧ (Light P E elems[i].1 → r.ok ys[i])) := by
    intro m
    induction m with
    | zero => intro _; exact ⟨[], rfl, fun i hi => by simp at hi⟩
    | succ m ih =>
     intro hm'
     obtain ⟨ys, hys, hall⟩ := ih (by omega)
     obtain ⟨cs, y, g1, g2, g3, g4⟩ := key m (by omega)
     refine ⟨ys ++ [y], by simp [hys], fun i hi hi2 => ?_⟩
     by_cases him : i < ys.length
     ·rw [List.getElem_append_left him]
      exact hall i him hi2
     ·have : i = m := by simp at hi; omega
      subst this
      have e1 : (ys ++ [y])[i] = y := by
       rw [List.getElem_append_right (by omega)]
       simp
      rw [e1]
      exact ⟨cs, g1, g2, g3, g4⟩
   obtain ⟨ys, hys, hall⟩ := pick elems.length (Nat.le_refl _)
   refine ⟨ys, Rd.one ?_, fun hli => ?_⟩
   ·have hlen : len = ys.length := by omega
    subst hlen
    have hml : ys.length = (ys.map r.enc).length := by simp
    rw [hml]
    refine .sl (fun i j => (w.cell? (a.add (i * P.cellsOf E + j))).getD default) (by simpa using hl) hm (fun e he => ?_) (fun _ => ⟨a, rfl⟩) (fun a' ha' i j hi hj => ?_) (fun i j hi hj => ?_)
    ·obtain ⟨y, _, rfl⟩ := List.mem_map.1 he
     exact r.len y
    ·cases ha'
     obtain ⟨cs, g1, g2, _⟩ := hall i (by simpa using hi) (by simp at hi; omega)
     rw [g2 j (by omega)]
     exact ⟨trivial, rfl⟩
    ·obtain ⟨cs, g1, g2, g3, _⟩ := hall i (by simpa using hi) (by simp at hi; omega)
     simp only [List.getElem_map] at hj ⊢
     have hjc : j < cs.length := by rw [g3.1]; exact hj
     rw [g2 j hjc]
     exact g3.2 j hjc hj
   ·obtain ⟨w1, w2⟩ := light_slice h hli
    refine ⟨fun y hy => ?_, by simpa [hys] using w1⟩
    obtain ⟨i, hi, rfl⟩ := List.getElem_of_mem hy
    obtain ⟨_, _, _, _, h4⟩ := hall i hi (by omega)
    exact h4 (w2 _ (List.mem_map.2 ⟨_, List.getElem_mem _, rfl⟩))
def Rdr.map {T : TypeId} {α β : Type} (r : Rdr P T α) (f : α → β) (enc : β → List D) (ok : β → Prop) (he : ∀ x, enc (f x) = r.enc x) (hok : ∀ x, r.ok x → ok (f x)) (hl : ∀ y, (enc y).length = P.cellsOf T) : Rdr P T β where
 enc := enc
 ok := ok
 len := hl
 sound e w base spare held fuel cs x hx := by
  obtain ⟨y, h1, h2⟩ := r.sound e w base spare held fuel cs x hx
  exact ⟨f y, by rw [he]; exact h1, fun hl => hok y (h2 hl)⟩
def Rdr.sliceN {T E : TypeId} {α : Type} (r : Rdr P E α) (n : Nat) (h : P.underlying T = some (.slice E)) (hc : P.cellsOf T = 1) (hn : P.cellsOf E = n) : Rdr P T (List α) where
 enc l := [.sl n (l.map r.enc)]
 ok l := (∀ x ∈ l, r.ok x) ∧ l.length * P.bytesOf E ≤ reachBytes
 len _ := by simp [hc]
 sound := by
  subst hn
  exact (Rdr.slice r h hc).sound
theorem list2 {α : Type} {l : List α} (h : l.length = 2) : l = [l[0]'(by omega), l[1]'(by omega)] := by
 match l, h with
 | [p, q], _ => rfl
theorem list3 {α : Type} {l : List α} (h : l.length = 3) : l = [l[0]'(by omega), l[1]'(by omega), l[2]'(by omega)] := by
 match l, h with
 | [p, q, r], _ => rfl
def Rdr.struct2 {T A B : TypeId} {α β : Type} (r : Rdr P A α) (s : Rdr P B β) {f0 f1 : Field} (h : P.underlying T = some (.struct #[f0, f1])) (hA : f0.type = A) (hB : f1.type = B) (h0 : f0.offset = 0) (h1 : f1.offset = P.cellsOf A)
  (hc : P.cellsOf T = P.cellsOf A + P.cellsOf B) : Rdr P T (α × β) where
 enc x := r.enc x.1 ++ s.enc x.2
 ok x := r.ok x.1 ∧ s.ok x.2
 len x := by simp [r.len, s.len, hc]
 sound e w base spare held fuel cs x hx := by
  obtain ⟨xs, n, rfl, rfl, hl, hxs, hat⟩ := DataW.trod_struct h hx
  have hxs' : xs.length = 2 := hxs
  have g0 := hat 0 f0 rfl
  have g1 := hat 1 f1 rfl
  have e0 : xs[0]? = some (xs[0]'(by omega)) := List.getElem?_eq_getElem (by omega)
  have e1 : xs[1]? = some (xs[1]'(by omega)) := List.getElem?_eq_getElem (by omega)
  rw [e0, h0, hA] at g0
  rw [e1, h1, hB] at g1
  obtain ⟨y, k1, k2⟩ := r.sound e w base spare held n _ _ g0
  obtain ⟨z, m1, m2⟩ := s.sound e w base spare held n _ _ g1
  refine ⟨(y, z), ?_, fun hli => ?_⟩
  rotate_left
  ·unfold Light at hli k2 m2
   have e2 : xs = [xs[0]'(by omega), xs[1]'(by omega)] := list2 hxs'
   rw [e2] at hli
   simp only [List.map_cons, List.map_nil, DataW.weights, h, DataW.weightsEach, hA, hB, List.all_append, Bool.and_eq_true] at hli
   exact ⟨k2 hli.1, m2 hli.2.1⟩
  have hcs : cs = (cs.drop 0).take (P.cellsOf A) ++ (cs.drop (P.cellsOf A)).take (P.cellsOf B) := by
   have : (cs.drop (P.cellsOf A)).take (P.cellsOf B) = cs.drop (P.cellsOf A) := List.take_of_length_le (by simp; omega)
   rw [this, List.drop_zero, List.take_append_drop]
  rw [hcs]
  exact k1.append m1
def Rdr.struct3 {T A B C : TypeId} {α β γ : Type} (r : Rdr P A α) (s : Rdr P B β) (t : Rdr P C γ) {f0 f1 f2 : Field} (h : P.underlying T = some (.struct #[f0, f1, f2])) (hA : f0.type = A) (hB : f1.type = B) (hC : f2.type = C)
  (h0 : f0.offset = 0) (h1 : f1.offset = P.cellsOf A) (h2 : f2.offset = P.cellsOf A + P.cellsOf B) (hc : P.cellsOf T = P.cellsOf A + P.cellsOf B + P.cellsOf C) : Rdr P T (α × β × γ) where
 enc x := r.enc x.1 ++ (s.enc x.2.1 ++ t.enc x.2.2)
 ok x := r.ok x.1 ∧ s.ok x.2.1 ∧ t.ok x.2.2
 len x := by simp [r.len, s.len, t.len, hc]; omega
 sound e w base spare held fuel cs x hx := by
  obtain ⟨xs, n, rfl, rfl, hl, hxs, hat⟩ := DataW.trod_struct h hx
  have hxs' : xs.length = 3 := hxs
  have g0 := hat 0 f0 rfl
  have g1 := hat 1 f1 rfl
  have g2 := hat 2 f2 rfl
  have e0 : xs[0]? = some (xs[0]'(by omega)) := List.getElem?_eq_getElem (by omega)
  have e1 : xs[1]? = some (xs[1]'(by omega)) := List.getElem?_eq_getElem (by omega)
  have e2 : xs[2]? = some (xs[2]'(by omega)) := List.getElem?_eq_getElem (by omega)
  rw [e0, h0, hA] at g0
  rw [e1, h1, hB] at g1
  rw [e2, h2, hC] at g2
  obtain ⟨y, k1, k2⟩ := r.sound e w base spare held n _ _ g0
  obtain ⟨z, m1, m2⟩ := s.sound e w base spare held n _ _ g1
  obtain ⟨q, p1, p2⟩ := t.sound e w base spare held n _ _ g2
  refine ⟨(y, z, q), ?_, fun hli => ?_⟩
  rotate_left
  ·unfold Light at hli k2 m2 p2
   have e2 : xs = [xs[0]'(by omega), xs[1]'(by omega), xs[2]'(by omega)] := list3 hxs'
   rw [e2] at hli
   simp only [List.map_cons, List.map_nil, DataW.weights, h, DataW.weightsEach, hA, hB, hC, List.all_append, Bool.and_eq_true] at hli
   exact ⟨k2 hli.1, m2 hli.2.1, p2 hli.2.2.1⟩
  have hcs : cs = (cs.drop 0).take (P.cellsOf A) ++ ((cs.drop (P.cellsOf A)).take (P.cellsOf B) ++ (cs.drop (P.cellsOf A + P.cellsOf B)).take (P.cellsOf C)) := by
   have : (cs.drop (P.cellsOf A + P.cellsOf B)).take (P.cellsOf C) = cs.drop (P.cellsOf A + P.cellsOf B) := List.take_of_length_le (by simp; omega)
   rw [this, ← List.drop_drop, List.take_append_drop, List.drop_zero, List.take_append_drop]
  rw [hcs]
  exact k1.append (m1.append p1)
def G0 : Gh := ⟨fun _ => none, fun _ => none, fun _ => .whole, 0⟩
def m0 : AMem := ⟨fun _ => none, 0, fun _ => false, 0⟩
theorem G0_ps (a : Addr) : G0.ps a := trivial
theorem relM_start (W : World) : RelM G0 m0 W := by
 constructor
 case box => intro k rows b sz h; cases h
 case nobox => intro k _; rfl
 case inj => intro k k' b sz sz' h; cases h
 case nb => intro k _; rfl
 case nt => rfl
 case toks => intro t h; cases h
 case tokb => intro t g h; cases h
 case tinj => intro t t' g h; cases h
 case tnt => intro t x h; cases h
 case fresh => intro b _; rfl
theorem RVd.start {W : World} {d : D} {v : Value} (h : RVd W.cell? (fun _ => True) d v) : RVd W.cell? G0.ps d v := h.mono fun a u _ hc => ⟨G0_ps a, hc⟩
theorem Rdr.agg {T : TypeId} {α : Type} (r : Rdr P T α) {W : World} {base base' : Nat} {sp : Nat → Bool} {held : Bool} {H : Type} {enc : TypeId × Value → H} {v : Value} {d : DataW H} {p : List MemPlace}
  (hs : aggT P T = some true) (hv : Value.okWide P W .any base T v) (h : DataW.Trod enc P W base' sp held T v d p) (hli : Light P T d) : ∃ y, r.ok y ∧ RV G0 W (.agg ((r.enc y).map .d)) v := by
 have hcs : ∃ cs, v = .agg cs := by
  unfold aggT at hs
  unfold Value.okWide at hv
  cases hu : P.underlying T with
  | none => rw [hu] at hs; simp at hs
  | some u =>
   rw [hu] at hs hv
   cases u <;> simp at hs hv <;> exact ⟨_, hv.choose_spec.1⟩
 obtain ⟨cs, rfl⟩ := hcs
 obtain ⟨fuel, h⟩ := h
 obtain ⟨y, ⟨h1, h2⟩, hok⟩ := r.sound enc W base' sp held fuel _ _ h
 refine ⟨y, hok hli, ?_⟩
 simp only [Value.cells] at h1 h2
 have := RV.agg (G := G0) (w := W) (cs := (r.enc y).map .d) (vs := cs.toList) (by simp [h1]) (fun i g1 g2 => by
  simp only [List.getElem_map]
  exact .d (h2 i g2 (by simpa using g1)).start) (fun v hv => by
  obtain ⟨i, hi, rfl⟩ := List.getElem_of_mem hv
  exact (h2 i hi (by omega)).one)
 simpa using this
theorem Rdr.cell {T : TypeId} {α : Type} (r : Rdr P T α) {W : World} {base base' : Nat} {sp : Nat → Bool} {held : Bool} {H : Type} {enc : TypeId × Value → H} {v : Value} {d : DataW H} {p : List MemPlace} (f : α → D)
  (hs : aggT P T = some false) (hf : ∀ y, r.enc y = [f y]) (hv : Value.okWide P W .any base T v) (h : DataW.Trod enc P W base' sp held T v d p) (hli : Light P T d) : ∃ y, r.ok y ∧ RV G0 W (.d (f y)) v := by
 obtain ⟨fuel, h⟩ := h
 obtain ⟨y, ⟨h1, h2⟩, hok⟩ := r.sound enc W base' sp held fuel _ _ h
 refine ⟨y, hok hli, ?_⟩
 rw [hf] at h1
 have hcs : v.cells.toList = [v] := by
  cases v with
  | agg cs =>
   exfalso
   unfold aggT at hs
   unfold Value.okWide Cell.okWide Cell.ok at hv
   cases hu : P.underlying T with
   | none => rw [hu] at hs; simp at hs
   | some u =>
    rw [hu] at hs hv
    cases u <;> simp_all
  | _ => rfl
 have := h2 0 (by rw [h1]; simp) (by rw [hf]; simp)
 simp only [hf, List.getElem_cons_zero] at this
 have e : v.cells.toList[0]'(by rw [h1]; simp) = v := by simp [hcs]
 rw [e] at this
 exact .d this.start
theorem light_arg {H : Type} {ts : List TypeId} {ds : List (DataW H)} (hz : (DataW.weightsEach P ts ds).all (· ≤ reachBytes) = true) {j : Nat} {T : TypeId} {d : DataW H} (ht : ts[j]? = some T) (hd : ds[j]? = some d) : Light P T d :=
 List.all_eq_true.2 fun x hx => List.all_eq_true.1 hz x (DataW.weights_mem_each ht hd x hx)
theorem arg_agg {ps : Array TypeId} {args : Array Value} {W : World} {base base' : Nat} {sp : Nat → Bool} {held : Bool} {H : Type} {enc : TypeId × Value → H} (hval : ∀ (j : Nat) t v, ps[j]? = some t → args[j]? = some v → Value.okWide P W .any base t v)
  (j : Nat) (T : TypeId) (v : Value) (hp : ps[j]? = some T) (ha : args[j]? = some v) {α : Type} (r : Rdr P T α) {d : DataW H} {p : List MemPlace} (hs : aggT P T = some true) (h : DataW.Trod enc P W base' sp held T v d p) (hli : Light P T d) :
  ∃ y, r.ok y ∧ RV G0 W (.agg ((r.enc y).map .d)) v := r.agg hs (hval j T v hp ha) h hli
theorem le_old {W W' : World} {G' : Gh} (h : Le G0 W G' W') (b : Nat) (hb : b < W.heap.size) : W'.heap[b]? = W.heap[b]? := (h.whole b hb rfl).2
theorem le_kept {W W' : World} {G' : Gh} (h : Le G0 W G' W') (may : MemPlace → Prop) : W.keptBut W' may := by
 refine ⟨h.os, h.output, fun i hi => ?_⟩
 rw [le_old h i hi]
 split
 ·rename_i c t fr c' t' fr' e1 e2
  rw [e1] at e2
  cases e2
  exact ⟨rfl, rfl, rfl, fun _ _ => rfl⟩
 ·rename_i e1 e2
  rw [e1] at e2
  cases e2
  exact .inr ⟨rfl, rfl⟩
 ·rfl
theorem le_same {W W' : World} {G' : Gh} (h : Le G0 W G' W') {p : MemPlace} (hp : p.block < W.heap.size) : W.sameAt W' p := by
 cases p with
 | cell b off => exact World.cell?_of_block (w := W) (a := ⟨b, off, none⟩) (le_old h b hp)
 | map b => exact le_old h b hp
theorem trodAll_stays {H : Type} {enc : TypeId × Value → H} {W W' : World} {T : TypeId → Prop} {sp' : Nat → Bool} (K : Kids P T) (hsz : ∀ {t e : TypeId}, T t → P.underlying t = some (.slice e) → 0 < P.cellsOf e) :
  ∀ {ts : List TypeId} {vs : List Value} {ds : List (DataW H)} {ps : List MemPlace}, (∀ t ∈ ts, T t) → DataW.TrodAll enc P W 0 (fun _ => true) true ts vs ds ps → (∀ p ∈ ps, W.sameAt W' p) → (∀ p ∈ ps, sp' p.block = true) →
  DataW.TrodAll enc P W' 0 sp' true ts vs ds ps
 | [], [], [], _, _, h, _, _ => h
 | t :: ts, v :: vs, d :: ds, _, hT, ⟨p, q, ⟨n, hn⟩, h2, e⟩, h3, h4 => by
  subst e
  exact ⟨p, q, ⟨n, DataW.trod_stays K hsz (fun h => by cases h) (hT t (by simp)) hn (fun x hx => h3 x (by simp [hx])) (fun x hx => h4 x (by simp [hx]))⟩,
   trodAll_stays K hsz (fun t ht => hT t (by simp [ht])) h2 (fun x hx => h3 x (by simp [hx])) (fun x hx => h4 x (by simp [hx])), rfl⟩
theorem law_of {f : FuncId} {fn : Func} {s : ChangeSpec} {H : Type} {enc : TypeId × Value → H} {W : World} {args : Array Value} {ds : List (DataW H)} {before : List MemPlace} {avs : List AV} {tok' : Nat → Bool} {nt' : Nat}
  (hl : laidOutB P = true) (hm : mapsRowed P = true) (hz : ((List.range P.types.size).all fun t => match P.underlying t with | some (.slice e) => decide (0 < P.cellsOf e) | _ => true) = true)
  (hpar : fn.params.all (· < P.types.size) = true) {tb : TypeId} (hres : fn.resultTypes = #[tb]) (hb : P.underlying tb = some .bool)
  (hvars : s.vars = []) (hfn : s.fn H ds = { results := [.lit (.bool true)], args := ds })
  (hW : DataW.Whole enc P fn.params.toList s.vars false W args.toList ds [] before) (hr : RVs G0 W avs args.toList) (hc : DCall P f avs (fun _ => false) 0 (B true) tok' nt') :
  Calls P f args W fun e W' => ∃ v, e = .returned v ∧ s.post enc P fn false true false false W args v W' := by
 have hcall := (hc (fun _ => none) 0).2 G0 W args.toList (relM_start W) hr
 simp only [Array.toArray_toList] at hcall
 refine hcall.mono ?_
 rintro e W' ⟨v, av, m', G', rfl, ⟨rfl, rfl⟩, _, _, hv, hle, _⟩
 cases hv with
 | d hv =>
  cases hv with
  | raw =>
   refine ⟨_, rfl, ?_⟩
   have hlt := hW.lt
   have hWW := hW
   obtain ⟨p, q, hA, hV, rfl, hfz, hnd⟩ := hW
   rw [hvars] at hV
   obtain ⟨_, rfl⟩ := trodVars_none hV
   simp only [List.append_nil] at hlt hfz hWW ⊢
   have hT : ∀ t ∈ fn.params.toList, t < P.types.size := fun t ht => by
    have := Array.all_eq_true_iff_forall_mem.1 hpar t (by simpa using ht)
    simpa using this
   have hsz : ∀ {t e : TypeId}, t < P.types.size → P.underlying t = some (.slice e) → 0 < P.cellsOf e := by
    intro t e ht hu
    have := List.all_eq_true.1 hz t (List.mem_range.2 ht)
    rw [hu] at this
    simpa using this
   have hargs : ∀ sp : Nat → Bool, (∀ x ∈ p, sp x.block = true) → DataW.TrodAll enc P W' 0 sp true fn.params.toList args.toList ds p := fun sp hsp =>
    trodAll_stays (kids_rows hl hm) hsz hT hA (fun x hx => le_same hle (hlt x hx)) hsp
   have hnat : (Value.bool true).resultList fn.resultTypes.size = [.bool true] := by rw [hres]; rfl
   have hresb : ∀ (b : Nat) (sp : Nat → Bool) (hd : Bool), DataW.TrodAll enc P W' b sp hd fn.resultTypes.toList ((Value.bool true).resultList fn.resultTypes.size) [.lit (.bool true)] [] := fun b sp hd => by
    rw [hnat, hres]
    exact trodAll_mk1 ⟨1, by simp [DataW.trod, hb, Value.cells]⟩
   have hfn' : s.fn H (ds ++ []) = { results := [.lit (.bool true)], args := ds } := by rw [List.append_nil]; exact hfn
   refine ⟨ds, [], p, [], p, [], hWW, ?_, ?_, ?_, World.keptBut_mono (fun _ f => f.elim) (le_kept hle fun _ => False), fun h => by cases h⟩
   ·rw [hfn']; exact hresb _ _ _
   ·rw [hfn']; exact hargs _ fun x hx => by simpa using hlt x hx
   ·rw [hfn', hvars]; exact rfl
end Go.AM
namespace Go.AM
open Go Go.Proofs
theorem own0 : ownKnob Tryz.prog.godebug = none := by kernel_rfl
theorem laidOut0 : laidOutB Tryz.prog = true := by kernel_rfl
theorem mapsRowed0 : mapsRowed Tryz.prog = true := by kernel_rfl
theorem slices0 : ((List.range Tryz.prog.types.size).all fun t => match Tryz.prog.underlying t with | some (.slice e) => decide (0 < Tryz.prog.cellsOf e) | _ => true) = true := by kernel_rfl
def rdInt : Rdr Tryz.prog 3 Int := Rdr.int (k := .i64) Tryz.underlying3 (by kernel_rfl)
def rdInts : Rdr Tryz.prog 26 (List Int) := rdInt.sliceN 1 Tryz.underlying26 (by kernel_rfl) (by kernel_rfl)
def rdEdge0 : Rdr Tryz.prog 88 (Int × Int × Int) := Rdr.struct3 rdInt rdInt rdInt Tryz.underlying88 rfl rfl rfl rfl (by kernel_rfl) (by kernel_rfl) (by kernel_rfl)
def rdEdge : Rdr Tryz.prog 88 E := rdEdge0.map (fun x => ⟨x.1, x.2.1, x.2.2⟩) E.cells (fun _ => True) (fun _ => rfl) (fun _ _ => trivial) (fun _ => by kernel_rfl)
def rdEdges : Rdr Tryz.prog 27 (List E) := rdEdge.sliceN 3 Tryz.underlying27 (by kernel_rfl) (by kernel_rfl)
def rdGraph0 : Rdr Tryz.prog 29 (List Int × List E) := Rdr.struct2 rdInts rdEdges Tryz.underlying29 rfl rfl rfl (by kernel_rfl) (by kernel_rfl)
end Go.AM
namespace Go.AM
open Go Go.Proofs Go.ChangeShapes
structure RdF (P : Program) (T : TypeId) {α : Type} (en : α → List D) (ok : α → Prop) (n : Nat) : Prop where
 sound : ∀ {H : Type} (e : TypeId × Value → H) (w : World) (base : Nat) (spare : Nat → Bool) (held : Bool) (cs : List Value) (x : DataW H × List MemPlace),
  DataW.trod e P w base spare held n T cs = some x → ∃ y, Rd w cs (en y) ∧ (Light P T x.1 → ok y)
theorem Rdr.f {P : Program} {T : TypeId} {α : Type} (r : Rdr P T α) (n : Nat) : RdF P T r.enc r.ok n := ⟨fun e w base spare held cs x hx => r.sound e w base spare held n cs x hx⟩
theorem RdF.zero {P : Program} {T : TypeId} {α : Type} {en : α → List D} {ok : α → Prop} : RdF P T en ok 0 := ⟨fun e w base spare held cs x hx => by simp [DataW.trod] at hx⟩
def Rdr.ofF {P : Program} {T : TypeId} {α : Type} (en : α → List D) (ok : α → Prop) (len : ∀ x, (en x).length = P.cellsOf T) (h : ∀ n, RdF P T en ok n) : Rdr P T α := ⟨en, ok, len, fun e w base spare held n cs x hx => (h n).sound e w base spare held cs x hx⟩
theorem RdF.slice {P : Program} {T E : TypeId} {α : Type} {en : α → List D} {ok : α → Prop} {n : Nat} (r : RdF P E en ok n) (k : Nat) (hk : P.cellsOf E = k) (hlen : ∀ x, (en x).length = k) (h : P.underlying T = some (.slice E)) :
  RdF P T (fun l : List α => [.sl k (l.map en)]) (fun l => (∀ x ∈ l, ok x) ∧ l.length * P.bytesOf E ≤ reachBytes) (n + 1) := by
 subst hk
 constructor
 intro H e w base spare held cs x hx
 rcases DataW.trod_slice h hx with ⟨rfl, rfl⟩ | ⟨a, len, cap, elems, rest, n', hn', rfl, rfl, hb, hl, hm, hel, hat, _⟩
 ·exact ⟨[], Rd.one (.sl (es := []) (fun _ _ => default) (Nat.le_refl _) (by decide) (by simp) (by simp) (by simp) (by simp)), fun _ => ⟨by simp, by simp⟩⟩
 ·obtain rfl : n' = n := by omega
  have key : ∀ i (hi : i < elems.length), ∃ cs y, cs.length = P.cellsOf E ∧ (∀ j (hj : j < cs.length), w.cell? (a.add (i * P.cellsOf E + j)) = some cs[j]) ∧ Rd w cs (en y) ∧ (Light P E elems[i].1 → ok y) := by
   intro i hi
   have h1 := hat i (by omega)
   have h2 : elems[i]? = some elems[i] := List.getElem?_eq_getElem hi
   rw [h2, Option.bind_eq_some_iff] at h1
   obtain ⟨cs, hcs, htr⟩ := h1
   obtain ⟨hcl, hcc⟩ := cells_spec hcs
   obtain ⟨y, hy, hok⟩ := r.sound e w base spare held cs _ htr
   refine ⟨cs, y, hcl, fun j hj => ?_, hy, hok⟩
   rw [← Addr.add_add]
   exact hcc j hj
  have pick : ∀ m, m ≤ elems.length → ∃ ys : List α, ys.length = m ∧ (∀ i (hi : i < ys.length) (hi2 : i < elems.length), ∃ cs, cs.length = P.cellsOf E ∧ (∀ j (hj : j < cs.length), w.cell? (a.add (i * P.cellsOf E + j)) = some cs[j]) ∧ Rd w cs (en ys[i]) ∧ (Light P E elems[i].1 → ok ys[i])) := by
   intro m
   induction m with
   | zero => intro _; exact ⟨[], rfl, fun i hi => by simp at hi⟩
   | succ m ih =>
    intro hm'
    obtain ⟨ys, hys, hall⟩ := ih (by omega)
    obtain ⟨cs, y, g1, g2, g3, g4⟩ := key m (by omega)
    refine ⟨ys ++ [y], by simp [hys], fun i hi hi2 => ?_⟩
    by_cases him : i < ys.length
    ·rw [List.getElem_append_left him]
     exact hall i him hi2
    ·have : i = m := by simp at hi; omega
     subst this
     have e1 : (ys ++ [y])[i] = y := by
      rw [List.getElem_append_right (by omega)]
      simp
     rw [e1]
     exact ⟨cs, g1, g2, g3, g4⟩
  obtain ⟨ys, hys, hall⟩ := pick elems.length (Nat.le_refl _)
  refine ⟨ys, Rd.one ?_, fun hli => ?_⟩
  ·have hlen' : len = ys.length := by omega
   subst hlen'
   have hml : ys.length = (ys.map en).length := by simp
   rw [hml]
   refine .sl (fun i j => (w.cell? (a.add (i * P.cellsOf E + j))).getD default) (by simpa using hl) hm (fun e he => ?_) (fun _ => ⟨a, rfl⟩) (fun a' ha' i j hi hj => ?_) (fun i j hi hj => ?_)
   ·obtain ⟨y, _, rfl⟩ := List.mem_map.1 he
    exact hlen y
   ·cases ha'
    obtain ⟨cs, g1, g2, _⟩ := hall i (by simpa using hi) (by simp at hi; omega)
    rw [g2 j (by omega)]
    exact ⟨trivial, rfl⟩
   ·obtain ⟨cs, g1, g2, g3, _⟩ := hall i (by simpa using hi) (by simp at hi; omega)
    simp only [List.getElem_map] at hj ⊢
    have hjc : j < cs.length := by rw [g3.1]; exact hj
    rw [g2 j hjc]
    exact g3.2 j hjc hj
  ·obtain ⟨w1, w2⟩ := light_slice h hli
   refine ⟨fun y hy => ?_, by simpa [hys] using w1⟩
   obtain ⟨i, hi, rfl⟩ := List.getElem_of_mem hy
   obtain ⟨_, _, _, _, h4⟩ := hall i hi (by omega)
   exact h4 (w2 _ (List.mem_map.2 ⟨_, List.getElem_mem _, rfl⟩))
theorem list4 {α : Type} {l : List α} (h : l.length = 4) : l = [l[0]'(by omega), l[1]'(by omega), l[2]'(by omega), l[3]'(by omega)] := by
 match l, h with
 | [p, q, r, s], _ => rfl
theorem RdF.struct4 {P : Program} {T A B C E : TypeId} {α β γ δ : Type} {ea : α → List D} {eb : β → List D} {ec : γ → List D} {ed : δ → List D} {oa : α → Prop} {ob : β → Prop} {oc : γ → Prop} {od : δ → Prop} {n : Nat}
  (r : RdF P A ea oa n) (s : RdF P B eb ob n) (t : RdF P C ec oc n) (u : RdF P E ed od n) {f0 f1 f2 f3 : Field} (h : P.underlying T = some (.struct #[f0, f1, f2, f3])) (hA : f0.type = A) (hB : f1.type = B) (hC : f2.type = C) (hE : f3.type = E)
  (h0 : f0.offset = 0) (h1 : f1.offset = P.cellsOf A) (h2 : f2.offset = P.cellsOf A + P.cellsOf B) (h3 : f3.offset = P.cellsOf A + P.cellsOf B + P.cellsOf C) (hc : P.cellsOf T = P.cellsOf A + P.cellsOf B + P.cellsOf C + P.cellsOf E) :
  RdF P T (fun x : α × β × γ × δ => ea x.1 ++ (eb x.2.1 ++ (ec x.2.2.1 ++ ed x.2.2.2))) (fun x => oa x.1 ∧ ob x.2.1 ∧ oc x.2.2.1 ∧ od x.2.2.2) (n + 1) := by
 constructor
 intro H e w base spare held cs x hx
 obtain ⟨xs, n', hn', rfl, hl, hxs, hat⟩ := DataW.trod_struct h hx
 obtain rfl : n' = n := by omega
 have hxs' : xs.length = 4 := hxs
 have g0 := hat 0 f0 rfl
 have g1 := hat 1 f1 rfl
 have g2 := hat 2 f2 rfl
 have g3 := hat 3 f3 rfl
 have e0 : xs[0]? = some (xs[0]'(by omega)) := List.getElem?_eq_getElem (by omega)
 have e1 : xs[1]? = some (xs[1]'(by omega)) := List.getElem?_eq_getElem (by omega)
 have e2 : xs[2]? = some (xs[2]'(by omega)) := List.getElem?_eq_getElem (by omega)
 have e3 : xs[3]? = some (xs[3]'(by omega)) := List.getElem?_eq_getElem (by omega)
 rw [e0, h0, hA] at g0
 rw [e1, h1, hB] at g1
 rw [e2, h2, hC] at g2
 rw [e3, h3, hE] at g3
 obtain ⟨y, k1, k2⟩ := r.sound e w base spare held _ _ g0
 obtain ⟨z, m1, m2⟩ := s.sound e w base spare held _ _ g1
 obtain ⟨q, p1, p2⟩ := t.sound e w base spare held _ _ g2
 obtain ⟨v, q1, q2⟩ := u.sound e w base spare held _ _ g3
 refine ⟨(y, z, q, v), ?_, fun hli => ?_⟩
 rotate_left
 ·unfold Light at hli k2 m2 p2 q2
  have e2 : xs = [xs[0]'(by omega), xs[1]'(by omega), xs[2]'(by omega), xs[3]'(by omega)] := list4 hxs'
  rw [e2] at hli
  simp only [List.map_cons, List.map_nil, DataW.weights, h, DataW.weightsEach, hA, hB, hC, hE, List.all_append, Bool.and_eq_true] at hli
  exact ⟨k2 hli.1, m2 hli.2.1, p2 hli.2.2.1, q2 hli.2.2.2.1⟩
 have hcs : cs = (cs.drop 0).take (P.cellsOf A) ++ ((cs.drop (P.cellsOf A)).take (P.cellsOf B) ++ ((cs.drop (P.cellsOf A + P.cellsOf B)).take (P.cellsOf C) ++ (cs.drop (P.cellsOf A + P.cellsOf B + P.cellsOf C)).take (P.cellsOf E))) := by
  have : (cs.drop (P.cellsOf A + P.cellsOf B + P.cellsOf C)).take (P.cellsOf E) = cs.drop (P.cellsOf A + P.cellsOf B + P.cellsOf C) := List.take_of_length_le (by simp; omega)
  rw [this]
  have e3 := List.take_append_drop (P.cellsOf C) (cs.drop (P.cellsOf A + P.cellsOf B))
  have e2 := List.take_append_drop (P.cellsOf B) (cs.drop (P.cellsOf A))
  rw [List.drop_drop] at e3 e2
  rw [e3, e2, List.drop_zero, List.take_append_drop]
 rw [hcs]
 exact k1.append (m1.append (p1.append q1))
theorem by_int : Tryz.prog.bytesOf 3 = 8 := by kernel_rfl
theorem by_edge : Tryz.prog.bytesOf 88 = 24 := by kernel_rfl
theorem by_slot : Tryz.prog.bytesOf 105 = 32 := by kernel_rfl
theorem by_test : Tryz.prog.bytesOf 107 = 40 := by kernel_rfl
theorem by_cond : Tryz.prog.bytesOf 39 = 184 := by kernel_rfl
theorem rdInts_ok {l : List Int} (h : rdInts.ok l) : l.length ≤ bigN := by
 have h2 : l.length * Tryz.prog.bytesOf 3 ≤ reachBytes := h.2
 rw [by_int] at h2; unfold reachBytes at h2; rw [bigN_eq]; omega
theorem rdEdges_ok {l : List E} (h : rdEdges.ok l) : l.length ≤ bigN := by
 have h2 : l.length * Tryz.prog.bytesOf 88 ≤ reachBytes := h.2
 rw [by_edge] at h2; unfold reachBytes at h2; rw [bigN_eq]; omega
structure Gr.Big (g : Gr) : Prop where
 n : g.nodes.length ≤ bigN
 e : g.edges.length ≤ bigN
def rdGraphB : Rdr Tryz.prog 29 Gr := rdGraph0.map (fun x => ⟨x.1, x.2⟩) (fun g => [ints g.nodes, AM.edges g.edges]) Gr.Big (fun _ => rfl) (fun _ h => ⟨rdInts_ok h.1, rdEdges_ok h.2⟩) (fun _ => by kernel_rfl)
def rdMorph0 : Rdr Tryz.prog 36 (List Int × List Int) := Rdr.struct2 rdInts rdInts Tryz.underlying36 rfl rfl rfl (by kernel_rfl) (by kernel_rfl)
def rdTerm : Rdr Tryz.prog 103 (Int × Int) := Rdr.struct2 rdInt rdInt Tryz.underlying103 rfl rfl rfl (by kernel_rfl) (by kernel_rfl)
def rdSlot0 : Rdr Tryz.prog 105 (Int × Int × Int × Int) := Rdr.struct3 rdInt rdInt rdTerm Tryz.underlying105 rfl rfl rfl rfl (by kernel_rfl) (by kernel_rfl) (by kernel_rfl)
def rdSlot : Rdr Tryz.prog 105 Sl := rdSlot0.map (fun x => ⟨x.1, x.2.1, x.2.2.1, x.2.2.2⟩) Sl.cells (fun _ => True) (fun _ => rfl) (fun _ _ => trivial) (fun _ => by kernel_rfl)
def rdSlots : Rdr Tryz.prog 30 (List Sl) := rdSlot.sliceN 4 Tryz.underlying30 (by kernel_rfl) (by kernel_rfl)
def rdTest0 : Rdr Tryz.prog 107 (Int × (Int × Int) × (Int × Int)) := Rdr.struct3 rdInt rdTerm rdTerm Tryz.underlying107 rfl rfl rfl rfl (by kernel_rfl) (by kernel_rfl) (by kernel_rfl)
def rdTest : Rdr Tryz.prog 107 Te := rdTest0.map (fun x => ⟨x.1, x.2.1.1, x.2.1.2, x.2.2.1, x.2.2.2⟩) Te.cells (fun _ => True) (fun _ => rfl) (fun _ _ => trivial) (fun _ => by kernel_rfl)
def rdTests : Rdr Tryz.prog 31 (List Te) := rdTest.sliceN 5 Tryz.underlying31 (by kernel_rfl) (by kernel_rfl)
theorem rdPat_n (n : Nat) : RdF Tryz.prog 33 (fun x : Gr × List Sl × Int × List Te => rdGraphB.enc x.1 ++ (rdSlots.enc x.2.1 ++ (rdInt.enc x.2.2.1 ++ rdTests.enc x.2.2.2))) (fun x => rdGraphB.ok x.1 ∧ rdSlots.ok x.2.1 ∧ rdInt.ok x.2.2.1 ∧ rdTests.ok x.2.2.2) n := by
 cases n with
 | zero => exact .zero
 | succ n => exact RdF.struct4 (rdGraphB.f n) (rdSlots.f n) (rdInt.f n) (rdTests.f n) Tryz.underlying33 rfl rfl rfl rfl rfl (by kernel_rfl) (by kernel_rfl) (by kernel_rfl) (by kernel_rfl)
def rdPat : Rdr Tryz.prog 33 (Gr × List Sl × Int × List Te) := Rdr.ofF _ _ (fun x => by simp [rdGraphB.len, rdSlots.len, rdInt.len, rdTests.len]; kernel_rfl) rdPat_n
def Cd.rowD (c : Cd) : List D := [.raw (.int .i64 c.kind), conds c.kids, ints c.m.nodes, ints c.m.edges, ints c.g.nodes, AM.edges c.g.edges, slots c.sl, .raw (.int .i64 c.vars), tests c.te]
theorem rdCd_n : ∀ n, RdF Tryz.prog 39 Cd.cells Cd.Big n
 | 0 => .zero
 | 1 => by
  constructor
  intro H e w base spare held cs x hx
  obtain ⟨xs, n', hn', rfl, hl, hxs, hat⟩ := DataW.trod_struct Tryz.underlying39 hx
  obtain rfl : n' = 0 := by omega
  have g0 := hat 0 _ rfl
  simp [DataW.trod] at g0
  subst g0
  simp at hxs
 | n + 2 => by
  have ih := rdCd_n n
  have hk := ih.slice 9 (by kernel_rfl) (fun c => by rw [c.cells_eq]; rfl) (T := 37) Tryz.underlying37
  have hs := RdF.struct4 (rdInt.f (n + 1)) hk (rdMorph0.f (n + 1)) (rdPat.f (n + 1)) Tryz.underlying39 rfl rfl rfl rfl rfl (by kernel_rfl) (by kernel_rfl) (by kernel_rfl) (by kernel_rfl)
  constructor
  intro H e w base spare held cs x hx
  obtain ⟨y, h1, h2⟩ := hs.sound e w base spare held cs x hx
  refine ⟨.mk y.1 y.2.1 ⟨y.2.2.1.1, y.2.2.1.2⟩ y.2.2.2.1 y.2.2.2.2.1 y.2.2.2.2.2.1 y.2.2.2.2.2.2, ?_, fun hli => ?_⟩
  ·rw [Cd.cells_eq]
   exact h1
  ·obtain ⟨_, ⟨k1, k2⟩, ⟨m1, m2⟩, g1, s1, _, t1⟩ := h2 hli
   have g2 : y.2.2.2.1.Big := g1
   have s2 : y.2.2.2.2.1.length * Tryz.prog.bytesOf 105 ≤ reachBytes := s1.2
   have t2 : y.2.2.2.2.2.2.length * Tryz.prog.bytesOf 107 ≤ reachBytes := t1.2
   rw [by_slot] at s2
   rw [by_test] at t2
   rw [by_cond] at k2
   unfold reachBytes at s2 t2 k2
   exact .mk (by rw [kidN_eq]; simp only [Cd.kids]; omega) (rdInts_ok m1) (rdInts_ok m2) g2.n g2.e (by rw [bigN_eq]; simp only [Cd.sl]; omega) (by rw [bigN_eq]; simp only [Cd.te]; omega) k1
theorem rdCd_len (c : Cd) : c.cells.length = Tryz.prog.cellsOf 39 := by rw [c.cells_eq]; kernel_rfl
def rdCd : Rdr Tryz.prog 39 Cd := Rdr.ofF Cd.cells Cd.Big rdCd_len rdCd_n
set_option maxRecDepth 100000 in
theorem arg_cond {ps : Array TypeId} {args : Array Value} {W : World} {base base' : Nat} {sp : Nat → Bool} {held : Bool} {H : Type} {enc : TypeId × Value → H} (hval : ∀ (j : Nat) t v, ps[j]? = some t → args[j]? = some v → Value.okWide Tryz.prog W .any base t v)
  (j : Nat) (v : Value) (hp : ps[j]? = some 39) (ha : args[j]? = some v) {d : DataW H} {p : List MemPlace} (h : DataW.Trod enc Tryz.prog W base' sp held 39 v d p) (hli : Light Tryz.prog 39 d) : ∃ c : Cd, c.Big ∧ RV G0 W c.av v := by
 refine Exists.elim (arg_agg hval j 39 v hp ha rdCd aggT_39 h hli) fun c hc => ⟨c, hc.1, ?_⟩
 have h2 : RV G0 W (.agg (c.cells.map .d)) v := hc.2
 rw [c.cells_eq] at h2
 exact h2
end Go.AM
namespace Go.AM
open Go Go.Proofs Go.ChangeShapes
def Rdr.str {P : Program} {T : TypeId} (h : P.underlying T = some .string) (hc : P.cellsOf T = 1) : Rdr P T ByteArray where
 enc n := [.raw (.string n)]
 ok n := n.size ≤ maxLen
 len _ := by simp [hc]
 sound e w base spare held fuel cs x hx := by
  cases fuel with
  | zero => simp [DataW.trod] at hx
  | succ n =>
   unfold DataW.trod at hx
   rw [h] at hx
   split at hx <;> simp_all
   exact ⟨_, Rd.one (.raw rfl), fun _ => hx.1⟩
def Rdr.bool {P : Program} {T : TypeId} (h : P.underlying T = some .bool) (hc : P.cellsOf T = 1) : Rdr P T Bool where
 enc n := [.raw (.bool n)]
 ok n := True
 len _ := by simp [hc]
 sound e w base spare held fuel cs x hx := by
  cases fuel with
  | zero => simp [DataW.trod] at hx
  | succ n =>
   unfold DataW.trod at hx
   rw [h] at hx
   split at hx <;> first | (simp_all; done) | skip
   exact ⟨_, Rd.one (.raw rfl), fun _ => trivial⟩
theorem list7 {α : Type} {l : List α} (h : l.length = 7) : l = [l[0]'(by omega), l[1]'(by omega), l[2]'(by omega), l[3]'(by omega), l[4]'(by omega), l[5]'(by omega), l[6]'(by omega)] := by
 match l, h with
 | [p0, p1, p2, p3, p4, p5, p6], _ => rfl
theorem RdF.struct7 {P : Program} {T T0 T1 T2 T3 T4 T5 T6 : TypeId} {a0 a1 a2 a3 a4 a5 a6 : Type} {e0 : a0 → List D} {e1 : a1 → List D} {e2 : a2 → List D} {e3 : a3 → List D} {e4 : a4 → List D} {e5 : a5 → List D} {e6 : a6 → List D} {o0 : a0 → Prop} {o1 : a1 → Prop} {o2 : a2 → Prop} {o3 : a3 → Prop} {o4 : a4 → Prop} {o5 : a5 → Prop} {o6 : a6 → Prop} {n : Nat}
  (r0 : RdF P T0 e0 o0 n) (r1 : RdF P T1 e1 o1 n) (r2 : RdF P T2 e2 o2 n) (r3 : RdF P T3 e3 o3 n) (r4 : RdF P T4 e4 o4 n) (r5 : RdF P T5 e5 o5 n) (r6 : RdF P T6 e6 o6 n) {f0 f1 f2 f3 f4 f5 f6 : Field} (h : P.underlying T = some (.struct #[f0, f1, f2, f3, f4, f5, f6])) (t0 : f0.type = T0) (t1 : f1.type = T1) (t2 : f2.type = T2) (t3 : f3.type = T3) (t4 : f4.type = T4) (t5 : f5.type = T5) (t6 : f6.type = T6)
  (h0 : f0.offset = 0) (h1 : f1.offset = P.cellsOf T0) (h2 : f2.offset = P.cellsOf T0 + P.cellsOf T1) (h3 : f3.offset = P.cellsOf T0 + P.cellsOf T1 + P.cellsOf T2) (h4 : f4.offset = P.cellsOf T0 + P.cellsOf T1 + P.cellsOf T2 + P.cellsOf T3) (h5 : f5.offset = P.cellsOf T0 + P.cellsOf T1 + P.cellsOf T2 + P.cellsOf T3 + P.cellsOf T4) (h6 : f6.offset = P.cellsOf T0 + P.cellsOf T1 + P.cellsOf T2 + P.cellsOf T3 + P.cellsOf T4 + P.cellsOf T5) (hc : P.cellsOf T = P.cellsOf T0 + P.cellsOf T1 + P.cellsOf T2 + P.cellsOf T3 + P.cellsOf T4 + P.cellsOf T5 + P.cellsOf T6) :
  RdF P T (fun x : a0 × a1 × a2 × a3 × a4 × a5 × a6 => e0 x.1 ++ (e1 x.2.1 ++ (e2 x.2.2.1 ++ (e3 x.2.2.2.1 ++ (e4 x.2.2.2.2.1 ++ (e5 x.2.2.2.2.2.1 ++ e6 x.2.2.2.2.2.2)))))) (fun x => o0 x.1 ∧ o1 x.2.1 ∧ o2 x.2.2.1 ∧ o3 x.2.2.2.1 ∧ o4 x.2.2.2.2.1 ∧ o5 x.2.2.2.2.2.1 ∧ o6 x.2.2.2.2.2.2) (n + 1) := by
 constructor
 intro H e w base spare held cs x hx
 obtain ⟨xs, n', hn', rfl, hl, hxs, hat⟩ := DataW.trod_struct h hx
 obtain rfl : n' = n := by omega
 have hxs' : xs.length = 7 := hxs
 have g0 := hat 0 f0 rfl
 have g1 := hat 1 f1 rfl
 have g2 := hat 2 f2 rfl
 have g3 := hat 3 f3 rfl
 have g4 := hat 4 f4 rfl
 have g5 := hat 5 f5 rfl
 have g6 := hat 6 f6 rfl
 have e0 : xs[0]? = some (xs[0]'(by omega)) := List.getElem?_eq_getElem (by omega)
 have e1 : xs[1]? = some (xs[1]'(by omega)) := List.getElem?_eq_getElem (by omega)
 have e2 : xs[2]? = some (xs[2]'(by omega)) := List.getElem?_eq_getElem (by omega)
 have e3 : xs[3]? = some (xs[3]'(by omega)) := List.getElem?_eq_getElem (by omega)
 have e4 : xs[4]? = some (xs[4]'(by omega)) := List.getElem?_eq_getElem (by omega)
 have e5 : xs[5]? = some (xs[5]'(by omega)) := List.getElem?_eq_getElem (by omega)
 have e6 : xs[6]? = some (xs[6]'(by omega)) := List.getElem?_eq_getElem (by omega)
 rw [e0, h0, t0] at g0
 rw [e1, h1, t1] at g1
 rw [e2, h2, t2] at g2
 rw [e3, h3, t3] at g3
 rw [e4, h4, t4] at g4
 rw [e5, h5, t5] at g5
 rw [e6, h6, t6] at g6
 obtain ⟨y0, k0, m0⟩ := r0.sound e w base spare held _ _ g0
 obtain ⟨y1, k1, m1⟩ := r1.sound e w base spare held _ _ g1
 obtain ⟨y2, k2, m2⟩ := r2.sound e w base spare held _ _ g2
 obtain ⟨y3, k3, m3⟩ := r3.sound e w base spare held _ _ g3
 obtain ⟨y4, k4, m4⟩ := r4.sound e w base spare held _ _ g4
 obtain ⟨y5, k5, m5⟩ := r5.sound e w base spare held _ _ g5
 obtain ⟨y6, k6, m6⟩ := r6.sound e w base spare held _ _ g6
 refine ⟨(y0, y1, y2, y3, y4, y5, y6), ?_, fun hli => ?_⟩
 rotate_left
 ·unfold Light at hli m0 m1 m2 m3 m4 m5 m6
  rw [list7 hxs'] at hli
  simp only [List.map_cons, List.map_nil, DataW.weights, h, DataW.weightsEach, t0, t1, t2, t3, t4, t5, t6, List.all_append, Bool.and_eq_true] at hli
  exact ⟨m0 hli.1, m1 hli.2.1, m2 hli.2.2.1, m3 hli.2.2.2.1, m4 hli.2.2.2.2.1, m5 hli.2.2.2.2.2.1, m6 hli.2.2.2.2.2.2.1⟩
 have hcs : cs = (cs.drop (0)).take (P.cellsOf T0) ++ ((cs.drop (P.cellsOf T0)).take (P.cellsOf T1) ++ ((cs.drop (P.cellsOf T0 + P.cellsOf T1)).take (P.cellsOf T2) ++ ((cs.drop (P.cellsOf T0 + P.cellsOf T1 + P.cellsOf T2)).take (P.cellsOf T3) ++ ((cs.drop (P.cellsOf T0 + P.cellsOf T1 + P.cellsOf T2 + P.cellsOf T3)).take (P.cellsOf T4) ++ ((cs.drop (P.cellsOf T0 + P.cellsOf T1 + P.cellsOf T2 + P.cellsOf T3 + P.cellsOf T4)).take (P.cellsOf T5) ++ ((cs.drop (P.cellsOf T0 + P.cellsOf T1 + P.cellsOf T2 + P.cellsOf T3 + P.cellsOf T4 + P.cellsOf T5)).take (P.cellsOf T6))))))) := by
  have : (cs.drop (P.cellsOf T0 + P.cellsOf T1 + P.cellsOf T2 + P.cellsOf T3 + P.cellsOf T4 + P.cellsOf T5)).take (P.cellsOf T6) = cs.drop (P.cellsOf T0 + P.cellsOf T1 + P.cellsOf T2 + P.cellsOf T3 + P.cellsOf T4 + P.cellsOf T5) := List.take_of_length_le (by simp; omega)
  rw [this]
  have e5 := List.take_append_drop (P.cellsOf T5) (cs.drop (P.cellsOf T0 + P.cellsOf T1 + P.cellsOf T2 + P.cellsOf T3 + P.cellsOf T4))
  have e4 := List.take_append_drop (P.cellsOf T4) (cs.drop (P.cellsOf T0 + P.cellsOf T1 + P.cellsOf T2 + P.cellsOf T3))
  have e3 := List.take_append_drop (P.cellsOf T3) (cs.drop (P.cellsOf T0 + P.cellsOf T1 + P.cellsOf T2))
  have e2 := List.take_append_drop (P.cellsOf T2) (cs.drop (P.cellsOf T0 + P.cellsOf T1))
  have e1 := List.take_append_drop (P.cellsOf T1) (cs.drop (P.cellsOf T0))
  rw [List.drop_drop] at e5 e4 e3 e2 e1
  rw [e5, e4, e3, e2, e1, List.drop_zero, List.take_append_drop]
 rw [hcs]
 exact k0.append (k1.append (k2.append (k3.append (k4.append (k5.append (k6))))))
end Go.AM
namespace Go.AM
open Go Go.Proofs Go.ChangeShapes
def rdStr : Rdr Tryz.prog 9 ByteArray := Rdr.str Tryz.underlying9 (by kernel_rfl)
def rdBool : Rdr Tryz.prog 4 Bool := Rdr.bool Tryz.underlying4 (by kernel_rfl)
def rdPart0 : Rdr Tryz.prog 35 (List Int × List Int) := Rdr.struct2 rdInts rdInts Tryz.underlying35 rfl rfl rfl (by kernel_rfl) (by kernel_rfl)
theorem rdSlots_ok {l : List Sl} (h : rdSlots.ok l) : l.length ≤ bigN := by
 have h2 : l.length * Tryz.prog.bytesOf 105 ≤ reachBytes := h.2
 rw [by_slot] at h2
 have : reachBytes = 140737488351232 := rfl
 rw [bigN_eq]; omega
theorem rdTests_ok {l : List Te} (h : rdTests.ok l) : l.length ≤ bigN := by
 have h2 : l.length * Tryz.prog.bytesOf 107 ≤ reachBytes := h.2
 rw [by_test] at h2
 have : reachBytes = 140737488351232 := rfl
 rw [bigN_eq]; omega
abbrev RuT := ByteArray × (Gr × List Sl × Int × List Te) × (Gr × List Sl × Int × List Te) × (List Int × List Int) × (List Int × List Int) × Bool × Cd
theorem rdRu_n (n : Nat) : RdF Tryz.prog 41 (fun x : RuT => rdStr.enc x.1 ++ (rdPat.enc x.2.1 ++ (rdPat.enc x.2.2.1 ++ (rdPart0.enc x.2.2.2.1 ++ (rdMorph0.enc x.2.2.2.2.1 ++ (rdBool.enc x.2.2.2.2.2.1 ++ rdCd.enc x.2.2.2.2.2.2)))))) (fun x => rdStr.ok x.1 ∧ rdPat.ok x.2.1 ∧ rdPat.ok x.2.2.1 ∧ rdPart0.ok x.2.2.2.1 ∧ rdMorph0.ok x.2.2.2.2.1 ∧ rdBool.ok x.2.2.2.2.2.1 ∧ rdCd.ok x.2.2.2.2.2.2) n := by
 cases n with
 | zero => exact .zero
 | succ n => exact RdF.struct7 (rdStr.f n) (rdPat.f n) (rdPat.f n) (rdPart0.f n) (rdMorph0.f n) (rdBool.f n) (rdCd.f n) Tryz.underlying41 rfl rfl rfl rfl rfl rfl rfl rfl (by kernel_rfl) (by kernel_rfl) (by kernel_rfl) (by kernel_rfl) (by kernel_rfl) (by kernel_rfl) (by kernel_rfl)
def rdRu0 : Rdr Tryz.prog 41 RuT := Rdr.ofF _ _ (fun x => by simp [rdStr.len, rdPat.len, rdPart0.len, rdMorph0.len, rdBool.len, rdCd.len]; kernel_rfl) rdRu_n
def Ru.rowD (r : Ru) : List D := [.raw (.string r.name), ints r.lg.nodes, AM.edges r.lg.edges, slots r.lsl, .raw (.int .i64 r.lv), tests r.lte, ints r.rg.nodes, AM.edges r.rg.edges, slots r.rsl, .raw (.int .i64 r.rv), tests r.rte,
 ints r.k.nodes, ints r.k.edges, ints r.i.nodes, ints r.i.edges, .raw (.bool r.inj)] ++ r.c.cells
theorem rdRu_len (r : Ru) : r.rowD.length = Tryz.prog.cellsOf 41 := by rw [Ru.rowD, r.c.cells_eq]; kernel_rfl
def rdRu : Rdr Tryz.prog 41 Ru := rdRu0.map (fun x => ⟨x.1, x.2.1.1, x.2.1.2.1, x.2.1.2.2.1, x.2.1.2.2.2, x.2.2.1.1, x.2.2.1.2.1, x.2.2.1.2.2.1, x.2.2.1.2.2.2, ⟨x.2.2.2.1.1, x.2.2.2.1.2⟩, ⟨x.2.2.2.2.1.1, x.2.2.2.2.1.2⟩, x.2.2.2.2.2.1, x.2.2.2.2.2.2⟩) Ru.rowD Ru.Big (fun _ => rfl) (fun x h => ⟨⟨rdInts_ok h.2.2.2.1.1, rdInts_ok h.2.2.2.1.2⟩, ⟨rdInts_ok h.2.2.2.2.1.1, rdInts_ok h.2.2.2.2.1.2⟩, rdSlots_ok h.2.1.2.1, rdTests_ok h.2.1.2.2.2, rdSlots_ok h.2.2.1.2.1, rdTests_ok h.2.2.1.2.2.2, h.2.2.2.2.2.2⟩) rdRu_len
set_option maxRecDepth 100000 in
theorem arg_rule {ps : Array TypeId} {args : Array Value} {W : World} {base base' : Nat} {sp : Nat → Bool} {held : Bool} {H : Type} {enc : TypeId × Value → H} (hval : ∀ (j : Nat) t v, ps[j]? = some t → args[j]? = some v → Value.okWide Tryz.prog W .any base t v)
  (j : Nat) (v : Value) (hp : ps[j]? = some 41) (ha : args[j]? = some v) {d : DataW H} {p : List MemPlace} (h : DataW.Trod enc Tryz.prog W base' sp held 41 v d p) (hli : Light Tryz.prog 41 d) : ∃ r : Ru, r.Big ∧ RV G0 W r.av v := by
 refine Exists.elim (arg_agg hval j 41 v hp ha rdRu aggT_41 h hli) fun r hr => ⟨r, hr.1, ?_⟩
 have h2 : RV G0 W (.agg (r.rowD.map .d)) v := hr.2
 rw [Ru.rowD, r.c.cells_eq] at h2
 exact h2
end Go.AM
namespace Go.AM
open Go Go.Proofs Go.ChangeShapes
structure At.Big (a : At) : Prop where
 n : a.name.size ≤ maxLen
 l : a.names.length ≤ bigN
 s : ∀ x ∈ a.names, x.size ≤ maxLen
structure NT.Big (x : NT) : Prop where
 n : x.name.size ≤ maxLen
 l : x.own.length ≤ bigN
 a : ∀ y ∈ x.own, y.Big
structure Ty.Big (t : Ty) : Prop where
 n : t.nodes.length ≤ bigN
 e : t.edges.length ≤ bigN
 nn : ∀ x ∈ t.nodes, x.Big
 en : ∀ x ∈ t.edges, x.name.size ≤ maxLen
end Go.AM
namespace Go.AM
open Go Go.Proofs Go.ChangeShapes
structure Xt.Big (x : Xt) : Prop where
 mn : x.m.nodes.length ≤ bigN
 me : x.m.edges.length ≤ bigN
 g : x.g.Big
structure Co.Big (c : Co) : Prop where
 name : c.name.size ≤ maxLen
 g : c.g.Big
 n : c.exts.length ≤ bigN
 exts : ∀ x ∈ c.exts, x.Big
def Co.rowD (c : Co) : List D := [.raw (.string c.name), .raw (.int .i64 c.kind), ints c.g.nodes, AM.edges c.g.edges, xts c.exts]
end Go.AM
namespace Go.AM
open Go Go.Proofs
end Go.AM
namespace Go.AM
open Go Go.Proofs
def lgtR (r : Ru) : Bool := if fewR r = true then (if strR r = 0 then (if r.lg.nodes.length ≤ 4 then (if r.lg.edges.length ≤ 4 then (if r.rg.nodes.length ≤ 4 then decide (r.rg.edges.length ≤ 4) else false) else false) else false) else true) else false
theorem lgtR_fit {r : Ru} (hb : r.Big) (h : lgtR r = true) : r.Fit := by
 unfold lgtR at h
 split at h
 ·rename_i h1; exact fewR_fit hb h1
 ·cases h
theorem light43_c (r : Ru) (hb : r.Big) (tok : Tks) (nt : Nat) : DCall Tryz.prog 19 [r.av] tok nt (B (lgtR r)) tok nt := by
 intro box nb
 have h1 := few34_c r hb
 have hf := @fewR_fit r hb
 obtain ⟨N, hN⟩ : ∃ N, lgtR r = N := ⟨_, rfl⟩
 rw [hN]
 unfold lgtR at hN
 refine sB Tryz.func19 Tryz.ntmps19 ?_
 intro hbox htok
 simp only at hbox htok
 apply AL.start
 try (simp)
 repeat (refine sR ?_; simp)
 refine Stop.of_d (h1 _ _) ?_
 simp
 cases e0 : fewR r
 ·rw [e0, if_neg (by simp)] at hN
  try (simp)
  repeat (first | (refine sR ?_; simp) | (refine sC ?_; simp) | (refine sX ?_; simp only [AU, ↓reduceIte]))
  refine sT ?_
  try simp only [AU]
  refine ⟨by simp, sF hbox htok (fun _ h => h) (Nat.le_refl _) ?_⟩
  simp [packA, ← hN]
 ·rw [e0, if_pos rfl] at hN
  have h2 := structural34_c r (hf e0)
  try (simp)
  repeat (first | (refine sR ?_; simp) | (refine sC ?_; simp) | (refine sX ?_; simp only [AU, ↓reduceIte]))
  refine Stop.of_d (h2 _ _) ?_
  simp
  by_cases e1 : strR r = 0
  ·rw [if_pos e1] at hN
   have w : ∀ n : Nat, ((n : Int) ≤ 4) ↔ n ≤ 4 := fun n => by omega
   by_cases s1 : r.lg.nodes.length ≤ 4
   ·have s1' := (w _).2 s1
    rw [if_pos s1] at hN
    by_cases s2 : r.lg.edges.length ≤ 4
    ·have s2' := (w _).2 s2
     rw [if_pos s2] at hN
     by_cases s3 : r.rg.nodes.length ≤ 4
     ·have s3' := (w _).2 s3
      rw [if_pos s3] at hN
      by_cases s4 : r.rg.edges.length ≤ 4
      ·have s4' := (w _).2 s4
       rw [decide_eq_true s4] at hN
       try (simp [e1, s1, s1', s2, s2', s3, s3', s4, s4'])
       repeat (first | (refine sR ?_; simp [e1, s1, s1', s2, s2', s3, s3', s4, s4']) | (refine sC ?_; simp [e1, s1, s1', s2, s2', s3, s3', s4, s4']) | (refine sX ?_; simp only [AU, ↓reduceIte]))
       refine sT ?_
       try simp only [AU]
       refine ⟨by simp, sF hbox htok (fun _ h => h) (Nat.le_refl _) ?_⟩
       simp [packA, ← hN, s4']
      ·have s4' : ¬ (r.rg.edges.length : Int) ≤ 4 := fun h => s4 ((w _).1 h)
       rw [decide_eq_false s4] at hN
       try (simp [e1, s1, s1', s2, s2', s3, s3', s4, s4'])
       repeat (first | (refine sR ?_; simp [e1, s1, s1', s2, s2', s3, s3', s4, s4']) | (refine sC ?_; simp [e1, s1, s1', s2, s2', s3, s3', s4, s4']) | (refine sX ?_; simp only [AU, ↓reduceIte]))
       refine sT ?_
       try simp only [AU]
       refine ⟨by simp, sF hbox htok (fun _ h => h) (Nat.le_refl _) ?_⟩
       simp [packA, ← hN, s4']
     ·have s3' : ¬ (r.rg.nodes.length : Int) ≤ 4 := fun h => s3 ((w _).1 h)
      rw [if_neg s3] at hN
      try (simp [e1, s1, s1', s2, s2', s3, s3'])
      repeat (first | (refine sR ?_; simp [e1, s1, s1', s2, s2', s3, s3']) | (refine sC ?_; simp [e1, s1, s1', s2, s2', s3, s3']) | (refine sX ?_; simp only [AU, ↓reduceIte]))
      refine sT ?_
      try simp only [AU]
      refine ⟨by simp, sF hbox htok (fun _ h => h) (Nat.le_refl _) ?_⟩
      simp [packA, ← hN]
    ·have s2' : ¬ (r.lg.edges.length : Int) ≤ 4 := fun h => s2 ((w _).1 h)
     rw [if_neg s2] at hN
     try (simp [e1, s1, s1', s2, s2'])
     repeat (first | (refine sR ?_; simp [e1, s1, s1', s2, s2']) | (refine sC ?_; simp [e1, s1, s1', s2, s2']) | (refine sX ?_; simp only [AU, ↓reduceIte]))
     refine sT ?_
     try simp only [AU]
     refine ⟨by simp, sF hbox htok (fun _ h => h) (Nat.le_refl _) ?_⟩
     simp [packA, ← hN]
   ·have s1' : ¬ (r.lg.nodes.length : Int) ≤ 4 := fun h => s1 ((w _).1 h)
    rw [if_neg s1] at hN
    try (simp [e1, s1, s1'])
    repeat (first | (refine sR ?_; simp [e1, s1, s1']) | (refine sC ?_; simp [e1, s1, s1']) | (refine sX ?_; simp only [AU, ↓reduceIte]))
    refine sT ?_
    try simp only [AU]
    refine ⟨by simp, sF hbox htok (fun _ h => h) (Nat.le_refl _) ?_⟩
    simp [packA, ← hN]
  ·have b1 : (strR r != 0) = true := by simp [e1]
   rw [if_neg e1] at hN
   try (simp [b1, e1])
   repeat (first | (refine sR ?_; simp [b1, e1]) | (refine sC ?_; simp [b1, e1]) | (refine sX ?_; simp only [AU, ↓reduceIte]))
   refine sT ?_
   try simp only [AU]
   refine ⟨by simp, sF hbox htok (fun _ h => h) (Nat.le_refl _) ?_⟩
   simp [packA, ← hN]
end Go.AM
namespace Go.AM
open Go Go.Proofs
abbrev patV (g : Gr) : AV := .agg [.d (ints g.nodes), .d (AM.edges g.edges), .d (slots []), I 0, .d (tests [])]
def stQ (s : Nat) (row : List AV) (nb : Nat) (box : Bxs) (tok : Tks) (nt : Nat) (_ : Unit) : AState :=
 ⟨tl [(s, I 0), (3, .ptr (nb + 3) 0 0), (2, .ptr (nb + 2) 0 0)], lb nb box [(3, [row]), (2, [row])], tok, nt⟩
theorem same21_c (g : Gr) (hg : g.Fit) (tok : Tks) (nt : Nat) : DCall Tryz.prog 64 [patV g, patV g] tok nt (B true) tok nt := by
 intro box nb
 have h1 := same05_c g g hg
 rw [decide_eq_true rfl] at h1
 refine sB Tryz.func64 Tryz.ntmps64 ?_
 intro hbox htok
 simp only at hbox htok
 apply AL.start
 try (simp)
 repeat (refine sR ?_; simp)
 refine Stop.of_d (h1 _ _) ?_
 simp
 try (simp)
 repeat (first | (refine sR ?_; simp) | (refine sC ?_; simp) | (refine sX ?_; simp only [AU, ↓reduceIte]))
 refine sN ?_
 refine AL.loopT (stQ 5 [.d (ints g.nodes), .d (AM.edges g.edges), .d (slots []), I 0, .d (tests [])] nb box tok nt) (fun _ => True) (fun _ => 0) () trivial (Weaks.mk (Nat.le_refl _) rfl (by simp [ToL, lk]) (by simp [BoxL, lk])) ?_
 rintro ⟨⟩ S _ hS
 simp only [stQ] at hS
 subst hS
 try (simp)
 repeat (refine sR ?_; simp)
 refine sC ?_
 simp
 refine sX ?_
 simp only [AU, ↓reduceIte]
 try (simp)
 repeat (refine sR ?_; simp)
 refine sN ?_
 refine AL.loopT (stQ 6 [.d (ints g.nodes), .d (AM.edges g.edges), .d (slots []), I 0, .d (tests [])] nb box tok nt) (fun _ => True) (fun _ => 0) () trivial (Weaks.mk (Nat.le_refl _) rfl (by simp [ToL, lk]) (by simp [BoxL, lk])) ?_
 rintro ⟨⟩ S _ hS
 simp only [stQ] at hS
 subst hS
 try (simp)
 repeat (refine sR ?_; simp)
 refine sC ?_
 simp
 refine sX ?_
 simp only [AU, ↓reduceIte]
 try (simp)
 repeat (refine sR ?_; simp)
 refine sT ?_
 try simp only [AU]
 refine ⟨by simp, sF hbox htok (fun _ h => h) (Nat.le_refl _) ?_⟩
 simp [packA]
theorem same07_c (p : Mo) (hp : p.Fit) (tok : Tks) (nt : Nat) : DCall Tryz.prog 65 [p.av, p.av] tok nt (B true) tok nt := by
 intro box nb
 have h1 := sameInts05_c p.nodes p.nodes hp.n
 have h2 := sameInts05_c p.edges p.edges hp.e
 rw [decide_eq_true rfl] at h1 h2
 refine sB Tryz.func65 Tryz.ntmps65 ?_
 intro hbox htok
 simp only at hbox htok
 apply AL.start
 try (simp)
 repeat (refine sR ?_; simp)
 refine Stop.of_d (h1 _ _) ?_
 simp
 try (simp)
 repeat (first | (refine sR ?_; simp) | (refine sC ?_; simp) | (refine sX ?_; simp only [AU, ↓reduceIte]))
 refine Stop.of_d (h2 _ _) ?_
 simp
 try (simp)
 repeat (first | (refine sR ?_; simp) | (refine sC ?_; simp) | (refine sX ?_; simp only [AU, ↓reduceIte]))
 refine sT ?_
 try simp only [AU]
 refine ⟨by simp, sF hbox htok (fun _ h => h) (Nat.le_refl _) ?_⟩
 simp [packA]
theorem same22_c (tok : Tks) (nt : Nat) : DCall Tryz.prog 66 [(cdOf 0 []).av, (cdOf 0 []).av] tok nt (B true) tok nt := by
 intro box nb
 have h1 := same06_c ⟨[], []⟩ ⟨[], []⟩ fit_nilM
 have h2 := same21_c ⟨[], []⟩ fit_nil
 rw [decide_eq_true rfl] at h1
 rw [zav]
 refine sB Tryz.func66 Tryz.ntmps66 ?_
 intro hbox htok
 simp only at hbox htok
 apply AL.start
 try (simp)
 repeat (first | (refine sR ?_; simp) | (refine sC ?_; simp) | (refine sX ?_; simp only [AU, ↓reduceIte]))
 refine Stop.of_d (h1 _ _) ?_
 simp
 try (simp)
 repeat (first | (refine sR ?_; simp) | (refine sC ?_; simp) | (refine sX ?_; simp only [AU, ↓reduceIte]))
 refine Stop.of_d (h2 _ _) ?_
 simp
 try (simp)
 repeat (first | (refine sR ?_; simp) | (refine sC ?_; simp) | (refine sX ?_; simp only [AU, ↓reduceIte]))
 refine sN ?_
 refine AL.loopT (stQ 5 [I 0, .d (.sl 9 []), .d (.sl 1 []), .d (.sl 1 []), .d (.sl 1 []), .d (.sl 3 []), .d (.sl 4 []), I 0, .d (.sl 5 [])] nb box tok nt) (fun _ => True) (fun _ => 0) () trivial (Weaks.mk (Nat.le_refl _) rfl (by simp [ToL, lk]) (by simp [BoxL, lk])) ?_
 rintro ⟨⟩ S _ hS
 simp only [stQ] at hS
 subst hS
 try (simp)
 repeat (refine sR ?_; simp)
 refine sC ?_
 simp
 refine sX ?_
 simp only [AU, ↓reduceIte]
 try (simp)
 repeat (refine sR ?_; simp)
 refine sT ?_
 try simp only [AU]
 refine ⟨by simp, sF hbox htok (fun _ h => h) (Nat.le_refl _) ?_⟩
 simp [packA]
theorem same24_c (r : Ru) (hr : r.Fit) (hl : r.plainL) (hrr : r.plainR) (tok : Tks) (nt : Nat) : DCall Tryz.prog 23 [(r.wc (cdOf 0 [])).av, (r.wc (cdOf 0 [])).av] tok nt (B true) tok nt := by
 intro box nb
 obtain ⟨l1, l2⟩ := hl
 obtain ⟨r1, r2⟩ := hrr
 have e1 : r.lsl = [] := List.length_eq_zero_iff.1 (by omega)
 have e2 : r.lte = [] := List.length_eq_zero_iff.1 (by omega)
 have e3 : r.rsl = [] := List.length_eq_zero_iff.1 (by omega)
 have e4 : r.rte = [] := List.length_eq_zero_iff.1 (by omega)
 have h1 := same21_c r.lg hr.lg
 have h2 := same21_c r.rg hr.rg
 have h3 := same07_c r.k hr.k
 have h4 := same06_c r.i r.i hr.i
 rw [decide_eq_true rfl] at h4
 have h5 := same22_c
 rw [Ru.av, wc_row, e1, e2, e3, e4, l2, r2]
 refine sB Tryz.func23 Tryz.ntmps23 ?_
 intro hbox htok
 simp only at hbox htok
 apply AL.start
 try (simp)
 repeat (first | (refine sR ?_; simp) | (refine sC ?_; simp) | (refine sX ?_; simp only [AU, ↓reduceIte]))
 refine Stop.of_d (h1 _ _) ?_
 simp
 try (simp)
 repeat (first | (refine sR ?_; simp) | (refine sC ?_; simp) | (refine sX ?_; simp only [AU, ↓reduceIte]))
 refine Stop.of_d (h2 _ _) ?_
 simp
 try (simp)
 repeat (first | (refine sR ?_; simp) | (refine sC ?_; simp) | (refine sX ?_; simp only [AU, ↓reduceIte]))
 refine Stop.of_d (h3 _ _) ?_
 simp
 try (simp)
 repeat (first | (refine sR ?_; simp) | (refine sC ?_; simp) | (refine sX ?_; simp only [AU, ↓reduceIte]))
 refine Stop.of_d (h4 _ _) ?_
 simp
 try (simp)
 repeat (first | (refine sR ?_; simp) | (refine sC ?_; simp) | (refine sX ?_; simp only [AU, ↓reduceIte]))
 refine Stop.of_d (h5 _ _) ?_
 simp
 try (simp)
 repeat (first | (refine sR ?_; simp) | (refine sC ?_; simp) | (refine sX ?_; simp only [AU, ↓reduceIte]))
 refine sT ?_
 try simp only [AU]
 refine ⟨by simp, sF hbox htok (fun _ h => h) (Nat.le_refl _) ?_⟩
 simp [packA]
theorem pl_bare : ∀ (n : Nat) (c : Cd), SizeOf.sizeOf c < n → c.Pl → c.Bare
 | 0, c, hn, _ => absurd hn (Nat.not_lt_zero _)
 | n + 1, c, hn, h => .mk h.sl h.te fun x hx => pl_bare n x (by have := Cd.kid_lt hx; omega) (h.kid x hx)
theorem light43l_c (a : Gr) (c : Cd) (hb : c.Big) (tok : Tks) (nt : Nat) : DCall Tryz.prog 20 [a.av, c.av] tok nt (B (lightB a c)) tok nt := by
 intro box nb
 have h := light_c a c hb
 refine sB Tryz.func20 Tryz.ntmps20 ?_
 intro hbox htok
 simp only at hbox htok
 apply AL.start
 try (simp)
 repeat (refine sR ?_; simp)
 refine Stop.of_d (h _ _) ?_
 simp
 try (simp)
 repeat (first | (refine sR ?_; simp) | (refine sC ?_; simp) | (refine sX ?_; simp only [AU, ↓reduceIte]))
 refine sT ?_
 try simp only [AU]
 refine ⟨by simp, sF hbox htok (fun _ h => h) (Nat.le_refl _) ?_⟩
 simp [packA]
set_option maxRecDepth 100000 in
theorem lawWith_c (r : Ru) (c : Cd) (hr : r.Big) (hc : c.Big) (tok : Tks) (nt : Nat) : ∃ tok' nt', DCall Tryz.prog 5 [r.av, c.av] tok nt (B true) tok' nt' := by
 refine ⟨tok, nt, ?_⟩
 intro box nb
 have hlg := light43_c r hr
 have hl1 := light43l_c r.lg r.c hr.c
 have hl2 := light43l_c r.lg c hc
 refine sB Tryz.func5 Tryz.ntmps5 ?_
 intro hbox htok
 simp only at hbox htok
 apply AL.start
 try (simp)
 repeat (refine sR ?_; simp)
 refine Stop.of_d (awake43_c _ _) ?_
 simp
 try (simp)
 repeat (refine sR ?_; simp)
 refine Stop.of_d (hlg _ _) ?_
 simp
 cases g1 : lgtR r
 ·try (simp)
  repeat (first | (refine sR ?_; simp) | (refine sC ?_; simp) | (refine sX ?_; simp only [AU, ↓reduceIte]))
  refine Stop.of_d (awake43_c _ _) ?_
  simp
  try (simp)
  repeat (first | (refine sR ?_; simp) | (refine sC ?_; simp) | (refine sX ?_; simp only [AU, ↓reduceIte]))
  refine sT ?_
  try simp only [AU]
  refine ⟨by simp, sF hbox htok (fun _ h => h) (Nat.le_refl _) ?_⟩
  simp [packA]
 ·have fr := lgtR_fit hr g1
  try (simp)
  repeat (first | (refine sR ?_; simp) | (refine sC ?_; simp) | (refine sX ?_; simp only [AU, ↓reduceIte]))
  refine Stop.of_d (hl1 _ _) ?_
  simp
  cases g2 : lightB r.lg r.c
  ·try (simp)
   repeat (first | (refine sR ?_; simp) | (refine sC ?_; simp) | (refine sX ?_; simp only [AU, ↓reduceIte]))
   refine Stop.of_d (awake43_c _ _) ?_
   simp
   try (simp)
   repeat (first | (refine sR ?_; simp) | (refine sC ?_; simp) | (refine sX ?_; simp only [AU, ↓reduceIte]))
   refine sT ?_
   try simp only [AU]
   refine ⟨by simp, sF hbox htok (fun _ h => h) (Nat.le_refl _) ?_⟩
   simp [packA]
  ·have frc := (lightB_fit hr.c g2).2
   try (simp)
   repeat (first | (refine sR ?_; simp) | (refine sC ?_; simp) | (refine sX ?_; simp only [AU, ↓reduceIte]))
   refine Stop.of_d (hl2 _ _) ?_
   simp
   cases g3 : lightB r.lg c
   ·try (simp)
    repeat (first | (refine sR ?_; simp) | (refine sC ?_; simp) | (refine sX ?_; simp only [AU, ↓reduceIte]))
    refine Stop.of_d (awake43_c _ _) ?_
    simp
    try (simp)
    repeat (first | (refine sR ?_; simp) | (refine sC ?_; simp) | (refine sX ?_; simp only [AU, ↓reduceIte]))
    refine sT ?_
    try simp only [AU]
    refine ⟨by simp, sF hbox htok (fun _ h => h) (Nat.le_refl _) ?_⟩
    simp [packA]
   ·have fc := (lightB_fit hc g3).2
    have f1 := withP_c r c fr frc fc
    have f2 := withS_c r c fr frc fc
    try (simp)
    repeat (first | (refine sR ?_; simp) | (refine sC ?_; simp) | (refine sX ?_; simp only [AU, ↓reduceIte]))
    refine Stop.of_d (f1 _ _) ?_
    simp
    try (simp)
    repeat (refine sR ?_; simp)
    refine Stop.of_d (f2 _ _) ?_
    simp
    try (simp)
    repeat (refine sR ?_; simp)
    by_cases e0 : withE r c = 0
    ·have hR : withR r c = (r.wc (wthC r.c c), 0) := by rw [withR, if_neg (by simp [e0])]
     have hstr : strR r = 0 := by
      unfold withE at e0
      split at e0
      ·contradiction
      ·rename_i h; simpa using h
     have hvd : validC r.lg (wthC r.c c) = 0 := by
      unfold withE at e0
      split at e0
      ·contradiction
      ·split at e0
       ·contradiction
       ·split at e0
        ·contradiction
        ·exact e0
     obtain ⟨hl, hrr⟩ := strR_plain hstr
     have hpl := ovr_pl _ _ (Nat.lt_succ_self _) _ (validC_zero hvd).2
     have f3 := same33_c _ (wthC r.c c) (Nat.lt_succ_self _) (wthC_fit frc fc) (pl_bare _ _ (Nat.lt_succ_self _) hpl)
     have f4 := same24_c r fr hl hrr
     rw [hR]
     generalize wthC r.c c = d at *
     try (simp)
     repeat (first | (refine sR ?_; simp) | (refine sC ?_; simp) | (refine sX ?_; simp only [AU, ↓reduceIte]))
     refine Stop.of_d (f3 _ _) ?_
     simp
     try (simp)
     repeat (first | (refine sR ?_; simp) | (refine sC ?_; simp) | (refine sX ?_; simp only [AU, ↓reduceIte]))
     have hz : Sub (.agg ([.d (.raw (.string r.name)), .d (ints r.lg.nodes), .d (AM.edges r.lg.edges), .d (slots r.lsl), I r.lv, .d (tests r.lte), .d (ints r.rg.nodes), .d (AM.edges r.rg.edges), .d (slots r.rsl), I r.rv, .d (tests r.rte),
       .d (ints r.k.nodes), .d (ints r.k.edges), .d (ints r.i.nodes), .d (ints r.i.edges), B r.inj, I 0, nilS, nilS, nilS, nilS, nilS, nilS, I 0, nilS])) (r.wc (cdOf 0 [])).av := Sub.agg ⟨Sub.refl _, Sub.refl _, Sub.refl _, Sub.refl _, Sub.refl _, Sub.refl _, Sub.refl _, Sub.refl _, Sub.refl _, Sub.refl _, Sub.refl _, Sub.refl _, Sub.refl _, Sub.refl _, Sub.refl _, Sub.refl _, Sub.refl _, Sub.nil _ _ _, Sub.nil _ _ _, Sub.nil _ _ _, Sub.nil _ _ _, Sub.nil _ _ _, Sub.nil _ _ _, Sub.refl _, Sub.nil _ _ _, trivial⟩
     refine Stop.sub (args' := [(r.wc (cdOf 0 [])).av, (r.wc (cdOf 0 [])).av]) ⟨hz, hz, trivial⟩ ?_
     refine Stop.of_d (f4 _ _) ?_
     simp
     try (simp)
     repeat (first | (refine sR ?_; simp) | (refine sC ?_; simp) | (refine sX ?_; simp only [AU, ↓reduceIte]))
     refine sT ?_
     try simp only [AU]
     refine ⟨by simp, sF hbox htok (fun _ h => h) (Nat.le_refl _) ?_⟩
     simp [packA]
    ·have hR : withR r c = (zRu, withE r c) := by rw [withR, if_pos e0]
     have b0 : (withE r c != 0) = true := by simp [e0]
     rw [hR]
     try (simp [b0])
     repeat (first | (refine sR ?_; simp [b0]) | (refine sC ?_; simp [b0]) | (refine sX ?_; simp only [AU, ↓reduceIte]))
     refine sT ?_
     try simp only [AU]
     refine ⟨by simp, sF hbox htok (fun _ h => h) (Nat.le_refl _) ?_⟩
     simp [packA]
end Go.AM
