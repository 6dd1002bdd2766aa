/-
 Parts of the proof, as merged from many texts: a machine over data, what the functions compute, plain laws.
-/
import Derived.Test.YtainalmfffjnjaaGreatDoorPKS6
import Derived.Shelf.Spec.SlicesGrow
import Derived.Deep.AppendLies
set_option linter.unusedSimpArgs false
set_option linter.unusedVariables false
namespace Go.AM
open Go Go.Proofs
def stUs (xs : List Int) (v : Int) (nb : Nat) (box : Bxs) (tok : Tks) (nt : Nat) (i : Nat) : AState := ⟨tl [(0, .d (ints xs)), (1, I v), (5, I i)], lb nb box [], tok, nt⟩
theorem used33_c (xs : List Int) (v : Int) (hx : xs.length ≤ 1000000) (tok : Tks) (nt : Nat) : DCall Tryz.prog 225 [.d (ints xs), I v] tok nt (B (decide (v ∈ xs))) tok nt := by
 intro box nb
 refine sB Tryz.func225 Tryz.ntmps225 ?_
 intro hbox htok
 simp only at hbox htok
 apply AL.start
 refine sR ?_
 simp
 refine sR ?_
 simp
 refine sN ?_
 refine AL.loopT (stUs xs v nb box tok nt) (fun i => i ≤ xs.length ∧ v ∉ xs.take i) (fun i => xs.length - i) 0 ⟨Nat.zero_le _, by simp⟩ (Weaks.mk (Nat.le_refl _) rfl (by simp [ToL]) trivial) ?_
 rintro i S ⟨hi, htk⟩ hS
 simp only [stUs] at hS
 subst hS
 have hw := sW (i := i) (by omega)
 refine sR ?_
 simp
 refine sC ?_
 simp
 refine ⟨fun hlt => ?_, fun hge => ?_⟩
 ·refine sR ?_
  simp [hlt]
  refine sC ?_
  simp
  refine ⟨fun he => ?_, fun hne => ?_⟩
  ·refine sR ?_
   simp
   have hmem : v ∈ xs := by rw [← he]; exact List.getElem_mem _
   refine sT ?_
   try simp only [AU]
   refine ⟨by simp, sF hbox htok (fun _ h => h) (Nat.le_refl _) ?_⟩
   simp [packA, hmem]
  ·refine sR ?_
   simp [hw]
   refine sE ?_
   refine ⟨i + 1, ⟨hlt, ?_⟩, by omega, Weaks.mk (Nat.le_refl _) rfl (by simp [ToL]) trivial⟩
   rw [List.take_succ_eq_append_getElem hlt]
   simp only [List.mem_append, List.mem_singleton, not_or]
   exact ⟨htk, fun e => hne e.symm⟩
 ·refine sX ?_
  simp only [AU, ↓reduceIte]
  refine sR ?_
  simp
  have hn : v ∉ xs := by rwa [List.take_of_length_le hge] at htk
  refine sT ?_
  try simp only [AU]
  refine ⟨by simp, sF hbox htok (fun _ h => h) (Nat.le_refl _) ?_⟩
  simp [packA, hn]
def stIx (xs : List Int) (v : Int) (nb : Nat) (box : Bxs) (tok : Tks) (nt : Nat) (i : Nat) : AState := ⟨tl [(0, .d (ints xs)), (1, I v), (5, I i)], lb nb box [], tok, nt⟩
theorem index33_c (xs : List Int) (v : Int) (hx : xs.length ≤ 1000000) (tok : Tks) (nt : Nat) : DCall Tryz.prog 224 [.d (ints xs), I v] tok nt (I (indexI xs v)) tok nt := by
 intro box nb
 refine sB Tryz.func224 Tryz.ntmps224 ?_
 intro hbox htok
 simp only at hbox htok
 apply AL.start
 refine sR ?_
 simp
 refine sR ?_
 simp
 refine sN ?_
 refine AL.loopT (stIx xs v nb box tok nt) (fun i => i ≤ xs.length ∧ v ∉ xs.take i) (fun i => xs.length - i) 0 ⟨Nat.zero_le _, by simp⟩ (Weaks.mk (Nat.le_refl _) rfl (by simp [ToL]) trivial) ?_
 rintro i S ⟨hi, htk⟩ hS
 simp only [stIx] at hS
 subst hS
 have hw := sW (i := i) (by omega)
 refine sR ?_
 simp
 refine sC ?_
 simp
 refine ⟨fun hlt => ?_, fun hge => ?_⟩
 ·have hsp : xs = xs.take i ++ xs[i] :: xs.drop (i + 1) := by simp
  refine sR ?_
  simp [hlt]
  refine sC ?_
  simp
  refine ⟨fun he => ?_, fun hne => ?_⟩
  ·refine sR ?_
   simp
   have hmem : v ∈ xs := by rw [← he]; exact List.getElem_mem _
   have hid : xs.idxOf v = i := by
    unfold List.idxOf
    rw [List.findIdx_eq hlt]
    refine ⟨by simp [he], fun j hj => ?_⟩
    have : xs[j] ≠ v := fun e => htk (by rw [← e, List.mem_take_iff_getElem]; exact ⟨j, by omega, rfl⟩)
    simpa using this
   refine sT ?_
   try simp only [AU]
   refine ⟨by simp, sF hbox htok (fun _ h => h) (Nat.le_refl _) ?_⟩
   simp [packA, indexI, hmem, hid]
  ·refine sR ?_
   simp [hw]
   refine sE ?_
   refine ⟨i + 1, ⟨hlt, ?_⟩, by omega, Weaks.mk (Nat.le_refl _) rfl (by simp [ToL]) trivial⟩
   rw [List.take_succ_eq_append_getElem hlt]
   simp only [List.mem_append, List.mem_singleton, not_or]
   exact ⟨htk, fun e => hne e.symm⟩
 ·refine sX ?_
  simp only [AU, ↓reduceIte]
  refine sR ?_
  simp
  have hn : v ∉ xs := by rwa [List.take_of_length_le hge] at htk
  refine sT ?_
  try simp only [AU]
  refine ⟨by simp, sF hbox htok (fun _ h => h) (Nat.le_refl _) ?_⟩
  simp [packA, indexI, hn]
def lst {β : Type} (ok : Nat → Nat → Bool) (m : Nat) (fin : List Int → List β) : Nat → List Int → List β
 | 0, L => fin L
 | r + 1, L => (List.range m).flatMap fun (k : Nat) => if (!decide ((k : Int) ∈ L) && ok L.length k) = true then lst ok m fin r (L ++ [(k : Int)]) else []
def atB (by' of : List Int) (i k : Nat) : Bool := decide (indexI by' i < 0) || decide (of.getD (indexI by' i).toNat 0 = k)
def okXE (p g : Gr) (x m : Mo) (N : List Int) (i k : Nat) : Bool := decide (g.edges.getD k default = wantX p N i) && atB x.edges m.edges i k
def okXN (p g : Gr) (x m : Mo) (i k : Nat) : Bool := decide (g.nodes.getD k 0 = p.nodes.getD i 0) && atB x.nodes m.nodes i k
def exE (p g : Gr) (x m : Mo) (N : List Int) (r : Nat) (L : List Int) : List Mo := lst (okXE p g x m N) g.edges.length (fun E => [⟨N, E⟩]) r L
def exN (p g : Gr) (x m : Mo) (r : Nat) (L : List Int) : List Mo := lst (okXN p g x m) g.nodes.length (fun N => exE p g x m N p.edges.length []) r L
def exts (p g : Gr) (x m : Mo) : List Mo := exN p g x m p.nodes.length []
abbrev Mo.cells (m : Mo) : List D := [ints m.nodes, ints m.edges]
abbrev fiRow (p g : Gr) (x m : Mo) (out : List Mo) (own : Own) : List AV := [.d (ints p.nodes), .d (AM.edges p.edges), .d (ints g.nodes), .d (AM.edges g.edges), .d (ints x.nodes), .d (ints x.edges), .d (ints m.nodes), .d (ints m.edges), .osl 2 (out.map Mo.cells) own]
def QFi (p g : Gr) (x m : Mo) (box : Bxs) (nb k : Nat) (tok : Tks) (nt : Nat) (own : Own) (out : List Mo) (v : AV) (M : AMem) : Prop :=
 v = .tup [] ∧ ∃ own' tok' nt', M = ⟨upd box k (some [fiRow p g x m out own']), nb, tok', nt'⟩ ∧ Adv tok nt own tok' nt' own'
structure FiH (p g : Gr) (x m : Mo) : Prop where
 fp : p.Fit
 fg : g.Fit
 fx : x.Fit
 ep : ∀ e ∈ p.edges, 0 ≤ e.fr ∧ e.fr < p.nodes.length ∧ 0 ≤ e.to ∧ e.to < p.nodes.length
 ln : x.nodes.length ≤ m.nodes.length
 le : x.edges.length ≤ m.edges.length
theorem fiOk {p g : Gr} {x m : Mo} {out : List Mo} {own : Own} {box : Bxs} {k base : Nat} {pp q : Nat → Prop} (hq : q = fun _ => True) : ∀ k' rows, k' < base → (upd box k (some [fiRow p g x m out own])) k' = some rows → box k' = some rows ∨ ∀ r ∈ rows, ∀ x ∈ r, OkIn pp q x := by
 subst hq
 intro k' rows hk' hr
 by_cases e : k' = k
 ·subst e
  rw [upd_same] at hr
  cases hr
  exact .inr (by simp)
 ·rw [upd_other _ _ e] at hr
  exact .inl hr
structure AccM where
 i : Nat
 out : List Mo
 own : Own
 tok : Nat → Bool
 nt : Nat
def candE33 (p g : Gr) (x m : Mo) (N : List Int) (r : Nat) (L : List Int) (k : Nat) : List Mo := if (!decide ((k : Int) ∈ L) && okXE p g x m N L.length k) = true then exE p g x m N r (L ++ [(k : Int)]) else []
def stFe (p g : Gr) (x m : Mo) (N L : List Int) (e : E) (nb k : Nat) (box : Bxs) (y : AccM) : AState :=
 ⟨tl [(0, .ptr k 0 0), (1, .d (ints N)), (2, .d (ints L)), (7, .ptr (nb + 7) 0 0), (8, I (indexI x.edges L.length)), (9, I y.i)],
  lb nb (upd box k (some [fiRow p g x m y.out y.own])) [(7, [[I e.ty, I e.fr, I e.to]])], y.tok, y.nt⟩
theorem flat_le {β : Type} (f : Nat → List β) {i : Nat} : ∀ {n : Nat}, i ≤ n → ((List.range i).flatMap f).length ≤ ((List.range n).flatMap f).length
  | 0, h => by have : i = 0 := by omega
               subst this; exact Nat.le_refl _
  | n + 1, h => by
    by_cases e : i = n + 1
    · subst e; exact Nat.le_refl _
    · have := flat_le f (show i ≤ n by omega)
      rw [List.range_succ, List.flatMap_append, List.length_append]
      omega
theorem exE_succ (p g : Gr) (x m : Mo) (N : List Int) (r : Nat) (L : List Int) : exE p g x m N (r + 1) L = (List.range g.edges.length).flatMap (candE33 p g x m N r L) := rfl
set_option maxRecDepth 100000 in
theorem edges33_c (p g : Gr) (x m : Mo) (N : List Int) (h : FiH p g x m) (hN : N.length = p.nodes.length) : ∀ (r : Nat) (L : List Int) (out : List Mo) (own : Own) (box : Bxs) (nb k : Nat) (tok : Tks) (nt : Nat), L.length + r = p.edges.length →
  out.length + (exE p g x m N r L).length ≤ 1000000000000 → box k = some [fiRow p g x m out own] → own.liveP tok →
  ACalls Tryz.prog 223 [.ptr k 0 0, .d (ints N), .d (ints L)] ⟨box, nb, tok, nt⟩ (QFi p g x m box nb k tok nt own (out ++ exE p g x m N r L)) := by
 intro r
 induction r with
 | zero =>
  intro L out own box nb k tok nt hL hroom hk hlive
  have hself : box = upd box k (some [fiRow p g x m out own]) := (upd_self box k _ hk).symm
  have hpe := h.fp.e
  refine sB Tryz.func223 Tryz.ntmps223 ?_
  intro hbox htok
  simp only at hbox htok
  apply AL.start
  have hkn := key_lt hbox hk
  have hLe : (L.length : Int) = (p.edges.length : Int) := by omega
  try (simp [lb_out hkn, hk])
  repeat (refine sR ?_; simp [lb_out hkn, hk])
  have hb : ((L.length : Int) == (p.edges.length : Int)) = true := by simp [hLe]
  have he0 : exE p g x m N 0 L = [⟨N, L⟩] := rfl
  rw [he0] at hroom ⊢
  simp only [List.length_cons, List.length_nil] at hroom
  simp only [hb]
  refine sC ?_
  simp
  try (simp [lb_out hkn, hk, upd_lb_out hkn])
  repeat (refine sR ?_; simp [lb_out hkn, hk, upd_lb_out hkn])
  refine ⟨⟨by omega, hlive⟩, ?_⟩
  try (simp [lb_out hkn, hk, upd_lb_out hkn])
  repeat (refine sR ?_; simp [lb_out hkn, hk, upd_lb_out hkn])
  refine sT ?_
  try simp only [AU]
  refine ⟨by simp, (Fin.gen (vs := []) (av := .tup []) (tok' := upd (own.kill tok) nt true) (nt' := nt + 1) (by simp [resAs, resA]) ?_ (by omega) (Nat.le_refl _) (fun t h => ⟨h, .inl rfl⟩) ?_ (by simp [packA])).mono fun v M hq => ⟨hq.1, .tok nt, upd (own.kill tok) nt true, nt + 1, ?_, Adv.app hlive htok⟩⟩
  ·rw [← upd_lb_out hkn, hbox]
  ·intro k' rows hk' hr
   by_cases e : k' = k
   ·subst e
    rw [upd_same] at hr
    cases hr
    exact .inr (by simp)
   ·rw [upd_other _ _ e] at hr
    exact .inl hr
  ·rw [hq.2]
   simp [fiRow]
 | succ r ih =>
  intro L out own box nb k tok nt hL hroom hk hlive
  have hself : box = upd box k (some [fiRow p g x m out own]) := (upd_self box k _ hk).symm
  have hpe := h.fp.e
  have hge := h.fg.e
  have hlt : L.length < p.edges.length := by omega
  refine sB Tryz.func223 Tryz.ntmps223 ?_
  intro hbox htok
  simp only at hbox htok
  apply AL.start
  have hkn := key_lt hbox hk
  try (simp [lb_out hkn, hk])
  repeat (refine sR ?_; simp [lb_out hkn, hk])
  have hb : ((L.length : Int) == (p.edges.length : Int)) = false := by simp; omega
  simp only [hb]
  refine sC ?_
  simp
  try (simp [lb_out hkn, hk, hlt])
  repeat (refine sR ?_; simp [lb_out hkn, hk, hlt])
  refine Stop.of_d (index33_c x.edges L.length h.fx.e _ _) ?_
  simp
  try (simp [lb_out hkn, hk, hlt])
  repeat (refine sR ?_; simp [lb_out hkn, hk, hlt])
  refine sN ?_
  obtain ⟨x1, x2, x3, x4⟩ := h.ep p.edges[L.length] (List.getElem_mem hlt)
  have hwant : wantX p N L.length = ⟨p.edges[L.length].ty, N.getD p.edges[L.length].fr.toNat 0, N.getD p.edges[L.length].to.toNat 0⟩ := by simp [wantX, hlt]
  have hcand : ∀ i : Nat, candE33 p g x m N r L i = if (!decide ((i : Int) ∈ L) && (decide (g.edges.getD i default = wantX p N L.length) && atB x.edges m.edges L.length i)) = true then exE p g x m N r (L ++ [(i : Int)]) else [] := fun i => rfl
  rw [hwant] at hcand
  generalize p.edges[L.length] = e at *
  have y1 : e.fr.toNat < N.length := by omega
  have y2 : e.to.toNat < N.length := by omega
  have hlb : ∀ loc, lb nb box loc = lb nb (upd box k (some [fiRow p g x m out own])) loc := fun loc => by rw [← hself]
  rw [hlb]
  rw [exE_succ] at hroom ⊢
  refine AL.loopT (stFe p g x m N L e nb k box) (fun y => y.i ≤ g.edges.length ∧ y.out = out ++ (List.range y.i).flatMap (candE33 p g x m N r L) ∧ Adv tok nt own y.tok y.nt y.own) (fun y => g.edges.length - y.i)
   ⟨0, out, own, tok, nt⟩ ⟨Nat.zero_le _, by simp, Adv.refl hlive htok⟩ (Weaks.mk' (Nat.le_refl _) (by simp [ToL, lk]; exact to_ptr (by rw [lb_out hkn, upd_same]; simp)) (by simp [BoxL, lk]) (fiOk rfl)) ?_
  rintro ⟨i, out2, own2, tok2, nt2⟩ S ⟨hi, hout, hadv2⟩ hS
  simp only [stFe] at hS hi hout hadv2
  subst hS
  have hw := sW (i := i) (by omega)
  have hsucc : (List.range (i + 1)).flatMap (candE33 p g x m N r L) = (List.range i).flatMap (candE33 p g x m N r L) ++ candE33 p g x m N r L i := by rw [List.range_succ, List.flatMap_append]; simp
  try (simp [lb_out hkn, upd_same])
  repeat (refine sR ?_; simp [lb_out hkn, upd_same])
  refine sC ?_
  simp
  refine ⟨fun hli => ?_, fun hge => ?_⟩
  ·have hcand' := hcand i
   try (simp [lb_out hkn, upd_same])
   repeat (refine sR ?_; simp [lb_out hkn, upd_same])
   refine Stop.of_d (used33_c L i (by omega) _ _) ?_
   simp [lb_out hkn, upd_same]
   have hgi : g.edges.getD i default = g.edges[i] := by simp [hli]
   have hNf : N.getD e.fr.toNat 0 = N[e.fr.toNat] := by simp [y1]
   have hNt : N.getD e.to.toNat 0 = N[e.to.toNat] := by simp [y2]
   rw [hgi, hNf, hNt] at hcand'
   by_cases hin : (i : Int) ∈ L
   ·have hc0 : candE33 p g x m N r L i = [] := by rw [hcand', if_neg (by simp [hin])]
    simp [hin]
    try (simp [lb_out hkn, upd_same])
    repeat (refine sR ?_; simp [lb_out hkn, upd_same])
    refine sC ?_
    simp
    try (simp [hw])
    repeat (refine sR ?_; simp [hw])
    refine sE ?_
    refine ⟨⟨i + 1, out2, own2, tok2, nt2⟩, ⟨hli, by simp only; rw [hsucc, hc0, List.append_nil]; exact hout, hadv2⟩, by simp only; omega, Weaks.mk' hadv2.le (by simp [ToL, lk]; exact to_ptr (by rw [lb_out hkn, upd_same]; simp)) (by simp [BoxL, lk]) (fiOk rfl)⟩
   ·simp [hin, lb_out hkn, upd_same, hli, x1, x3, y1, y2]
    simp only [E.eq_and3]
    refine ⟨by omega, by omega, ?_⟩
    by_cases hE : g.edges[i] = ⟨e.ty, N[e.fr.toNat], N[e.to.toNat]⟩
    ·rw [decide_eq_true hE]
     have hat : atB x.edges m.edges L.length i = (decide (indexI x.edges L.length < 0) || decide (m.edges.getD (indexI x.edges L.length).toNat 0 = i)) := rfl
     have hidx : indexI x.edges L.length < 0 ∨ (0 ≤ indexI x.edges L.length ∧ (indexI x.edges L.length).toNat < m.edges.length ∧ indexI x.edges L.length < m.edges.length) := by
      rcases indexI_cases x.edges L.length with ⟨_, h1⟩ | ⟨j, hj, h1, _⟩
      ·left; omega
      ·right; have := h.le; rw [h1]; omega
     generalize hqe : indexI x.edges ↑L.length = q at *
     rcases hidx with hq | ⟨hq0, hq1, hq2⟩
     ·have hbq : decide (q < 0) = true := decide_eq_true hq
      simp [hq]
      try (simp [lb_out hkn, upd_same, hq])
      repeat (refine sR ?_; simp [lb_out hkn, upd_same, hq])
      have hc1 : candE33 p g x m N r L i = exE p g x m N r (L ++ [(i : Int)]) := by rw [hcand', if_pos (by simp [hin, hE, hat, hq])]
      refine sC ?_
      simp
      try (simp [lb_out hkn, upd_same])
      repeat (refine sR ?_; simp [lb_out hkn, upd_same])
      refine ⟨by omega, by omega, ?_⟩
      refine Stop.data ?_
      simp only [List.map, AV.asD]
      rw [rI_snoc]
      have had := Adv.fresh hadv2.live hadv2.lt
      have hlen := flat_le (candE33 p g x m N r L) (show i + 1 ≤ g.edges.length from hli)
      rw [hsucc, hc1, List.length_append] at hlen
      refine Stop.of_a (ih (L ++ [(i : Int)]) out2 own2 _ _ k _ _ (by simp; omega) (by rw [hout, List.length_append]; omega) (by simp only [lb_out hkn, upd_same]) had.live) ?_
      rintro v M ⟨rfl, own3, tok3, nt3, rfl, hadv⟩
      simp [upd_lb_out hkn, upd_upd]
      have had3 : Adv tok nt own tok3 nt3 own3 := hadv2.trans htok (had.trans hadv2.lt hadv)
      clear hadv had
      try (simp [hw])
      repeat (refine sR ?_; simp [hw])
      refine sE ?_
      refine ⟨⟨i + 1, out2 ++ exE p g x m N r (L ++ [(i : Int)]), own3, tok3, nt3⟩, ⟨hli, by simp only; rw [hsucc, hc1, hout, List.append_assoc], had3⟩, by simp only; omega, ?_⟩
      simp only [stFe]
      refine Weaks.mk' had3.le ?_ ?_ (fiOk rfl)
      ·simp [ToL, lk, hqe]
       exact to_ptr (by rw [lb_out hkn, upd_same]; simp)
      ·simp [BoxL, lk]
     ·have hq : ¬ q < 0 := by omega
      have hmf : m.edges.getD q.toNat 0 = m.edges[q.toNat] := by simp [hq1]
      rw [hmf] at hat
      by_cases hm : m.edges[q.toNat] = (i : Int)
      ·simp [hq, lb_out hkn, upd_same, hq0, hq1, hq2, hm]
       try (simp [lb_out hkn, upd_same, hq])
       repeat (refine sR ?_; simp [lb_out hkn, upd_same, hq])
       have hc1 : candE33 p g x m N r L i = exE p g x m N r (L ++ [(i : Int)]) := by rw [hcand', if_pos (by simp [hin, hE, hat, hq, hm])]
       refine sC ?_
       simp
       try (simp [lb_out hkn, upd_same])
       repeat (refine sR ?_; simp [lb_out hkn, upd_same])
       refine ⟨by omega, by omega, ?_⟩
       refine Stop.data ?_
       simp only [List.map, AV.asD]
       rw [rI_snoc]
       have had := Adv.fresh hadv2.live hadv2.lt
       have hlen := flat_le (candE33 p g x m N r L) (show i + 1 ≤ g.edges.length from hli)
       rw [hsucc, hc1, List.length_append] at hlen
       refine Stop.of_a (ih (L ++ [(i : Int)]) out2 own2 _ _ k _ _ (by simp; omega) (by rw [hout, List.length_append]; omega) (by simp only [lb_out hkn, upd_same]) had.live) ?_
       rintro v M ⟨rfl, own3, tok3, nt3, rfl, hadv⟩
       simp [upd_lb_out hkn, upd_upd]
       have had3 : Adv tok nt own tok3 nt3 own3 := hadv2.trans htok (had.trans hadv2.lt hadv)
       clear hadv had
       try (simp [hw])
       repeat (refine sR ?_; simp [hw])
       refine sE ?_
       refine ⟨⟨i + 1, out2 ++ exE p g x m N r (L ++ [(i : Int)]), own3, tok3, nt3⟩, ⟨hli, by simp only; rw [hsucc, hc1, hout, List.append_assoc], had3⟩, by simp only; omega, ?_⟩
       simp only [stFe]
       refine Weaks.mk' had3.le ?_ ?_ (fiOk rfl)
       ·simp [ToL, lk, hqe]
        exact to_ptr (by rw [lb_out hkn, upd_same]; simp)
       ·simp [BoxL, lk]
      ·have hc0 : candE33 p g x m N r L i = [] := by rw [hcand', if_neg (by simp [hat, hq, hm])]
       have hbm : (m.edges[q.toNat] == (i : Int)) = false := by simp [hm]
       simp [hq, lb_out hkn, upd_same, hq0, hq1, hq2, hbm]
       try (simp [lb_out hkn, upd_same, hq])
       repeat (refine sR ?_; simp [lb_out hkn, upd_same, hq])
       refine sC ?_
       simp
       try (simp [hw])
       repeat (refine sR ?_; simp [hw])
       refine sE ?_
       refine ⟨⟨i + 1, out2, own2, tok2, nt2⟩, ⟨hli, by simp only; rw [hsucc, hc0, List.append_nil]; exact hout, hadv2⟩, by simp only; omega, Weaks.mk' hadv2.le (by simp [ToL, lk, hqe]; exact to_ptr (by rw [lb_out hkn, upd_same]; simp)) (by simp [BoxL, lk]) (fiOk rfl)⟩
    ·have hc0 : candE33 p g x m N r L i = [] := by rw [hcand', if_neg (by simp [hE])]
     rw [decide_eq_false hE]
     simp
     try (simp [lb_out hkn, upd_same])
     repeat (refine sR ?_; simp [lb_out hkn, upd_same])
     refine sC ?_
     simp
     try (simp [hw])
     repeat (refine sR ?_; simp [hw])
     refine sE ?_
     refine ⟨⟨i + 1, out2, own2, tok2, nt2⟩, ⟨hli, by simp only; rw [hsucc, hc0, List.append_nil]; exact hout, hadv2⟩, by simp only; omega, Weaks.mk' hadv2.le (by simp [ToL, lk]; exact to_ptr (by rw [lb_out hkn, upd_same]; simp)) (by simp [BoxL, lk]) (fiOk rfl)⟩
  ·refine sX ?_
   simp only [AU, ↓reduceIte]
   have hin : i = g.edges.length := by omega
   subst hin
   refine sE ?_
   refine ⟨by simp, (Fin.gen (vs := []) (av := .tup []) (tok' := tok2) (nt' := nt2) (by simp [resAs, resA]) ?_ hadv2.le (Nat.le_refl _) (fun t h => ⟨h, .inl rfl⟩) (fiOk (by simp)) (by simp [packA])).mono fun v M hq => ⟨hq.1, own2, tok2, nt2, ?_, hadv2⟩⟩
   ·rw [← upd_lb_out hkn, hbox]
   ·rw [hq.2, hout]
end Go.AM
namespace Go.AM
open Go Go.Proofs
structure Ls (ok : Nat → Nat → Bool) (m r : Nat) (L L' : List Int) : Prop where
 len : L'.length = L.length + r
 pre : ∀ j, j < L.length → L'.getD j 0 = L.getD j 0
 new : ∀ j, L.length ≤ j → j < L'.length → ∃ k : Nat, L'.getD j 0 = k ∧ k < m ∧ ok j k = true ∧ ∀ i, i < j → L'.getD i 0 ≠ k
theorem lst_mem {β : Type} (ok : Nat → Nat → Bool) (m : Nat) (fin : List Int → List β) (y : β) : ∀ (r : Nat) (L : List Int), y ∈ lst ok m fin r L ↔ ∃ L', Ls ok m r L L' ∧ y ∈ fin L'
 | 0, L => by
  simp only [lst]
  constructor
  ·intro h
   exact ⟨L, ⟨by omega, fun _ _ => rfl, fun j h1 h2 => by omega⟩, h⟩
  ·rintro ⟨L', h, hy⟩
   have : L' = L := ext_getD (by have := h.len; omega) fun j hj => h.pre j (by have := h.len; omega)
   rwa [this] at hy
 | r + 1, L => by
  simp only [lst, List.mem_flatMap, List.mem_range]
  constructor
  ·rintro ⟨k, hk, hy⟩
   split at hy
   ·rename_i hc
    simp only [Bool.and_eq_true, Bool.not_eq_true', decide_eq_false_iff_not] at hc
    obtain ⟨L', h, hf⟩ := (lst_mem ok m fin y r (L ++ [(k : Int)])).1 hy
    have hl := h.len
    simp only [List.length_append, List.length_cons, List.length_nil] at hl
    have hpre : ∀ j, j < L.length → L'.getD j 0 = L.getD j 0 := fun j hj => by rw [h.pre j (by simp; omega), getD_lt hj]
    refine ⟨L', ⟨by omega, hpre, fun j h1 h2 => ?_⟩, hf⟩
    by_cases e : j = L.length
    ·subst e
     refine ⟨k, by rw [h.pre _ (by simp), getD_at], hk, hc.2, fun i hi e2 => hc.1 ?_⟩
     rw [hpre i hi] at e2
     rw [← e2]
     exact getD_mem hi
    ·exact h.new j (by simp; omega) h2
   ·simp at hy
  ·rintro ⟨L', h, hf⟩
   have hl := h.len
   obtain ⟨k, k1, k2, k3, k4⟩ := h.new L.length (Nat.le_refl _) (by omega)
   have hk : (k : Int) ∉ L := fun hm => by
    obtain ⟨j, hj, e⟩ := mem_getD hm
    exact k4 j hj (by rw [h.pre j hj, e])
   refine ⟨k, k2, ?_⟩
   rw [if_pos (by simp [hk, k3])]
   refine (lst_mem ok m fin y r (L ++ [(k : Int)])).2 ⟨L', ⟨by simp; omega, fun j hj => ?_, fun j h1 h2 => h.new j (by simp at h1; omega) h2⟩, hf⟩
   simp only [List.length_append, List.length_cons, List.length_nil] at hj
   by_cases e : j = L.length
   ·subst e; rw [getD_at, k1]
   ·rw [getD_lt (by omega)]; exact h.pre j (by omega)
theorem Ls.nodup {ok : Nat → Nat → Bool} {m r : Nat} {L' : List Int} (h : Ls ok m r [] L') : L'.Nodup := by
 rw [nodup_getD]
 intro i j hij hj e
 obtain ⟨k, k1, _, _, k4⟩ := h.new j (Nat.zero_le _) hj
 exact k4 i hij (by rw [e, k1])
theorem lst_len {β : Type} (ok : Nat → Nat → Bool) (m : Nat) (fin : List Int → List β) (B : Nat) (hB : ∀ L, (fin L).length ≤ B) : ∀ (r : Nat) (L : List Int), (lst ok m fin r L).length ≤ m ^ r * B
 | 0, L => by simp only [lst, Nat.pow_zero, Nat.one_mul]; exact hB L
 | r + 1, L => by
  simp only [lst]
  have := flatMap_le (fun (k : Nat) => if (!decide ((k : Int) ∈ L) && ok L.length k) = true then lst ok m fin r (L ++ [(k : Int)]) else []) (m ^ r * B) (fun k => by
   split
   ·exact lst_len ok m fin B hB r _
   ·simp) (List.range m)
  rw [List.length_range] at this
  rw [Nat.pow_succ, Nat.mul_comm (m ^ r) m, Nat.mul_assoc]
  exact this
theorem exE_len (p g : Gr) (x m : Mo) (N : List Int) (r : Nat) (L : List Int) : (exE p g x m N r L).length ≤ g.edges.length ^ r := by
 have := lst_len (okXE p g x m N) g.edges.length (fun E => [(⟨N, E⟩ : Mo)]) 1 (fun _ => by simp) r L
 rw [Nat.mul_one] at this
 exact this
theorem exN_len (p g : Gr) (x m : Mo) (r : Nat) (L : List Int) : (exN p g x m r L).length ≤ g.nodes.length ^ r * g.edges.length ^ p.edges.length :=
 lst_len _ _ _ _ (fun N => exE_len p g x m N _ _) r L
theorem atB_iff {by' of : List Int} {i k : Nat} : atB by' of i k = true ↔ ∀ j, j < by'.length → indexI by' i = j → of.getD j 0 = k := by
 simp only [atB, Bool.or_eq_true, decide_eq_true_eq]
 rcases indexI_cases by' i with ⟨_, h⟩ | ⟨j, hj, h, _⟩
 ·rw [h]
  constructor
  ·intro _ j _ e; omega
  ·intro _; exact .inl (by omega)
 ·rw [h]
  constructor
  ·rintro (h1 | h1) q hq e
   ·omega
   ·have : q = j := by omega
    subst this
    rwa [Int.toNat_natCast] at h1
  ·intro h1
   exact .inr (by rw [Int.toNat_natCast]; exact h1 j hj rfl)
theorem exts_iff {a p g : Gr} {x m : Mo} (hx : Emb a p x) (hm : Emb a g m) (q : Mo) : q ∈ exts p g x m ↔ Emb p g q ∧ thenM x q = m := by
 have v := hx.vm
 have w := hm.vm
 have atN : ∀ i, i < a.nodes.length → indexI x.nodes (x.nodes.getD i 0) = i := fun i hi => indexI_at hx.n (by rw [v.ln]; exact hi)
 have atE : ∀ i, i < a.edges.length → indexI x.edges (x.edges.getD i 0) = i := fun i hi => indexI_at hx.e (by rw [v.le]; exact hi)
 unfold exts exN
 rw [lst_mem]
 constructor
 ·rintro ⟨N, hN, hq⟩
  unfold exE at hq
  rw [lst_mem] at hq
  obtain ⟨E', hE, hq⟩ := hq
  rw [List.mem_singleton] at hq
  subst hq
  have lN : N.length = p.nodes.length := by simpa using hN.len
  have lE : E'.length = p.edges.length := by simpa using hE.len
  have on : ∀ i, i < a.nodes.length → N.getD (x.nodes.getD i 0).toNat 0 = m.nodes.getD i 0 := fun i hi => by
   have hxi := nat_of (v.n _ (getD_mem (d := 0) (show i < x.nodes.length by rw [v.ln]; exact hi)))
   obtain ⟨k, k1, k2, k3, _⟩ := hN.new _ (Nat.zero_le _) (by rw [lN]; exact hxi.1)
   have h3 := (Bool.and_eq_true _ _ ▸ k3).2
   rw [atB_iff, hxi.2] at h3
   rw [k1, h3 i (by rw [v.ln]; exact hi) (atN i hi)]
  have oe : ∀ i, i < a.edges.length → E'.getD (x.edges.getD i 0).toNat 0 = m.edges.getD i 0 := fun i hi => by
   have hxi := nat_of (v.e _ (getD_mem (d := 0) (show i < x.edges.length by rw [v.le]; exact hi)))
   obtain ⟨k, k1, k2, k3, _⟩ := hE.new _ (Nat.zero_le _) (by rw [lE]; exact hxi.1)
   have h3 := (Bool.and_eq_true _ _ ▸ k3).2
   rw [atB_iff, hxi.2] at h3
   rw [k1, h3 i (by rw [v.le]; exact hi) (atE i hi)]
  refine ⟨⟨validM_of ⟨v.vb, w.vb, lN, lE, fun y hy => ?_, fun y hy => ?_, fun j hj => ?_, fun j hj => ?_⟩, hN.nodup, hE.nodup⟩, ?_⟩
  ·obtain ⟨j, hj, rfl⟩ := mem_getD hy
   obtain ⟨k, k1, k2, _⟩ := hN.new j (Nat.zero_le _) hj
   rw [k1]; omega
  ·obtain ⟨j, hj, rfl⟩ := mem_getD hy
   obtain ⟨k, k1, k2, _⟩ := hE.new j (Nat.zero_le _) hj
   rw [k1]; omega
  ·obtain ⟨k, k1, k2, k3, _⟩ := hN.new j (Nat.zero_le _) (by rw [lN]; exact hj)
   simp only
   rw [k1, Int.toNat_natCast]
   exact of_decide_eq_true (Bool.and_eq_true _ _ ▸ k3).1
  ·obtain ⟨k, k1, k2, k3, _⟩ := hE.new j (Nat.zero_le _) (by rw [lE]; exact hj)
   simp only
   rw [k1, Int.toNat_natCast]
   exact of_decide_eq_true (Bool.and_eq_true _ _ ▸ k3).1
  ·simp only [thenM]
   rw [byK_ext (t := m.nodes) (by rw [v.ln, w.ln]) (fun i hi => on i (by rw [← v.ln]; exact hi)), byK_ext (t := m.edges) (by rw [v.le, w.le]) (fun i hi => oe i (by rw [← v.le]; exact hi))]
 ·rintro ⟨hq, he⟩
  have u := hq.vm
  have qn : ∀ i, i < x.nodes.length → q.nodes.getD (x.nodes.getD i 0).toNat 0 = m.nodes.getD i 0 := fun i hi => by rw [← he]; exact (byK_getD hi).symm
  have qe : ∀ i, i < x.edges.length → q.edges.getD (x.edges.getD i 0).toNat 0 = m.edges.getD i 0 := fun i hi => by rw [← he]; exact (byK_getD hi).symm
  have at1 : ∀ (by' of t : List Int) (j : Nat), (∀ i, i < by'.length → t.getD (by'.getD i 0).toNat 0 = of.getD i 0) → 0 ≤ t.getD j 0 → atB by' of j (t.getD j 0).toNat = true := fun by' of t j h h0 => by
   rw [atB_iff]
   intro i hi e
   rcases indexI_cases by' j with ⟨_, h1⟩ | ⟨i', hi', h1, h2⟩
   ·omega
   ·have : i' = i := by omega
    subst this
    have := h i' hi'
    rw [h2, Int.toNat_natCast] at this
    omega
  refine ⟨q.nodes, ⟨by simpa using u.ln, fun j hj => by simp at hj, fun j _ hj => ?_⟩, ?_⟩
  ·have h1 := u.n _ (getD_mem (d := 0) hj)
   refine ⟨_, (nat_of h1).2.symm, (nat_of h1).1, ?_, fun i hi e => ?_⟩
   ·unfold okXN
    rw [Bool.and_eq_true]
    exact ⟨decide_eq_true (u.nt j (by rw [← u.ln]; exact hj)), at1 _ _ _ j qn h1.1⟩
   ·rw [(nat_of h1).2] at e
    exact nodup_getD.1 hq.n i j hi hj e
  ·unfold exE
   rw [lst_mem]
   refine ⟨q.edges, ⟨by simpa using u.le, fun j hj => by simp at hj, fun j _ hj => ?_⟩, by simp⟩
   have h1 := u.e _ (getD_mem (d := 0) hj)
   refine ⟨_, (nat_of h1).2.symm, (nat_of h1).1, ?_, fun i hi e => ?_⟩
   ·unfold okXE
    rw [Bool.and_eq_true]
    exact ⟨decide_eq_true (u.et j (by rw [← u.le]; exact hj)), at1 _ _ _ j qe h1.1⟩
   ·rw [(nat_of h1).2] at e
    exact nodup_getD.1 hq.e i j hi hj e
end Go.AM
namespace Go.AM
open Go Go.Proofs
def candN33 (p g : Gr) (x m : Mo) (r : Nat) (L : List Int) (k : Nat) : List Mo := if (!decide ((k : Int) ∈ L) && okXN p g x m L.length k) = true then exN p g x m r (L ++ [(k : Int)]) else []
theorem exN_succ (p g : Gr) (x m : Mo) (r : Nat) (L : List Int) : exN p g x m (r + 1) L = (List.range g.nodes.length).flatMap (candN33 p g x m r L) := rfl
theorem exN_zero (p g : Gr) (x m : Mo) (L : List Int) : exN p g x m 0 L = exE p g x m L p.edges.length [] := rfl
def stFn (p g : Gr) (x m : Mo) (L : List Int) (nb k : Nat) (box : Bxs) (y : AccM) : AState :=
 ⟨tl [(0, .ptr k 0 0), (1, .d (ints L)), (4, I L.length), (5, I (indexI x.nodes L.length)), (6, I y.i)],
  lb nb (upd box k (some [fiRow p g x m y.out y.own])) [], y.tok, y.nt⟩
set_option maxRecDepth 100000 in
theorem nodes33_c (p g : Gr) (x m : Mo) (h : FiH p g x m) : ∀ (r : Nat) (L : List Int) (out : List Mo) (own : Own) (box : Bxs) (nb k : Nat) (tok : Tks) (nt : Nat), L.length + r = p.nodes.length →
  out.length + (exN p g x m r L).length ≤ 1000000000000 → box k = some [fiRow p g x m out own] → own.liveP tok →
  ACalls Tryz.prog 144 [.ptr k 0 0, .d (ints L)] ⟨box, nb, tok, nt⟩ (QFi p g x m box nb k tok nt own (out ++ exN p g x m r L)) := by
 intro r
 induction r with
 | zero =>
  intro L out own box nb k tok nt hL hroom hk hlive
  have hpe := h.fp.n
  rw [exN_zero] at hroom ⊢
  refine sB Tryz.func144 Tryz.ntmps144 ?_
  intro hbox htok
  simp only at hbox htok
  apply AL.start
  have hkn := key_lt hbox hk
  have hLe : (L.length : Int) = (p.nodes.length : Int) := by omega
  try (simp [lb_out hkn, hk])
  repeat (refine sR ?_; simp [lb_out hkn, hk])
  have hb : ((L.length : Int) == (p.nodes.length : Int)) = true := by simp [hLe]
  simp only [hb]
  refine sC ?_
  simp
  try (simp [lb_out hkn, hk])
  repeat (refine sR ?_; simp [lb_out hkn, hk])
  refine Stop.sub (args' := [.ptr k 0 0, .d (ints L), .d (ints [])]) ⟨Sub.refl _, Sub.refl _, Sub.nil _ _ _, trivial⟩ ?_
  refine Stop.of_a (edges33_c p g x m L h (by omega) p.edges.length [] out own _ _ k _ _ (by simp) hroom (by simp only [lb_out hkn, hk]) hlive) ?_
  rintro v M ⟨rfl, own3, tok3, nt3, rfl, hadv⟩
  simp [upd_lb_out hkn]
  try (simp)
  repeat (refine sR ?_; simp)
  refine sT ?_
  try simp only [AU]
  refine ⟨by simp, (Fin.gen (vs := []) (av := .tup []) (tok' := tok3) (nt' := nt3) (by simp [resAs, resA]) ?_ hadv.le (Nat.le_refl _) (fun t h => ⟨h, .inl rfl⟩) (fiOk (by simp)) (by simp [packA])).mono fun v M hq => ⟨hq.1, own3, tok3, nt3, hq.2, hadv⟩⟩
  rw [← upd_lb_out hkn, hbox]
 | succ r ih =>
  intro L out own box nb k tok nt hL hroom hk hlive
  have hself : box = upd box k (some [fiRow p g x m out own]) := (upd_self box k _ hk).symm
  have hpe := h.fp.n
  have hge := h.fg.n
  have hlt : L.length < p.nodes.length := by omega
  refine sB Tryz.func144 Tryz.ntmps144 ?_
  intro hbox htok
  simp only at hbox htok
  apply AL.start
  have hkn := key_lt hbox hk
  try (simp [lb_out hkn, hk])
  repeat (refine sR ?_; simp [lb_out hkn, hk])
  have hb : ((L.length : Int) == (p.nodes.length : Int)) = false := by simp; omega
  simp only [hb]
  refine sC ?_
  simp
  try (simp [lb_out hkn, hk, hlt])
  repeat (refine sR ?_; simp [lb_out hkn, hk, hlt])
  refine Stop.of_d (index33_c x.nodes L.length h.fx.n _ _) ?_
  simp
  try (simp [lb_out hkn, hk, hlt])
  repeat (refine sR ?_; simp [lb_out hkn, hk, hlt])
  refine sN ?_
  have hcand : ∀ i : Nat, candN33 p g x m r L i = if (!decide ((i : Int) ∈ L) && (decide (g.nodes.getD i 0 = p.nodes.getD L.length 0) && atB x.nodes m.nodes L.length i)) = true then exN p g x m r (L ++ [(i : Int)]) else [] := fun i => rfl
  have hpi : p.nodes.getD L.length 0 = p.nodes[L.length] := by simp [hlt]
  rw [hpi] at hcand
  have hlb : ∀ loc, lb nb box loc = lb nb (upd box k (some [fiRow p g x m out own])) loc := fun loc => by rw [← hself]
  rw [hlb]
  rw [exN_succ] at hroom ⊢
  refine AL.loopT (stFn p g x m L nb k box) (fun y => y.i ≤ g.nodes.length ∧ y.out = out ++ (List.range y.i).flatMap (candN33 p g x m r L) ∧ Adv tok nt own y.tok y.nt y.own) (fun y => g.nodes.length - y.i)
   ⟨0, out, own, tok, nt⟩ ⟨Nat.zero_le _, by simp, Adv.refl hlive htok⟩ (Weaks.mk' (Nat.le_refl _) (by simp [ToL, lk]; exact to_ptr (by rw [lb_out hkn, upd_same]; simp)) (by simp [BoxL, lk]) (fiOk rfl)) ?_
  rintro ⟨i, out2, own2, tok2, nt2⟩ S ⟨hi, hout, hadv2⟩ hS
  simp only [stFn] at hS hi hout hadv2
  subst hS
  have hw := sW (i := i) (by omega)
  have hsucc : (List.range (i + 1)).flatMap (candN33 p g x m r L) = (List.range i).flatMap (candN33 p g x m r L) ++ candN33 p g x m r L i := by rw [List.range_succ, List.flatMap_append]; simp
  try (simp [lb_out hkn, upd_same])
  repeat (refine sR ?_; simp [lb_out hkn, upd_same])
  refine sC ?_
  simp
  refine ⟨fun hli => ?_, fun hge => ?_⟩
  ·have hcand' := hcand i
   try (simp [lb_out hkn, upd_same])
   repeat (refine sR ?_; simp [lb_out hkn, upd_same])
   refine Stop.of_d (used33_c L i (by omega) _ _) ?_
   simp [lb_out hkn, upd_same]
   have hgi : g.nodes.getD i 0 = g.nodes[i] := by simp [hli]
   rw [hgi] at hcand'
   by_cases hin : (i : Int) ∈ L
   ·have hc0 : candN33 p g x m r L i = [] := by rw [hcand', if_neg (by simp [hin])]
    simp [hin]
    try (simp [lb_out hkn, upd_same])
    repeat (refine sR ?_; simp [lb_out hkn, upd_same])
    refine sC ?_
    simp
    try (simp [hw])
    repeat (refine sR ?_; simp [hw])
    refine sE ?_
    refine ⟨⟨i + 1, out2, own2, tok2, nt2⟩, ⟨hli, by simp only; rw [hsucc, hc0, List.append_nil]; exact hout, hadv2⟩, by simp only; omega, Weaks.mk' hadv2.le (by simp [ToL, lk]; exact to_ptr (by rw [lb_out hkn, upd_same]; simp)) (by simp [BoxL, lk]) (fiOk rfl)⟩
   ·by_cases hE : g.nodes[i] = p.nodes[L.length]
    ·have hat : atB x.nodes m.nodes L.length i = (decide (indexI x.nodes L.length < 0) || decide (m.nodes.getD (indexI x.nodes L.length).toNat 0 = i)) := rfl
     have hidx : indexI x.nodes L.length < 0 ∨ (0 ≤ indexI x.nodes L.length ∧ (indexI x.nodes L.length).toNat < m.nodes.length ∧ indexI x.nodes L.length < m.nodes.length) := by
      rcases indexI_cases x.nodes L.length with ⟨_, h1⟩ | ⟨j, hj, h1, _⟩
      ·left; omega
      ·right; have := h.ln; rw [h1]; omega
     generalize hqe : indexI x.nodes ↑L.length = q at *
     rcases hidx with hq | ⟨hq0, hq1, hq2⟩
     ·simp [hin, lb_out hkn, upd_same, hli, hlt, hE, hq]
      try (simp [lb_out hkn, upd_same, hq])
      repeat (refine sR ?_; simp [lb_out hkn, upd_same, hq])
      have hc1 : candN33 p g x m r L i = exN p g x m r (L ++ [(i : Int)]) := by rw [hcand', if_pos (by simp [hin, hE, hat, hq])]
      refine sC ?_
      simp
      try (simp [lb_out hkn, upd_same])
      repeat (refine sR ?_; simp [lb_out hkn, upd_same])
      refine ⟨by omega, by omega, ?_⟩
      refine Stop.data ?_
      simp only [List.map, AV.asD]
      rw [rI_snoc]
      have had := Adv.fresh hadv2.live hadv2.lt
      have hlen := flat_le (candN33 p g x m r L) (show i + 1 ≤ g.nodes.length from hli)
      rw [hsucc, hc1, List.length_append] at hlen
      refine Stop.of_a (ih (L ++ [(i : Int)]) out2 own2 _ _ k _ _ (by simp; omega) (by rw [hout, List.length_append]; omega) (by simp only [lb_out hkn, upd_same]) had.live) ?_
      rintro v M ⟨rfl, own3, tok3, nt3, rfl, hadv⟩
      simp [upd_lb_out hkn, upd_upd]
      have had3 : Adv tok nt own tok3 nt3 own3 := hadv2.trans htok (had.trans hadv2.lt hadv)
      clear hadv had
      try (simp [hw])
      repeat (refine sR ?_; simp [hw])
      refine sE ?_
      refine ⟨⟨i + 1, out2 ++ exN p g x m r (L ++ [(i : Int)]), own3, tok3, nt3⟩, ⟨hli, by simp only; rw [hsucc, hc1, hout, List.append_assoc], had3⟩, by simp only; omega, ?_⟩
      simp only [stFn]
      refine Weaks.mk' had3.le ?_ ?_ (fiOk rfl)
      ·simp [ToL, lk, hqe]
       exact to_ptr (by rw [lb_out hkn, upd_same]; simp)
      ·simp [BoxL, lk]
     ·have hq : ¬ q < 0 := by omega
      have hmf : m.nodes.getD q.toNat 0 = m.nodes[q.toNat] := by simp [hq1]
      rw [hmf] at hat
      by_cases hm : m.nodes[q.toNat] = (i : Int)
      ·simp [hin, hq, lb_out hkn, upd_same, hli, hlt, hE, hq0, hq1, hq2, hm]
       try (simp [lb_out hkn, upd_same, hq])
       repeat (refine sR ?_; simp [lb_out hkn, upd_same, hq])
       have hc1 : candN33 p g x m r L i = exN p g x m r (L ++ [(i : Int)]) := by rw [hcand', if_pos (by simp [hin, hE, hat, hq, hm])]
       refine sC ?_
       simp
       try (simp [lb_out hkn, upd_same])
       repeat (refine sR ?_; simp [lb_out hkn, upd_same])
       refine ⟨by omega, by omega, ?_⟩
       refine Stop.data ?_
       simp only [List.map, AV.asD]
       rw [rI_snoc]
       have had := Adv.fresh hadv2.live hadv2.lt
       have hlen := flat_le (candN33 p g x m r L) (show i + 1 ≤ g.nodes.length from hli)
       rw [hsucc, hc1, List.length_append] at hlen
       refine Stop.of_a (ih (L ++ [(i : Int)]) out2 own2 _ _ k _ _ (by simp; omega) (by rw [hout, List.length_append]; omega) (by simp only [lb_out hkn, upd_same]) had.live) ?_
       rintro v M ⟨rfl, own3, tok3, nt3, rfl, hadv⟩
       simp [upd_lb_out hkn, upd_upd]
       have had3 : Adv tok nt own tok3 nt3 own3 := hadv2.trans htok (had.trans hadv2.lt hadv)
       clear hadv had
       try (simp [hw])
       repeat (refine sR ?_; simp [hw])
       refine sE ?_
       refine ⟨⟨i + 1, out2 ++ exN p g x m r (L ++ [(i : Int)]), own3, tok3, nt3⟩, ⟨hli, by simp only; rw [hsucc, hc1, hout, List.append_assoc], had3⟩, by simp only; omega, ?_⟩
       simp only [stFn]
       refine Weaks.mk' had3.le ?_ ?_ (fiOk rfl)
       ·simp [ToL, lk, hqe]
        exact to_ptr (by rw [lb_out hkn, upd_same]; simp)
       ·simp [BoxL, lk]
      ·have hc0 : candN33 p g x m r L i = [] := by rw [hcand', if_neg (by simp [hat, hq, hm])]
       have hbm : (m.nodes[q.toNat] == (i : Int)) = false := by simp [hm]
       simp [hin, hq, lb_out hkn, upd_same, hli, hlt, hE, hq0, hq1, hq2, hbm]
       try (simp [lb_out hkn, upd_same, hq])
       repeat (refine sR ?_; simp [lb_out hkn, upd_same, hq])
       refine sC ?_
       simp
       try (simp [hw])
       repeat (refine sR ?_; simp [hw])
       refine sE ?_
       refine ⟨⟨i + 1, out2, own2, tok2, nt2⟩, ⟨hli, by simp only; rw [hsucc, hc0, List.append_nil]; exact hout, hadv2⟩, by simp only; omega, Weaks.mk' hadv2.le (by simp [ToL, lk, hqe]; exact to_ptr (by rw [lb_out hkn, upd_same]; simp)) (by simp [BoxL, lk]) (fiOk rfl)⟩
    ·have hc0 : candN33 p g x m r L i = [] := by rw [hcand', if_neg (by simp [hE])]
     have hbE : (g.nodes[i] == p.nodes[L.length]) = false := by simp [hE]
     simp [hin, lb_out hkn, upd_same, hli, hlt, hbE]
     try (simp [lb_out hkn, upd_same])
     repeat (refine sR ?_; simp [lb_out hkn, upd_same])
     refine sC ?_
     simp
     try (simp [hw])
     repeat (refine sR ?_; simp [hw])
     refine sE ?_
     refine ⟨⟨i + 1, out2, own2, tok2, nt2⟩, ⟨hli, by simp only; rw [hsucc, hc0, List.append_nil]; exact hout, hadv2⟩, by simp only; omega, Weaks.mk' hadv2.le (by simp [ToL, lk]; exact to_ptr (by rw [lb_out hkn, upd_same]; simp)) (by simp [BoxL, lk]) (fiOk rfl)⟩
  ·refine sX ?_
   simp only [AU, ↓reduceIte]
   have hin : i = g.nodes.length := by omega
   subst hin
   refine sE ?_
   refine ⟨by simp, (Fin.gen (vs := []) (av := .tup []) (tok' := tok2) (nt' := nt2) (by simp [resAs, resA]) ?_ hadv2.le (Nat.le_refl _) (fun t h => ⟨h, .inl rfl⟩) (fiOk (by simp)) (by simp [packA])).mono fun v M hq => ⟨hq.1, own2, tok2, nt2, ?_, hadv2⟩⟩
   ·rw [← upd_lb_out hkn, hbox]
   ·rw [hq.2, hout]
abbrev mos (l : List Mo) : D := .sl 2 (l.map Mo.cells)
theorem extensions_c (p g : Gr) (x m : Mo) (h : FiH p g x m) (hroom : (exts p g x m).length ≤ 1000000000000) (tok : Tks) (nt : Nat) : DCall Tryz.prog 74 [p.av, g.av, x.av, m.av] tok nt (.d (mos (exts p g x m))) tok nt := by
 intro box nb
 have hn := nodes33_c p g x m h p.nodes.length [] [] .full
 rw [show exN p g x m p.nodes.length [] = exts p g x m from rfl, List.nil_append] at hn
 have main : ACalls Tryz.prog 74 [p.av, g.av, x.av, m.av] ⟨box, nb, tok, nt⟩ fun v M => v = .d (mos (exts p g x m)) ∧ M = ⟨box, nb, tok, nt⟩ := by
  refine sB Tryz.func74 Tryz.ntmps74 ?_
  intro hbox htok
  simp only at hbox htok
  apply AL.start
  refine sR ?_
  simp
  refine sR ?_
  simp
  refine AL.weak (Weaks.mk (l' := [(9, .ptr (nb + 15) 0 0)]) (loc' := [(15, [fiRow p g x m [] .full])]) (Nat.le_refl _) rfl (by simp [ToL, lk]) (by simp [BoxL, lk])) ?_
  try (simp)
  repeat (refine sR ?_; simp)
  refine Stop.sub (args' := [.ptr (nb + 15) 0 0, .d (ints [])]) ⟨Sub.refl _, Sub.nil _ _ _, trivial⟩ ?_
  refine Stop.of_a (hn _ _ (nb + 15) _ _ (by simp) (by simpa using hroom) (by simp [lb_at]) trivial) ?_
  rintro v M ⟨rfl, own3, tok3, nt3, rfl, hadv⟩
  simp
  try (simp)
  repeat (refine sR ?_; simp)
  refine sT ?_
  try simp only [AU]
  refine ⟨by simp, Fin.data (by simp [resAs, resA]; rfl) hbox rfl htok (fun t ht => hadv.keep t ht (by simp)) hadv.le ?_⟩
  simp [packA]
 exact main
end Go.AM
namespace Go.AM
open Go Go.Proofs
inductive Cd.Bare : Cd → Prop
 | mk {c : Cd} (hs : c.sl = []) (ht : c.te = []) (h : ∀ x ∈ c.kids, Cd.Bare x) : Cd.Bare c
theorem Cd.Bare.sl {c : Cd} (h : c.Bare) : c.sl = [] := by cases h; assumption
theorem Cd.Bare.te {c : Cd} (h : c.Bare) : c.te = [] := by cases h; assumption
end Go.AM
namespace Go.AM
open Go Go.Proofs
@[simp] theorem lb_base (base : Nat) (out : Bxs) (loc : List (Nat × List (List AV))) : lb base out loc base = lk loc 0 := lb_at base 0 out loc
@[simp] theorem upd_lb_base (base : Nat) (out : Bxs) (loc : List (Nat × List (List AV))) (rows : List (List AV)) : upd (lb base out loc) base (some rows) = lb base out ((0, rows) :: loc) := upd_lb base 0 out loc rows
@[simp] theorem to_ptr_base {q : Nat → Prop} {fz : Option (Nat × Nat × List (List D))} {base i off : Nat} {out : Bxs} {loc : List (Nat × List (List AV))} : To (fun k => lb base out loc k ≠ none) q fz (.ptr base i off) (.ptr base i off) ↔ lk loc 0 ≠ none := to_ptr_lb (s := 0)
end Go.AM
namespace Go.AM
open Go Go.Proofs
abbrev bytes (l : List Int) : D := .sl 1 (l.map fun n => [u8 n])
def growS (st : List Int × List E) (c : Int) : List Int × List E :=
 if c % 2 = 0 ∨ st.1.length = 0 then (st.1 ++ [c / 2 % 3], st.2) else (st.1, st.2 ++ [⟨c / 2 % 2, c / 4 % st.1.length, c / 16 % st.1.length⟩])
def growK (g : Gr) (cs : List Int) (most i : Nat) : List Int × List E := ((cs.take most).take i).foldl growS (g.nodes, g.edges)
def growR (g : Gr) (cs : List Int) (most : Nat) : Gr := let r := growK g cs most cs.length; ⟨r.1, r.2⟩
end Go.AM
namespace Go.AM
open Go Go.Proofs
theorem Pre.trans {a b c : Gr} (h : Pre a b) (k : Pre b c) : Pre a c := by
 obtain ⟨t, ht⟩ := h.n
 obtain ⟨u, hu⟩ := h.e
 obtain ⟨t', ht'⟩ := k.n
 obtain ⟨u', hu'⟩ := k.e
 exact ⟨h.va, k.vb, ⟨t ++ t', by rw [ht', ht, List.append_assoc]⟩, ⟨u ++ u', by rw [hu', hu, List.append_assoc]⟩⟩
end Go.AM
namespace Go.AM
open Go
structure Sp where
 l : Gr
 r : Gr
 k : Mo
 i : Mo
structure SpOk (s : Sp) : Prop where
 k : VP s.l s.k
 i : Emb (exG s.l s.k) s.r s.i
def Sp.z (s : Sp) (m : Mo) (x : Gr) : Mo := cmpl x (imgP s.r s.i) m
theorem VP.sub {g : Gr} {p : Mo} (h : VP g p) : Emb (exG g p) g p := h.emb
end Go.AM
namespace Go.AM
open Go Go.Proofs
end Go.AM
namespace Go.AM
open Go Go.Proofs
end Go.AM
namespace Go.AM
open Go Go.Proofs
structure At where
 name : ByteArray
 lo : Int
 hi : Int
 names : List ByteArray
structure NT where
 name : ByteArray
 par : Int
 abs : Bool
 own : List At
structure ET where
 name : ByteArray
 fr : Int
 to : Int
 ol : Int
 oh : Int
 il : Int
 ih : Int
structure Ty where
 nodes : List NT
 edges : List ET
abbrev At.cells (a : At) : List D := [.raw (.string a.name), .raw (.int .i64 a.lo), .raw (.int .i64 a.hi), strs a.names]
abbrev atts (l : List At) : D := .sl 4 (l.map At.cells)
abbrev NT.cells (n : NT) : List D := [.raw (.string n.name), .raw (.int .i64 n.par), .raw (.bool n.abs), atts n.own]
abbrev ET.cells (e : ET) : List D := [.raw (.string e.name), .raw (.int .i64 e.fr), .raw (.int .i64 e.to), .raw (.int .i64 e.ol), .raw (.int .i64 e.oh), .raw (.int .i64 e.il), .raw (.int .i64 e.ih)]
abbrev nts (l : List NT) : D := .sl 4 (l.map NT.cells)
abbrev ets (l : List ET) : D := .sl 7 (l.map ET.cells)
abbrev Ty.av (t : Ty) : AV := .agg [.d (nts t.nodes), .d (ets t.edges)]
instance : Inhabited ByteArray := ⟨⟨#[]⟩⟩
abbrev eB : ByteArray := ⟨#[]⟩
def nmsAt (l : List ByteArray) (i : Nat) : Int := if nameB (l.getD i eB) = false then 2 else if memS (l.take i) (l.getD i eB) = true then 5 else 0
def nmsE (l : List ByteArray) : Int := if 20 < l.length then 3 else firstE (nmsAt l) l.length
structure NmFit (l : List ByteArray) : Prop where
 n : l.length ≤ 1000000
 s : ∀ x ∈ l, x.size ≤ 1000000000000
theorem strs_take (l : List ByteArray) (i : Nat) : strs (l.take i) = .sl 1 (List.take i (l.map fun s => [D.raw (.string s)])) := by rw [strs, List.map_take]
def stNm (l : List ByteArray) (nb : Nat) (box : Bxs) (tok : Tks) (nt : Nat) (i : Nat) : AState := ⟨tl [(10, I i), (9, I l.length), (8, .d (strs l)), (0, .d (strs l))], lb nb box [], tok, nt⟩
theorem names_c (l : List ByteArray) (hl : NmFit l) (tok : Tks) (nt : Nat) : DCall Tryz.prog 262 [.d (strs l)] tok nt (I (nmsE l)) tok nt := by
 intro box nb
 have hln := hl.n
 by_cases h20 : 20 < l.length
 ·have h20' : (20 : Int) < l.length := by omega
  rw [show nmsE l = 3 from if_pos h20]
  refine sB Tryz.func262 Tryz.ntmps262 ?_
  intro hbox htok
  simp only at hbox htok
  apply AL.start
  try (simp [h20'])
  repeat (refine sR ?_; simp [h20'])
  refine sC ?_
  simp
  try (simp)
  repeat (refine sR ?_; simp)
  refine sT ?_
  try simp only [AU]
  refine ⟨by simp, sF hbox htok (fun _ h => h) (Nat.le_refl _) ?_⟩
  simp [packA]
 ·have h20' : ¬ (20 : Int) < l.length := by omega
  have hE : nmsE l = firstE (nmsAt l) l.length := if_neg h20
  refine sB Tryz.func262 Tryz.ntmps262 ?_
  intro hbox htok
  simp only at hbox htok
  apply AL.start
  try (simp [h20'])
  repeat (refine sR ?_; simp [h20'])
  refine sC ?_
  simp
  try (simp)
  repeat (refine sR ?_; simp)
  refine sN ?_
  refine AL.loopT (stNm l nb box tok nt) (fun i => i ≤ l.length ∧ firstE (nmsAt l) i = 0) (fun i => l.length - i) 0 ⟨Nat.zero_le _, rfl⟩ (Weaks.mk (Nat.le_refl _) rfl (by simp [ToL, lk]) trivial) ?_
  rintro i S' ⟨hi, hok⟩ hS
  simp only [stNm] at hS
  subst hS
  have hw := sW (i := i) (by omega)
  have hR : i < l.length → nmsAt l i ≠ 0 → firstE (nmsAt l) l.length = nmsAt l i := fun hlt h0 => firstE_stop hok h0 l.length hlt
  try (simp)
  repeat (refine sR ?_; simp)
  refine sC ?_
  simp
  refine ⟨fun hlt => ?_, fun hge => ?_⟩
  ·have hg : l.getD i eB = l[i] := by simp [hlt]
   have hA : nmsAt l i = if nameB l[i] = false then 2 else if memS (l.take i) l[i] = true then 5 else 0 := by rw [nmsAt, hg]
   have hn := isName_c l[i] (Nat.le_trans (hl.s _ (List.getElem_mem hlt)) (by decide))
   have hc := containsS_c (l.take i) l[i] (by simp; omega)
   have hR := hR hlt
   try (simp [hlt, strs_at hlt])
   repeat (refine sR ?_; simp [hlt, strs_at hlt])
   refine Stop.of_d (hn _ _) ?_
   simp
   cases e1 : nameB l[i]
   ·rw [e1, if_pos rfl] at hA
    rw [hA] at hR
    have hR := hR (by decide)
    try (simp)
    repeat (refine sR ?_; simp)
    refine sC ?_
    simp
    try (simp)
    repeat (refine sR ?_; simp)
    refine sT ?_
    try simp only [AU]
    refine ⟨by simp, sF hbox htok (fun _ h => h) (Nat.le_refl _) ?_⟩
    simp [packA, hE, hR]
   ·rw [e1, if_neg (by simp)] at hA
    try (simp)
    repeat (refine sR ?_; simp)
    refine sC ?_
    simp
    try (simp)
    repeat (refine sR ?_; simp)
    refine ⟨by omega, ?_⟩
    rw [strs_take] at hc
    refine Stop.of_d (hc _ _) ?_
    simp
    cases e2 : memS (l.take i) l[i]
    ·rw [e2, if_neg (by simp)] at hA
     try (simp)
     repeat (refine sR ?_; simp)
     refine sC ?_
     simp
     try (simp [hw])
     repeat (refine sR ?_; simp [hw])
     refine sE ?_
     exact ⟨i + 1, ⟨hlt, by simp only [firstE, hok, hA, ↓reduceIte]⟩, by omega, Weaks.mk (Nat.le_refl _) rfl (by simp [ToL, lk]) trivial⟩
    ·rw [e2, if_pos rfl] at hA
     rw [hA] at hR
     have hR := hR (by decide)
     try (simp)
     repeat (refine sR ?_; simp)
     refine sC ?_
     simp
     try (simp)
     repeat (refine sR ?_; simp)
     refine sT ?_
     try simp only [AU]
     refine ⟨by simp, sF hbox htok (fun _ h => h) (Nat.le_refl _) ?_⟩
     simp [packA, hE, hR]
  ·refine sX ?_
   simp only [AU, ↓reduceIte]
   try (simp)
   repeat (refine sR ?_; simp)
   have : i = l.length := by omega
   subst this
   refine sT ?_
   try simp only [AU]
   refine ⟨by simp, sF hbox htok (fun _ h => h) (Nat.le_refl _) ?_⟩
   simp [packA, hE, hok]
end Go.AM
namespace Go.AM
open Go Go.Proofs
abbrev At.av (a : At) : AV := .agg [Sb a.name, I a.lo, I a.hi, .d (strs a.names)]
abbrev NT.av (n : NT) : AV := .agg [Sb n.name, I n.par, B n.abs, .d (atts n.own)]
abbrev ET.av (e : ET) : AV := .agg [Sb e.name, I e.fr, I e.to, I e.ol, I e.oh, I e.il, I e.ih]
theorem any_takeG {α : Type} {p : α → Bool} {xs : List α} {i : Nat} (h : i < xs.length) (h1 : ∀ x ∈ xs.take i, p x = false) (h2 : p xs[i] = true) : anyB p xs = true ∧ xs.findIdx p = i := by
 refine ⟨List.any_eq_true.2 ⟨_, List.getElem_mem h, h2⟩, ?_⟩
 rw [List.findIdx_eq h]
 refine ⟨h2, fun j hj => ?_⟩
 have := h1 xs[j] (by
  rw [List.mem_take_iff_getElem]
  exact ⟨j, by omega, rfl⟩)
 simpa using this
def stIA (xs : List At) (f : FuncId) (caps : List AV) (nb : Nat) (box : Bxs) (tok : Tks) (nt : Nat) (i : Nat) : AState := ⟨tl [(0, .d (atts xs)), (1, .fn (.func f) caps), (7, I xs.length), (8, I i)], lb nb box [], tok, nt⟩
theorem indexFuncA_c (xs : List At) (f : FuncId) (caps : List AV) (p : At → Bool) (hx : xs.length ≤ 1000000) (box : Bxs) (nb : Nat) (tok : Tks) (nt : Nat) (hc : ∀ c ∈ caps, OkIn (fun k => box k ≠ none) (fun _ => True) c)
  (hf : ∀ x ∈ xs, ∀ box' nb', Ext box box' → ACalls Tryz.prog f (x.av :: caps) ⟨box', nb', tok, nt⟩ fun v m => v = B (p x) ∧ m = ⟨box', nb', tok, nt⟩) :
  ACalls Tryz.prog 292 [.d (atts xs), .fn (.func f) caps] ⟨box, nb, tok, nt⟩ fun v m => v = I (if anyB p xs = true then (xs.findIdx p : Nat) else -1) ∧ m = ⟨box, nb, tok, nt⟩ := by
 refine sB Tryz.func292 Tryz.ntmps292 ?_
 intro hbox htok
 simp only at hbox htok
 apply AL.start
 try (simp)
 repeat (refine sR ?_; simp)
 refine sN ?_
 refine AL.loopT (stIA xs f caps nb box tok nt) (fun i => i ≤ xs.length ∧ ∀ x ∈ xs.take i, p x = false) (fun i => xs.length - i) 0 ⟨Nat.zero_le _, by simp⟩ (Weaks.mk (Nat.le_refl _) rfl (by simp [ToL]; exact .same (okFn hc hbox [] (by simp) rfl _)) trivial) ?_
 rintro i S' ⟨hi, htk⟩ hS
 simp only [stIA] at hS
 subst hS
 have hw := sW (i := i) (by omega)
 try (simp)
 repeat (refine sR ?_; simp)
 refine sC ?_
 simp
 refine ⟨fun hlt => ?_, fun hge => ?_⟩
 ·have hfx := hf xs[i] (List.getElem_mem _)
  have hpx : p xs[i] = true → anyB p xs = true ∧ (xs.findIdx p = i) := fun he => any_takeG hlt htk he
  have hmore : p xs[i] = false → ∀ x ∈ xs.take (i + 1), p x = false := fun he x hx => by
   rw [List.take_succ_eq_append_getElem hlt] at hx
   rcases List.mem_append.1 hx with hx | hx
   ·exact htk x hx
   ·simp at hx; rw [hx]; exact he
  try (simp [hlt])
  repeat (refine sR ?_; simp [hlt])
  generalize xs[i] = x at *
  refine Stop.of_b (hfx _ _ ((Ext.refl box).lb hbox [])) ?_
  simp
  cases he : p x
  ·refine sC ?_
   simp
   try (simp [hw])
   repeat (refine sR ?_; simp [hw])
   refine sE ?_
   refine ⟨i + 1, ⟨hlt, ?_⟩, by omega, Weaks.mk (Nat.le_refl _) rfl (by simp [ToL]; exact .same (okFn hc hbox [] (by simp) rfl _)) trivial⟩
   exact hmore he
  ·obtain ⟨h1, h2⟩ := hpx he
   refine sC ?_
   simp
   try (simp)
   repeat (refine sR ?_; simp)
   refine sT ?_
   try simp only [AU]
   refine ⟨by simp, sF hbox htok (fun _ h => h) (Nat.le_refl _) ?_⟩
   simp [packA, h1, h2]
 ·have hn : anyB p xs = false := by
   rw [List.take_of_length_le hge] at htk
   simpa [anyB] using htk
  refine sX ?_
  simp only [AU, ↓reduceIte]
  try (simp)
  repeat (refine sR ?_; simp)
  refine sT ?_
  try simp only [AU]
  refine ⟨by simp, sF hbox htok (fun _ h => h) (Nat.le_refl _) ?_⟩
  simp [packA, hn]
theorem containsFuncA_c (xs : List At) (f : FuncId) (caps : List AV) (p : At → Bool) (hx : xs.length ≤ 1000000) (box : Bxs) (nb : Nat) (tok : Tks) (nt : Nat) (hc : ∀ c ∈ caps, OkIn (fun k => box k ≠ none) (fun _ => True) c)
  (hf : ∀ x ∈ xs, ∀ box' nb', Ext box box' → ACalls Tryz.prog f (x.av :: caps) ⟨box', nb', tok, nt⟩ fun v m => v = B (p x) ∧ m = ⟨box', nb', tok, nt⟩) :
  ACalls Tryz.prog 260 [.d (atts xs), .fn (.func f) caps] ⟨box, nb, tok, nt⟩ fun v m => v = B (anyB p xs) ∧ m = ⟨box, nb, tok, nt⟩ := by
 obtain ⟨A, hany⟩ : ∃ A, anyB p xs = A := ⟨_, rfl⟩
 have hi := fun b nb' h1 h2 => indexFuncA_c xs f caps p hx b nb' tok nt h1 h2
 rw [hany]
 simp only [hany] at hi
 refine sB Tryz.func260 Tryz.ntmps260 ?_
 intro hbox htok
 simp only at hbox htok
 apply AL.start
 try (simp)
 repeat (refine sR ?_; simp)
 refine Stop.of_b (hi (lb nb box []) _ (fun c h => (hc c h).mono (fun k hk => by rw [hbox]; exact hk) fun _ h => h) (fun x hx' box' nb' he => hf x hx' box' nb' (by rw [hbox] at he; exact he))) ?_
 simp
 cases A
 ·try (simp)
  repeat (refine sR ?_; simp)
  refine sT ?_
  try simp only [AU]
  refine ⟨by simp, sF hbox htok (fun _ h => h) (Nat.le_refl _) ?_⟩
  simp [packA]
 ·have h0 : (0 : Int) ≤ (xs.findIdx p : Nat) := by omega
  try (simp)
  repeat (refine sR ?_; simp)
  refine sT ?_
  try simp only [AU]
  refine ⟨by simp, sF hbox htok (fun _ h => h) (Nat.le_refl _) ?_⟩
  simp [packA, h0]
def stIN (xs : List NT) (f : FuncId) (caps : List AV) (nb : Nat) (box : Bxs) (tok : Tks) (nt : Nat) (i : Nat) : AState := ⟨tl [(0, .d (nts xs)), (1, .fn (.func f) caps), (7, I xs.length), (8, I i)], lb nb box [], tok, nt⟩
theorem indexFuncN_c (xs : List NT) (f : FuncId) (caps : List AV) (p : NT → Bool) (hx : xs.length ≤ 1000000) (box : Bxs) (nb : Nat) (tok : Tks) (nt : Nat) (hc : ∀ c ∈ caps, OkIn (fun k => box k ≠ none) (fun _ => True) c)
  (hf : ∀ x ∈ xs, ∀ box' nb', Ext box box' → ACalls Tryz.prog f (x.av :: caps) ⟨box', nb', tok, nt⟩ fun v m => v = B (p x) ∧ m = ⟨box', nb', tok, nt⟩) :
  ACalls Tryz.prog 234 [.d (nts xs), .fn (.func f) caps] ⟨box, nb, tok, nt⟩ fun v m => v = I (if anyB p xs = true then (xs.findIdx p : Nat) else -1) ∧ m = ⟨box, nb, tok, nt⟩ := by
 refine sB Tryz.func234 Tryz.ntmps234 ?_
 intro hbox htok
 simp only at hbox htok
 apply AL.start
 try (simp)
 repeat (refine sR ?_; simp)
 refine sN ?_
 refine AL.loopT (stIN xs f caps nb box tok nt) (fun i => i ≤ xs.length ∧ ∀ x ∈ xs.take i, p x = false) (fun i => xs.length - i) 0 ⟨Nat.zero_le _, by simp⟩ (Weaks.mk (Nat.le_refl _) rfl (by simp [ToL]; exact .same (okFn hc hbox [] (by simp) rfl _)) trivial) ?_
 rintro i S' ⟨hi, htk⟩ hS
 simp only [stIN] at hS
 subst hS
 have hw := sW (i := i) (by omega)
 try (simp)
 repeat (refine sR ?_; simp)
 refine sC ?_
 simp
 refine ⟨fun hlt => ?_, fun hge => ?_⟩
 ·have hfx := hf xs[i] (List.getElem_mem _)
  have hpx : p xs[i] = true → anyB p xs = true ∧ (xs.findIdx p = i) := fun he => any_takeG hlt htk he
  have hmore : p xs[i] = false → ∀ x ∈ xs.take (i + 1), p x = false := fun he x hx => by
   rw [List.take_succ_eq_append_getElem hlt] at hx
   rcases List.mem_append.1 hx with hx | hx
   ·exact htk x hx
   ·simp at hx; rw [hx]; exact he
  try (simp [hlt])
  repeat (refine sR ?_; simp [hlt])
  generalize xs[i] = x at *
  refine Stop.of_b (hfx _ _ ((Ext.refl box).lb hbox [])) ?_
  simp
  cases he : p x
  ·refine sC ?_
   simp
   try (simp [hw])
   repeat (refine sR ?_; simp [hw])
   refine sE ?_
   refine ⟨i + 1, ⟨hlt, ?_⟩, by omega, Weaks.mk (Nat.le_refl _) rfl (by simp [ToL]; exact .same (okFn hc hbox [] (by simp) rfl _)) trivial⟩
   exact hmore he
  ·obtain ⟨h1, h2⟩ := hpx he
   refine sC ?_
   simp
   try (simp)
   repeat (refine sR ?_; simp)
   refine sT ?_
   try simp only [AU]
   refine ⟨by simp, sF hbox htok (fun _ h => h) (Nat.le_refl _) ?_⟩
   simp [packA, h1, h2]
 ·have hn : anyB p xs = false := by
   rw [List.take_of_length_le hge] at htk
   simpa [anyB] using htk
  refine sX ?_
  simp only [AU, ↓reduceIte]
  try (simp)
  repeat (refine sR ?_; simp)
  refine sT ?_
  try simp only [AU]
  refine ⟨by simp, sF hbox htok (fun _ h => h) (Nat.le_refl _) ?_⟩
  simp [packA, hn]
theorem containsFuncN_c (xs : List NT) (f : FuncId) (caps : List AV) (p : NT → Bool) (hx : xs.length ≤ 1000000) (box : Bxs) (nb : Nat) (tok : Tks) (nt : Nat) (hc : ∀ c ∈ caps, OkIn (fun k => box k ≠ none) (fun _ => True) c)
  (hf : ∀ x ∈ xs, ∀ box' nb', Ext box box' → ACalls Tryz.prog f (x.av :: caps) ⟨box', nb', tok, nt⟩ fun v m => v = B (p x) ∧ m = ⟨box', nb', tok, nt⟩) :
  ACalls Tryz.prog 169 [.d (nts xs), .fn (.func f) caps] ⟨box, nb, tok, nt⟩ fun v m => v = B (anyB p xs) ∧ m = ⟨box, nb, tok, nt⟩ := by
 obtain ⟨A, hany⟩ : ∃ A, anyB p xs = A := ⟨_, rfl⟩
 have hi := fun b nb' h1 h2 => indexFuncN_c xs f caps p hx b nb' tok nt h1 h2
 rw [hany]
 simp only [hany] at hi
 refine sB Tryz.func169 Tryz.ntmps169 ?_
 intro hbox htok
 simp only at hbox htok
 apply AL.start
 try (simp)
 repeat (refine sR ?_; simp)
 refine Stop.of_b (hi (lb nb box []) _ (fun c h => (hc c h).mono (fun k hk => by rw [hbox]; exact hk) fun _ h => h) (fun x hx' box' nb' he => hf x hx' box' nb' (by rw [hbox] at he; exact he))) ?_
 simp
 cases A
 ·try (simp)
  repeat (refine sR ?_; simp)
  refine sT ?_
  try simp only [AU]
  refine ⟨by simp, sF hbox htok (fun _ h => h) (Nat.le_refl _) ?_⟩
  simp [packA]
 ·have h0 : (0 : Int) ≤ (xs.findIdx p : Nat) := by omega
  try (simp)
  repeat (refine sR ?_; simp)
  refine sT ?_
  try simp only [AU]
  refine ⟨by simp, sF hbox htok (fun _ h => h) (Nat.le_refl _) ?_⟩
  simp [packA, h0]
def stIE2 (xs : List ET) (f : FuncId) (caps : List AV) (nb : Nat) (box : Bxs) (tok : Tks) (nt : Nat) (i : Nat) : AState := ⟨tl [(0, .d (ets xs)), (1, .fn (.func f) caps), (7, I xs.length), (8, I i)], lb nb box [], tok, nt⟩
theorem indexFuncE2_c (xs : List ET) (f : FuncId) (caps : List AV) (p : ET → Bool) (hx : xs.length ≤ 1000000) (box : Bxs) (nb : Nat) (tok : Tks) (nt : Nat) (hc : ∀ c ∈ caps, OkIn (fun k => box k ≠ none) (fun _ => True) c)
  (hf : ∀ x ∈ xs, ∀ box' nb', Ext box box' → ACalls Tryz.prog f (x.av :: caps) ⟨box', nb', tok, nt⟩ fun v m => v = B (p x) ∧ m = ⟨box', nb', tok, nt⟩) :
  ACalls Tryz.prog 263 [.d (ets xs), .fn (.func f) caps] ⟨box, nb, tok, nt⟩ fun v m => v = I (if anyB p xs = true then (xs.findIdx p : Nat) else -1) ∧ m = ⟨box, nb, tok, nt⟩ := by
 refine sB Tryz.func263 Tryz.ntmps263 ?_
 intro hbox htok
 simp only at hbox htok
 apply AL.start
 try (simp)
 repeat (refine sR ?_; simp)
 refine sN ?_
 refine AL.loopT (stIE2 xs f caps nb box tok nt) (fun i => i ≤ xs.length ∧ ∀ x ∈ xs.take i, p x = false) (fun i => xs.length - i) 0 ⟨Nat.zero_le _, by simp⟩ (Weaks.mk (Nat.le_refl _) rfl (by simp [ToL]; exact .same (okFn hc hbox [] (by simp) rfl _)) trivial) ?_
 rintro i S' ⟨hi, htk⟩ hS
 simp only [stIE2] at hS
 subst hS
 have hw := sW (i := i) (by omega)
 try (simp)
 repeat (refine sR ?_; simp)
 refine sC ?_
 simp
 refine ⟨fun hlt => ?_, fun hge => ?_⟩
 ·have hfx := hf xs[i] (List.getElem_mem _)
  have hpx : p xs[i] = true → anyB p xs = true ∧ (xs.findIdx p = i) := fun he => any_takeG hlt htk he
  have hmore : p xs[i] = false → ∀ x ∈ xs.take (i + 1), p x = false := fun he x hx => by
   rw [List.take_succ_eq_append_getElem hlt] at hx
   rcases List.mem_append.1 hx with hx | hx
   ·exact htk x hx
   ·simp at hx; rw [hx]; exact he
  try (simp [hlt])
  repeat (refine sR ?_; simp [hlt])
  generalize xs[i] = x at *
  refine Stop.of_b (hfx _ _ ((Ext.refl box).lb hbox [])) ?_
  simp
  cases he : p x
  ·refine sC ?_
   simp
   try (simp [hw])
   repeat (refine sR ?_; simp [hw])
   refine sE ?_
   refine ⟨i + 1, ⟨hlt, ?_⟩, by omega, Weaks.mk (Nat.le_refl _) rfl (by simp [ToL]; exact .same (okFn hc hbox [] (by simp) rfl _)) trivial⟩
   exact hmore he
  ·obtain ⟨h1, h2⟩ := hpx he
   refine sC ?_
   simp
   try (simp)
   repeat (refine sR ?_; simp)
   refine sT ?_
   try simp only [AU]
   refine ⟨by simp, sF hbox htok (fun _ h => h) (Nat.le_refl _) ?_⟩
   simp [packA, h1, h2]
 ·have hn : anyB p xs = false := by
   rw [List.take_of_length_le hge] at htk
   simpa [anyB] using htk
  refine sX ?_
  simp only [AU, ↓reduceIte]
  try (simp)
  repeat (refine sR ?_; simp)
  refine sT ?_
  try simp only [AU]
  refine ⟨by simp, sF hbox htok (fun _ h => h) (Nat.le_refl _) ?_⟩
  simp [packA, hn]
theorem containsFuncE2_c (xs : List ET) (f : FuncId) (caps : List AV) (p : ET → Bool) (hx : xs.length ≤ 1000000) (box : Bxs) (nb : Nat) (tok : Tks) (nt : Nat) (hc : ∀ c ∈ caps, OkIn (fun k => box k ≠ none) (fun _ => True) c)
  (hf : ∀ x ∈ xs, ∀ box' nb', Ext box box' → ACalls Tryz.prog f (x.av :: caps) ⟨box', nb', tok, nt⟩ fun v m => v = B (p x) ∧ m = ⟨box', nb', tok, nt⟩) :
  ACalls Tryz.prog 215 [.d (ets xs), .fn (.func f) caps] ⟨box, nb, tok, nt⟩ fun v m => v = B (anyB p xs) ∧ m = ⟨box, nb, tok, nt⟩ := by
 obtain ⟨A, hany⟩ : ∃ A, anyB p xs = A := ⟨_, rfl⟩
 have hi := fun b nb' h1 h2 => indexFuncE2_c xs f caps p hx b nb' tok nt h1 h2
 rw [hany]
 simp only [hany] at hi
 refine sB Tryz.func215 Tryz.ntmps215 ?_
 intro hbox htok
 simp only at hbox htok
 apply AL.start
 try (simp)
 repeat (refine sR ?_; simp)
 refine Stop.of_b (hi (lb nb box []) _ (fun c h => (hc c h).mono (fun k hk => by rw [hbox]; exact hk) fun _ h => h) (fun x hx' box' nb' he => hf x hx' box' nb' (by rw [hbox] at he; exact he))) ?_
 simp
 cases A
 ·try (simp)
  repeat (refine sR ?_; simp)
  refine sT ?_
  try simp only [AU]
  refine ⟨by simp, sF hbox htok (fun _ h => h) (Nat.le_refl _) ?_⟩
  simp [packA]
 ·have h0 : (0 : Int) ≤ (xs.findIdx p : Nat) := by omega
  try (simp)
  repeat (refine sR ?_; simp)
  refine sT ?_
  try simp only [AU]
  refine ⟨by simp, sF hbox htok (fun _ h => h) (Nat.le_refl _) ?_⟩
  simp [packA, h0]
end Go.AM
namespace Go.AM
open Go Go.Proofs
abbrev At.row (a : At) : List AV := [Sb a.name, I a.lo, I a.hi, .d (strs a.names)]
theorem attr1_c (x y : At) (box : Bxs) (nb k : Nat) (tok : Tks) (nt : Nat) (h1 : box k = some [x.row]) :
  ACalls Tryz.prog 261 [y.av, .ptr k 0 0] ⟨box, nb, tok, nt⟩ fun v m => v = B (decide (y.name = x.name)) ∧ m = ⟨box, nb, tok, nt⟩ := by
 refine sB Tryz.func261 Tryz.ntmps261 ?_
 intro hbox htok
 simp only at hbox htok
 apply AL.start
 have k1n := key_lt hbox h1
 rw [← seq_dec]
 try (simp [lb_out k1n, h1])
 repeat (refine sR ?_; simp [lb_out k1n, h1])
 refine sT ?_
 try simp only [AU]
 refine ⟨by simp, sF hbox htok (fun _ h => h) (Nat.le_refl _) ?_⟩
 simp [packA]
def rngA (x : At) : Bool := if x.names.length = 0 then decide (-1000000 ≤ x.lo ∧ x.lo ≤ x.hi ∧ x.hi ≤ 1000000) else decide (x.lo = 0 ∧ x.hi = (x.names.length : Int) - 1)
def attE (x : At) (before : List At) : Int := if nameB x.name = false then 2 else if anyB (fun y => decide (y.name = x.name)) before = true then 5 else if nmsE x.names ≠ 0 then nmsE x.names else if rngA x = true then 0 else 6
structure At.Fit (a : At) : Prop where
 n : a.name.size ≤ 1000000000000
 l : NmFit a.names
theorem attribute_c (x : At) (before : List At) (hx : x.Fit) (hb : before.length ≤ 1000000) (tok : Tks) (nt : Nat) : DCall Tryz.prog 213 [x.av, .d (atts before)] tok nt (I (attE x before)) tok nt := by
 intro box nb
 have h1 := isName_c x.name (Nat.le_trans hx.n (by decide))
 have h3 := names_c x.names hx.l
 cases e1 : nameB x.name
 ·rw [e1] at h1
  rw [show attE x before = 2 by rw [attE, if_pos e1]]
  refine sB Tryz.func213 Tryz.ntmps213 ?_
  intro hbox htok
  simp only at hbox htok
  apply AL.start
  try (simp)
  repeat (refine sR ?_; simp)
  refine Stop.of_d (h1 _ _) ?_
  simp
  try (simp)
  repeat (refine sR ?_; simp)
  refine sC ?_
  simp
  try (simp)
  repeat (refine sR ?_; simp)
  refine sT ?_
  try simp only [AU]
  refine ⟨by simp, sF hbox htok (fun _ h => h) (Nat.le_refl _) ?_⟩
  simp [packA]
 ·rw [e1] at h1
  have hA : attE x before = if anyB (fun y => decide (y.name = x.name)) before = true then 5 else if nmsE x.names ≠ 0 then nmsE x.names else if rngA x = true then 0 else 6 := by rw [attE, if_neg (by simp [e1])]
  obtain ⟨N, hN⟩ : ∃ N, attE x before = N := ⟨_, rfl⟩
  rw [hN] at hA ⊢
  obtain ⟨p, hp⟩ : ∃ p : At → Bool, (fun y => decide (y.name = x.name)) = p := ⟨_, rfl⟩
  have h2 := fun y box nb k h => attr1_c x y box nb k tok nt h
  have hpp : ∀ y : At, decide (y.name = x.name) = p y := fun y => by rw [← hp]
  simp only [hpp] at h2
  rw [hp] at hA
  have hcap : ∀ c ∈ [AV.ptr (nb + 2) 0 0], OkIn (fun k => (lb nb box [(2, [x.row])]) k ≠ none) (fun _ => True) c := by
   intro c hc
   rw [List.mem_singleton.1 hc]
   simp [lb_at]
  refine sB Tryz.func213 Tryz.ntmps213 ?_
  intro hbox htok
  simp only at hbox htok
  apply AL.start
  try (simp)
  repeat (refine sR ?_; simp)
  refine Stop.of_d (h1 _ _) ?_
  simp
  try (simp)
  repeat (refine sR ?_; simp)
  refine sC ?_
  simp
  try (simp)
  repeat (refine sR ?_; simp)
  refine Stop.of_b (containsFuncA_c before 261 [.ptr (nb + 2) 0 0] p hb _ _ _ _ hcap (fun y hy box' nb' he => h2 y box' nb' _ (he _ _ (by simp [lb_at])))) ?_
  simp
  try (simp)
  repeat (refine sR ?_; simp)
  cases e2 : anyB p before
  ·rw [e2, if_neg (by simp)] at hA
   refine sC ?_
   simp
   try (simp)
   repeat (refine sR ?_; simp)
   refine Stop.of_d (h3 _ _) ?_
   simp
   try (simp)
   repeat (refine sR ?_; simp)
   by_cases e3 : nmsE x.names = 0
   ·rw [if_neg (by simp [e3])] at hA
    simp only [e3]
    refine sC ?_
    simp
    by_cases c1 : -1000000 ≤ x.lo
    ·by_cases c2 : x.lo ≤ x.hi
     ·by_cases c3 : x.hi ≤ 1000000
      ·try (simp [c1, c2, c3])
       repeat (refine sR ?_; simp [c1, c2, c3])
       by_cases z : x.names.length = 0
       ·have z2 : ¬ 0 < x.names.length := by omega
        have hr : rngA x = true := by rw [rngA, if_pos z]; simp only [decide_eq_true_eq, decide_eq_false_iff_not]; omega
        rw [hr] at hA
        refine sC ?_
        simp [z2]
        try (simp)
        repeat (refine sR ?_; simp)
        refine sC ?_
        simp
        try (simp)
        repeat (refine sR ?_; simp)
        refine sT ?_
        try simp only [AU]
        refine ⟨by simp, sF hbox htok (fun _ h => h) (Nat.le_refl _) ?_⟩
        simp [packA, hA]
       ·have z2 : 0 < x.names.length := by omega
        have hr : rngA x = decide (x.lo = 0 ∧ x.hi = (x.names.length : Int) - 1) := if_neg z
        rw [hr] at hA
        have hln := hx.l.n
        have w : IntKind.i64.wrap ((x.names.length : Int) - 1) = (x.names.length : Int) - 1 := wrap_in (by omega) (by omega)
        by_cases l0 : x.lo = 0
        ·have b0 : (x.lo == 0) = true := by simp [l0]
         by_cases h0 : x.hi = (x.names.length : Int) - 1
         ·have b1 : (x.hi == (x.names.length : Int) - 1) = true := by simp [h0]
          refine sC ?_
          simp [z2]
          try (simp [w, b0, b1])
          repeat (refine sR ?_; simp [w, b0, b1])
          refine sC ?_
          simp
          try (simp)
          repeat (refine sR ?_; simp)
          refine sT ?_
          try simp only [AU]
          refine ⟨by simp, sF hbox htok (fun _ h => h) (Nat.le_refl _) ?_⟩
          simp [packA, hA, l0, h0]
         ·have b1 : (x.hi == (x.names.length : Int) - 1) = false := by simp [h0]
          refine sC ?_
          simp [z2]
          try (simp [w, b0, b1])
          repeat (refine sR ?_; simp [w, b0, b1])
          refine sC ?_
          simp
          try (simp)
          repeat (refine sR ?_; simp)
          refine sT ?_
          try simp only [AU]
          refine ⟨by simp, sF hbox htok (fun _ h => h) (Nat.le_refl _) ?_⟩
          simp [packA, hA, l0, h0]
        ·have b0 : (x.lo == 0) = false := by simp [l0]
         refine sC ?_
         simp [z2]
         try (simp [w, b0])
         repeat (refine sR ?_; simp [w, b0])
         refine sC ?_
         simp
         try (simp)
         repeat (refine sR ?_; simp)
         refine sT ?_
         try simp only [AU]
         refine ⟨by simp, sF hbox htok (fun _ h => h) (Nat.le_refl _) ?_⟩
         simp [packA, hA, l0]
      ·try (simp [c1, c2, c3])
       repeat (refine sR ?_; simp [c1, c2, c3])
       by_cases z : x.names.length = 0
       ·have z2 : ¬ 0 < x.names.length := by omega
        have hr : rngA x = false := by rw [rngA, if_pos z]; simp only [decide_eq_true_eq, decide_eq_false_iff_not]; omega
        rw [hr] at hA
        refine sC ?_
        simp [z2]
        try (simp)
        repeat (refine sR ?_; simp)
        refine sC ?_
        simp
        try (simp)
        repeat (refine sR ?_; simp)
        refine sT ?_
        try simp only [AU]
        refine ⟨by simp, sF hbox htok (fun _ h => h) (Nat.le_refl _) ?_⟩
        simp [packA, hA]
       ·have z2 : 0 < x.names.length := by omega
        have hr : rngA x = decide (x.lo = 0 ∧ x.hi = (x.names.length : Int) - 1) := if_neg z
        rw [hr] at hA
        have hln := hx.l.n
        have w : IntKind.i64.wrap ((x.names.length : Int) - 1) = (x.names.length : Int) - 1 := wrap_in (by omega) (by omega)
        by_cases l0 : x.lo = 0
        ·have b0 : (x.lo == 0) = true := by simp [l0]
         by_cases h0 : x.hi = (x.names.length : Int) - 1
         ·have b1 : (x.hi == (x.names.length : Int) - 1) = true := by simp [h0]
          refine sC ?_
          simp [z2]
          try (simp [w, b0, b1])
          repeat (refine sR ?_; simp [w, b0, b1])
          refine sC ?_
          simp
          try (simp)
          repeat (refine sR ?_; simp)
          refine sT ?_
          try simp only [AU]
          refine ⟨by simp, sF hbox htok (fun _ h => h) (Nat.le_refl _) ?_⟩
          simp [packA, hA, l0, h0]
         ·have b1 : (x.hi == (x.names.length : Int) - 1) = false := by simp [h0]
          refine sC ?_
          simp [z2]
          try (simp [w, b0, b1])
          repeat (refine sR ?_; simp [w, b0, b1])
          refine sC ?_
          simp
          try (simp)
          repeat (refine sR ?_; simp)
          refine sT ?_
          try simp only [AU]
          refine ⟨by simp, sF hbox htok (fun _ h => h) (Nat.le_refl _) ?_⟩
          simp [packA, hA, l0, h0]
        ·have b0 : (x.lo == 0) = false := by simp [l0]
         refine sC ?_
         simp [z2]
         try (simp [w, b0])
         repeat (refine sR ?_; simp [w, b0])
         refine sC ?_
         simp
         try (simp)
         repeat (refine sR ?_; simp)
         refine sT ?_
         try simp only [AU]
         refine ⟨by simp, sF hbox htok (fun _ h => h) (Nat.le_refl _) ?_⟩
         simp [packA, hA, l0]
     ·try (simp [c1, c2])
      repeat (refine sR ?_; simp [c1, c2])
      by_cases z : x.names.length = 0
      ·have z2 : ¬ 0 < x.names.length := by omega
       have hr : rngA x = false := by rw [rngA, if_pos z]; simp only [decide_eq_true_eq, decide_eq_false_iff_not]; omega
       rw [hr] at hA
       refine sC ?_
       simp [z2]
       try (simp)
       repeat (refine sR ?_; simp)
       refine sC ?_
       simp
       try (simp)
       repeat (refine sR ?_; simp)
       refine sT ?_
       try simp only [AU]
       refine ⟨by simp, sF hbox htok (fun _ h => h) (Nat.le_refl _) ?_⟩
       simp [packA, hA]
      ·have z2 : 0 < x.names.length := by omega
       have hr : rngA x = decide (x.lo = 0 ∧ x.hi = (x.names.length : Int) - 1) := if_neg z
       rw [hr] at hA
       have hln := hx.l.n
       have w : IntKind.i64.wrap ((x.names.length : Int) - 1) = (x.names.length : Int) - 1 := wrap_in (by omega) (by omega)
       by_cases l0 : x.lo = 0
       ·have b0 : (x.lo == 0) = true := by simp [l0]
        by_cases h0 : x.hi = (x.names.length : Int) - 1
        ·have b1 : (x.hi == (x.names.length : Int) - 1) = true := by simp [h0]
         refine sC ?_
         simp [z2]
         try (simp [w, b0, b1])
         repeat (refine sR ?_; simp [w, b0, b1])
         refine sC ?_
         simp
         try (simp)
         repeat (refine sR ?_; simp)
         refine sT ?_
         try simp only [AU]
         refine ⟨by simp, sF hbox htok (fun _ h => h) (Nat.le_refl _) ?_⟩
         simp [packA, hA, l0, h0]
        ·have b1 : (x.hi == (x.names.length : Int) - 1) = false := by simp [h0]
         refine sC ?_
         simp [z2]
         try (simp [w, b0, b1])
         repeat (refine sR ?_; simp [w, b0, b1])
         refine sC ?_
         simp
         try (simp)
         repeat (refine sR ?_; simp)
         refine sT ?_
         try simp only [AU]
         refine ⟨by simp, sF hbox htok (fun _ h => h) (Nat.le_refl _) ?_⟩
         simp [packA, hA, l0, h0]
       ·have b0 : (x.lo == 0) = false := by simp [l0]
        refine sC ?_
        simp [z2]
        try (simp [w, b0])
        repeat (refine sR ?_; simp [w, b0])
        refine sC ?_
        simp
        try (simp)
        repeat (refine sR ?_; simp)
        refine sT ?_
        try simp only [AU]
        refine ⟨by simp, sF hbox htok (fun _ h => h) (Nat.le_refl _) ?_⟩
        simp [packA, hA, l0]
    ·try (simp [c1])
     repeat (refine sR ?_; simp [c1])
     by_cases z : x.names.length = 0
     ·have z2 : ¬ 0 < x.names.length := by omega
      have hr : rngA x = false := by rw [rngA, if_pos z]; simp only [decide_eq_true_eq, decide_eq_false_iff_not]; omega
      rw [hr] at hA
      refine sC ?_
      simp [z2]
      try (simp)
      repeat (refine sR ?_; simp)
      refine sC ?_
      simp
      try (simp)
      repeat (refine sR ?_; simp)
      refine sT ?_
      try simp only [AU]
      refine ⟨by simp, sF hbox htok (fun _ h => h) (Nat.le_refl _) ?_⟩
      simp [packA, hA]
     ·have z2 : 0 < x.names.length := by omega
      have hr : rngA x = decide (x.lo = 0 ∧ x.hi = (x.names.length : Int) - 1) := if_neg z
      rw [hr] at hA
      have hln := hx.l.n
      have w : IntKind.i64.wrap ((x.names.length : Int) - 1) = (x.names.length : Int) - 1 := wrap_in (by omega) (by omega)
      by_cases l0 : x.lo = 0
      ·have b0 : (x.lo == 0) = true := by simp [l0]
       by_cases h0 : x.hi = (x.names.length : Int) - 1
       ·have b1 : (x.hi == (x.names.length : Int) - 1) = true := by simp [h0]
        refine sC ?_
        simp [z2]
        try (simp [w, b0, b1])
        repeat (refine sR ?_; simp [w, b0, b1])
        refine sC ?_
        simp
        try (simp)
        repeat (refine sR ?_; simp)
        refine sT ?_
        try simp only [AU]
        refine ⟨by simp, sF hbox htok (fun _ h => h) (Nat.le_refl _) ?_⟩
        simp [packA, hA, l0, h0]
       ·have b1 : (x.hi == (x.names.length : Int) - 1) = false := by simp [h0]
        refine sC ?_
        simp [z2]
        try (simp [w, b0, b1])
        repeat (refine sR ?_; simp [w, b0, b1])
        refine sC ?_
        simp
        try (simp)
        repeat (refine sR ?_; simp)
        refine sT ?_
        try simp only [AU]
        refine ⟨by simp, sF hbox htok (fun _ h => h) (Nat.le_refl _) ?_⟩
        simp [packA, hA, l0, h0]
      ·have b0 : (x.lo == 0) = false := by simp [l0]
       refine sC ?_
       simp [z2]
       try (simp [w, b0])
       repeat (refine sR ?_; simp [w, b0])
       refine sC ?_
       simp
       try (simp)
       repeat (refine sR ?_; simp)
       refine sT ?_
       try simp only [AU]
       refine ⟨by simp, sF hbox htok (fun _ h => h) (Nat.le_refl _) ?_⟩
       simp [packA, hA, l0]
   ·rw [if_pos e3] at hA
    have b3 : (nmsE x.names != 0) = true := by simp [e3]
    simp only [b3]
    refine sC ?_
    simp
    try (simp)
    repeat (refine sR ?_; simp)
    refine sT ?_
    try simp only [AU]
    refine ⟨by simp, sF hbox htok (fun _ h => h) (Nat.le_refl _) ?_⟩
    simp [packA, hA]
  ·rw [e2, if_pos rfl] at hA
   refine sC ?_
   simp
   try (simp)
   repeat (refine sR ?_; simp)
   refine sT ?_
   try simp only [AU]
   refine ⟨by simp, sF hbox htok (fun _ h => h) (Nat.le_refl _) ?_⟩
   simp [packA, hA]
end Go.AM
namespace Go.AM
open Go Go.Proofs
end Go.AM
namespace Go.AM
open Go Go.Proofs
instance : Inhabited NT := ⟨⟨eB, 0, false, []⟩⟩
def Ty.nd (t : Ty) (i : Nat) : NT := t.nodes.getD i default
def atsL (t : Ty) (i : Nat) : List At := if h : 0 ≤ (t.nd i).par ∧ (t.nd i).par.toNat < i then atsL t (t.nd i).par.toNat ++ (t.nd i).own else (t.nd i).own
termination_by i
decreasing_by exact h.2
theorem atsL_up {t : Ty} {i : Nat} (h : 0 ≤ (t.nd i).par) (h2 : (t.nd i).par.toNat < i) : atsL t i = atsL t (t.nd i).par.toNat ++ (t.nd i).own := by rw [atsL, dif_pos ⟨h, h2⟩]
theorem atsL_top {t : Ty} {i : Nat} (h : ¬ 0 ≤ (t.nd i).par) : atsL t i = (t.nd i).own := by rw [atsL, dif_neg fun h2 => h h2.1]
theorem atsL_len {t : Ty} {M : Nat} (hM : ∀ i, (t.nd i).own.length ≤ M) : ∀ n i, i < n → (atsL t i).length ≤ (i + 1) * M
 | 0, i, hi => absurd hi (Nat.not_lt_zero _)
 | n + 1, i, hi => by
  have hm := hM i
  by_cases h : 0 ≤ (t.nd i).par ∧ (t.nd i).par.toNat < i
  ·have ih := atsL_len hM n (t.nd i).par.toNat (by omega)
   rw [atsL_up h.1 h.2, List.length_append]
   have : ((t.nd i).par.toNat + 1) * M ≤ i * M := Nat.mul_le_mul_right _ (by omega)
   rw [Nat.add_mul, Nat.one_mul]
   omega
  ·rw [atsL, dif_neg h]
   have : M ≤ (i + 1) * M := Nat.le_mul_of_pos_left _ (by omega)
   omega
structure Ty.Fit (t : Ty) : Prop where
 n : t.nodes.length ≤ 1000
 e : t.edges.length ≤ 1000
 nn : ∀ x ∈ t.nodes, x.name.size ≤ 1000000000000
 en : ∀ x ∈ t.edges, x.name.size ≤ 1000000000000
 a : ∀ x ∈ t.nodes, x.own.length ≤ 1000 ∧ ∀ y ∈ x.own, y.Fit
theorem nd_at {t : Ty} {i : Nat} (h : i < t.nodes.length) : t.nd i = t.nodes[i] := by simp [Ty.nd, h]
theorem attrs_c (t : Ty) (ht : t.Fit) (hM : ∀ i, (t.nd i).own.length ≤ 1000) : ∀ (n i : Nat), i < n → i < t.nodes.length → (∀ j, j ≤ i → (t.nd j).par < j) → ∀ (tok : Tks) (nt : Nat), ∃ tok' nt' o, ((∀ q, tok q = true → q < nt) → TK tok nt tok' nt' [o]) ∧
  DCall Tryz.prog 212 [t.av, I i] tok nt (.osl 4 ((atsL t i).map At.cells) o) tok' nt'
 | 0, i, hi, _, _, _, _ => absurd hi (Nat.not_lt_zero _)
 | n + 1, i, hi, hlt, hp, tok, nt => by
  have hnd := nd_at hlt
  by_cases h0 : 0 ≤ (t.nd i).par
  ·have hpi := hp i (Nat.le_refl _)
   obtain ⟨tok1, nt1, o1, hk, hc⟩ := attrs_c t ht hM n (t.nd i).par.toNat (by omega) (by omega) (fun j hj => hp j (by omega)) tok nt
   have hL := atsL_up h0 (by omega)
   have hl1 := atsL_len hM (i + 1) (t.nd i).par.toNat (by omega)
   have hl2 := hM i
   have hb : ((t.nd i).par.toNat + 1) * 1000 ≤ 1000 * 1000 := Nat.mul_le_mul_right _ (by have := ht.n; omega)
   refine ⟨_, _, .tok nt1, fun h => (hk h).app, ?_⟩
   rw [hL]
   rw [Int.toNat_of_nonneg h0] at hc
   generalize atsL t (t.nd i).par.toNat = Q at *
   rw [hnd] at h0 hc hl2 ⊢
   intro box nb
   have hc := hc
   refine sB Tryz.func212 Tryz.ntmps212 ?_
   intro hbox htok
   simp only at hbox htok
   apply AL.start
   have hkk := hk htok
   try (simp [hlt])
   repeat (refine sR ?_; simp [hlt])
   refine sC ?_
   simp [h0]
   try (simp)
   repeat (refine sR ?_; simp)
   refine Stop.of_d (hc) ?_
   simp
   try (simp [hlt])
   repeat (refine sR ?_; simp [hlt])
   refine ⟨⟨by omega, hkk.live⟩, ?_⟩
   refine sN ?_
   refine AL.ret ?_
   try simp only [AU]
   refine ⟨by simp, Fin.own (by simp [resAs, resA]; rfl) hbox rfl hkk.app.le ?_⟩
   simp [packA]
  ·have hL := atsL_top h0
   have hl2 := hM i
   refine ⟨_, _, .tok nt, fun h => (TK.start h).full.app, ?_⟩
   rw [hL]
   rw [hnd] at h0 hl2 ⊢
   intro box nb
   refine sB Tryz.func212 Tryz.ntmps212 ?_
   intro hbox htok
   simp only at hbox htok
   apply AL.start
   have hkk := (TK.start htok).full
   try (simp [hlt])
   repeat (refine sR ?_; simp [hlt])
   refine sC ?_
   simp [h0]
   try (simp [hlt])
   repeat (refine sR ?_; simp [hlt])
   refine ⟨by omega, ?_⟩
   refine sN ?_
   refine AL.ret ?_
   try simp only [AU]
   refine ⟨by simp, Fin.own (by simp [resAs, resA]; rfl) hbox rfl (by simp) ?_⟩
   simp [packA]
end Go.AM
namespace Go.AM
open Go Go.Proofs
def bndB (lo hi : Int) : Bool := decide (0 ≤ lo ∧ lo ≤ 40) && (hi == -1 || decide (lo ≤ hi ∧ hi ≤ 40))
theorem bounded_c (lo hi : Int) (tok : Tks) (nt : Nat) : DCall Tryz.prog 217 [I lo, I hi] tok nt (B (bndB lo hi)) tok nt := by
 intro box nb
 by_cases h1 : 0 ≤ lo
 ·by_cases h2 : lo ≤ 40
  ·cases h3 : (hi == -1)
   ·by_cases h4 : lo ≤ hi
    ·by_cases h5 : hi ≤ 40
     ·refine sB Tryz.func217 Tryz.ntmps217 ?_
      intro hbox htok
      simp only at hbox htok
      apply AL.start
      try (simp [h1, h2, h3, h4, h5])
      repeat (refine sR ?_; simp [h1, h2, h3, h4, h5])
      refine sT ?_
      try simp only [AU]
      refine ⟨by simp, sF hbox htok (fun _ h => h) (Nat.le_refl _) ?_⟩
      simp [packA, bndB, h1, h2, h3, h4, h5]
     ·refine sB Tryz.func217 Tryz.ntmps217 ?_
      intro hbox htok
      simp only at hbox htok
      apply AL.start
      try (simp [h1, h2, h3, h4, h5])
      repeat (refine sR ?_; simp [h1, h2, h3, h4, h5])
      refine sT ?_
      try simp only [AU]
      refine ⟨by simp, sF hbox htok (fun _ h => h) (Nat.le_refl _) ?_⟩
      simp [packA, bndB, h1, h2, h3, h4, h5]
    ·refine sB Tryz.func217 Tryz.ntmps217 ?_
     intro hbox htok
     simp only at hbox htok
     apply AL.start
     try (simp [h1, h2, h3, h4])
     repeat (refine sR ?_; simp [h1, h2, h3, h4])
     refine sT ?_
     try simp only [AU]
     refine ⟨by simp, sF hbox htok (fun _ h => h) (Nat.le_refl _) ?_⟩
     simp [packA, bndB, h1, h2, h3, h4]
   ·refine sB Tryz.func217 Tryz.ntmps217 ?_
    intro hbox htok
    simp only at hbox htok
    apply AL.start
    try (simp [h1, h2, h3])
    repeat (refine sR ?_; simp [h1, h2, h3])
    refine sT ?_
    try simp only [AU]
    refine ⟨by simp, sF hbox htok (fun _ h => h) (Nat.le_refl _) ?_⟩
    simp [packA, bndB, h1, h2, h3]
  ·refine sB Tryz.func217 Tryz.ntmps217 ?_
   intro hbox htok
   simp only at hbox htok
   apply AL.start
   try (simp [h1, h2])
   repeat (refine sR ?_; simp [h1, h2])
   refine sT ?_
   try simp only [AU]
   refine ⟨by simp, sF hbox htok (fun _ h => h) (Nat.le_refl _) ?_⟩
   simp [packA, bndB, h1, h2]
 ·refine sB Tryz.func217 Tryz.ntmps217 ?_
  intro hbox htok
  simp only at hbox htok
  apply AL.start
  try (simp [h1])
  repeat (refine sR ?_; simp [h1])
  refine sT ?_
  try simp only [AU]
  refine ⟨by simp, sF hbox htok (fun _ h => h) (Nat.le_refl _) ?_⟩
  simp [packA, bndB, h1]
abbrev NT.row (n : NT) : List AV := [Sb n.name, I n.par, B n.abs, .d (atts n.own)]
abbrev ET.row (e : ET) : List AV := [Sb e.name, I e.fr, I e.to, I e.ol, I e.oh, I e.il, I e.ih]
theorem node1_c (x y : NT) (box : Bxs) (nb k : Nat) (tok : Tks) (nt : Nat) (h1 : box k = some [x.row]) :
  ACalls Tryz.prog 211 [y.av, .ptr k 0 0] ⟨box, nb, tok, nt⟩ fun v m => v = B (decide (y.name = x.name)) ∧ m = ⟨box, nb, tok, nt⟩ := by
 refine sB Tryz.func211 Tryz.ntmps211 ?_
 intro hbox htok
 simp only at hbox htok
 apply AL.start
 have k1n := key_lt hbox h1
 rw [← seq_dec]
 try (simp [lb_out k1n, h1])
 repeat (refine sR ?_; simp [lb_out k1n, h1])
 refine sT ?_
 try simp only [AU]
 refine ⟨by simp, sF hbox htok (fun _ h => h) (Nat.le_refl _) ?_⟩
 simp [packA]
theorem edge2_c (x y : ET) (box : Bxs) (nb k : Nat) (tok : Tks) (nt : Nat) (h1 : box k = some [x.row]) :
  ACalls Tryz.prog 216 [y.av, .ptr k 0 0] ⟨box, nb, tok, nt⟩ fun v m => v = B (decide (y.name = x.name)) ∧ m = ⟨box, nb, tok, nt⟩ := by
 refine sB Tryz.func216 Tryz.ntmps216 ?_
 intro hbox htok
 simp only at hbox htok
 apply AL.start
 have k1n := key_lt hbox h1
 rw [← seq_dec]
 try (simp [lb_out k1n, h1])
 repeat (refine sR ?_; simp [lb_out k1n, h1])
 refine sT ?_
 try simp only [AU]
 refine ⟨by simp, sF hbox htok (fun _ h => h) (Nat.le_refl _) ?_⟩
 simp [packA]
def insB (t : Ty) (n : Int) : Bool := decide (0 ≤ n ∧ n < t.nodes.length)
theorem edge1_c (t : Ty) (n : Int) (box : Bxs) (nb k : Nat) (tok : Tks) (nt : Nat) (h1 : box k = some [[.d (nts t.nodes), .d (ets t.edges)]]) :
  ACalls Tryz.prog 214 [I n, .ptr k 0 0] ⟨box, nb, tok, nt⟩ fun v m => v = B (insB t n) ∧ m = ⟨box, nb, tok, nt⟩ := by
 by_cases h0 : 0 ≤ n
 ·refine sB Tryz.func214 Tryz.ntmps214 ?_
  intro hbox htok
  simp only at hbox htok
  apply AL.start
  have k1n := key_lt hbox h1
  try (simp [lb_out k1n, h1, h0])
  repeat (refine sR ?_; simp [lb_out k1n, h1, h0])
  refine sT ?_
  try simp only [AU]
  refine ⟨by simp, sF hbox htok (fun _ h => h) (Nat.le_refl _) ?_⟩
  simp [packA, insB, h0]
 ·refine sB Tryz.func214 Tryz.ntmps214 ?_
  intro hbox htok
  simp only at hbox htok
  apply AL.start
  have k1n := key_lt hbox h1
  try (simp [lb_out k1n, h1, h0])
  repeat (refine sR ?_; simp [lb_out k1n, h1, h0])
  refine sT ?_
  try simp only [AU]
  refine ⟨by simp, sF hbox htok (fun _ h => h) (Nat.le_refl _) ?_⟩
  simp [packA, insB, h0]
end Go.AM
namespace Go.AM
open Go Go.Proofs
def atAt (L : List At) (k : Nat) : Int := attE (L.getD k ⟨eB, 0, 0, []⟩) (L.take k)
def ownAt (L : List At) (M k : Nat) : Int := if k + M < L.length then 0 else atAt L k
def ownE (L : List At) (M : Nat) : Int := firstE (ownAt L M) L.length
theorem ownAt_zero (L : List At) (M : Nat) : ∀ k, k + M ≤ L.length → firstE (ownAt L M) k = 0
 | 0, _ => rfl
 | k + 1, h => by
  simp only [firstE, ownAt_zero L M k (by omega), ↓reduceIte, ownAt]
  rw [if_pos (by omega)]
theorem atsL_own {t : Ty} {i : Nat} : (t.nd i).own.length ≤ (atsL t i).length := by
 rw [atsL]
 split
 ·rw [List.length_append]; omega
 ·exact Nat.le_refl _
theorem atsL_fit {t : Ty} (ht : t.Fit) : ∀ n i, i < n → ∀ x ∈ atsL t i, x.Fit
 | 0, i, hi => absurd hi (Nat.not_lt_zero _)
 | n + 1, i, hi => by
  have hown : ∀ x ∈ (t.nd i).own, x.Fit := by
   by_cases h : i < t.nodes.length
   ·rw [nd_at h]; exact (ht.a _ (List.getElem_mem h)).2
   ·intro x hx
    simp only [Ty.nd, List.getD_eq_getElem?_getD, List.getElem?_eq_none (Nat.le_of_not_lt h), Option.getD_none] at hx
    cases hx
  rw [atsL]
  split
  ·rename_i h
   intro x hx
   rcases List.mem_append.1 hx with hx | hx
   ·exact atsL_fit ht n _ (by omega) x hx
   ·exact hown x hx
  ·exact hown
theorem at_getD {L : List At} {k : Nat} (h : k < L.length) : atAt L k = attE L[k] (L.take k) := by simp [atAt, h]
theorem atts_take (L : List At) (k : Nat) : atts (L.take k) = .sl 4 (List.take k (L.map At.cells)) := by rw [atts, List.map_take]
theorem atts_at {L : List At} {k : Nat} (h : k < L.length) : (L.map At.cells)[k]? = some L[k].cells := by simp [h]
def nodE (t : Ty) (i : Nat) : Int :=
 if nameB (t.nd i).name = false then 2 else if anyB (fun y => decide (y.name = (t.nd i).name)) (t.nodes.take i) = true then 5
 else if (t.nd i).par < -1 ∨ (i : Int) ≤ (t.nd i).par then 6 else if 4 < (t.nd i).own.length then 3
 else if 8 < (atsL t i).length then 3 else ownE (atsL t i) (t.nd i).own.length
def stNo (L : List At) (nb : Nat) (box : Bxs) (tok : Tks) (nt : Nat) (k : Nat) : AState := ⟨tl [(7, I k), (6, .d (atts L))], lb nb box [], tok, nt⟩
theorem node_c (t : Ty) (ht : t.Fit) (hM : ∀ i, (t.nd i).own.length ≤ 1000) (i : Nat) (hi : i < t.nodes.length) (hp : ∀ j, j < i → (t.nd j).par < j) (tok : Tks) (nt : Nat) : DCall Tryz.prog 133 [t.av, I i] tok nt (I (nodE t i)) tok nt := by
 intro box nb
 have hnd := nd_at hi
 have hmem := List.getElem_mem hi
 have h1 := isName_c (t.nd i).name (by rw [hnd]; exact Nat.le_trans (ht.nn _ hmem) (by decide))
 obtain ⟨N, hN⟩ : ∃ N, nodE t i = N := ⟨_, rfl⟩
 rw [hN]
 unfold nodE at hN
 rw [hnd] at h1 hN
 cases e1 : nameB t.nodes[i].name
 ·rw [e1] at h1 hN
  rw [if_pos rfl] at hN
  refine sB Tryz.func133 Tryz.ntmps133 ?_
  intro hbox htok
  simp only at hbox htok
  apply AL.start
  try (simp [hi])
  repeat (refine sR ?_; simp [hi])
  refine Stop.of_d (h1 _ _) ?_
  simp
  try (simp)
  repeat (refine sR ?_; simp)
  refine sC ?_
  simp
  try (simp)
  repeat (refine sR ?_; simp)
  refine sT ?_
  try simp only [AU]
  refine ⟨by simp, sF hbox htok (fun _ h => h) (Nat.le_refl _) ?_⟩
  simp [packA, ← hN]
 ·rw [e1] at h1 hN
  rw [if_neg (by simp)] at hN
  obtain ⟨p, hpp⟩ : ∃ p : NT → Bool, (fun y => decide (y.name = t.nodes[i].name)) = p := ⟨_, rfl⟩
  have h2 := fun y box nb k (hbk : box k = some [(t.nodes[i]'hi).row]) => node1_c (t.nodes[i]'hi) y box nb k tok nt hbk
  have hpy : ∀ y : NT, decide (y.name = t.nodes[i].name) = p y := fun y => by rw [← hpp]
  simp only [hpy] at h2
  rw [hpp] at hN
  refine sB Tryz.func133 Tryz.ntmps133 ?_
  intro hbox htok
  simp only at hbox htok
  apply AL.start
  try (simp [hi])
  repeat (refine sR ?_; simp [hi])
  refine Stop.of_d (h1 _ _) ?_
  simp
  try (simp)
  repeat (refine sR ?_; simp)
  refine sC ?_
  simp
  try (simp [hi])
  repeat (refine sR ?_; simp [hi])
  refine ⟨by omega, ?_⟩
  have hcf := fun (b : Bxs) nb' h3 h4 => containsFuncN_c (t.nodes.take i) 211 [.ptr (nb + 5) 0 0] p (by simp; have := ht.n; omega) b nb' tok nt h3 h4
  rw [show nts (t.nodes.take i) = .sl 4 (List.take i (t.nodes.map NT.cells)) by rw [nts, List.map_take]] at hcf
  refine Stop.of_b (hcf _ _ (fun c hc => by rw [List.mem_singleton.1 hc]; simp [lb_at]) (fun y hy box' nb' he => h2 y box' nb' _ (he _ _ (by simp [lb_at])))) ?_
  simp
  cases e2 : anyB p (t.nodes.take i)
  ·rw [e2, if_neg (by simp)] at hN
   refine sC ?_
   simp
   by_cases e3 : t.nodes[i].par < -1
   ·rw [if_pos (.inl e3)] at hN
    try (simp [e3])
    repeat (refine sR ?_; simp [e3])
    refine sC ?_
    simp
    try (simp)
    repeat (refine sR ?_; simp)
    refine sT ?_
    try simp only [AU]
    refine ⟨by simp, sF hbox htok (fun _ h => h) (Nat.le_refl _) ?_⟩
    simp [packA, ← hN]
   ·by_cases e4 : (i : Int) ≤ t.nodes[i].par
    ·rw [if_pos (.inr e4)] at hN
     try (simp [e3, e4])
     repeat (refine sR ?_; simp [e3, e4])
     refine sC ?_
     simp
     try (simp)
     repeat (refine sR ?_; simp)
     refine sT ?_
     try simp only [AU]
     refine ⟨by simp, sF hbox htok (fun _ h => h) (Nat.le_refl _) ?_⟩
     simp [packA, ← hN]
    ·rw [if_neg (by omega)] at hN
     try (simp [e3, e4])
     repeat (refine sR ?_; simp [e3, e4])
     refine sC ?_
     simp
     try (simp)
     repeat (refine sR ?_; simp)
     by_cases e5 : 4 < t.nodes[i].own.length
     ·have e5' : (4 : Int) < t.nodes[i].own.length := by omega
      rw [if_pos e5] at hN
      refine sC ?_
      simp [e5, e5']
      try (simp)
      repeat (refine sR ?_; simp)
      refine sT ?_
      try simp only [AU]
      refine ⟨by simp, sF hbox htok (fun _ h => h) (Nat.le_refl _) ?_⟩
      simp [packA, ← hN]
     ·have e5' : ¬ (4 : Int) < t.nodes[i].own.length := by omega
      rw [if_neg e5] at hN
      obtain ⟨tok1, nt1, o1, hk, hc⟩ := attrs_c t ht hM (i + 1) i (Nat.lt_succ_self _) hi (fun j hj => by
       by_cases e : j = i
       ·subst e; rw [hnd]; omega
       ·exact hp j (by omega)) tok nt
      have hal := atsL_len hM (i + 1) i (Nat.lt_succ_self _)
      have haf := atsL_fit ht (i + 1) i (Nat.lt_succ_self _)
      have hml := atsL_own (t := t) (i := i)
      rw [hnd] at hml
      have htn := ht.n
      have hal2 : (atsL t i).length ≤ 1000000 := Nat.le_trans hal (by have : (i + 1) * 1000 ≤ 1000 * 1000 := Nat.mul_le_mul_right _ (by omega); omega)
      clear hal
      generalize atsL t i = L at *
      refine sC ?_
      simp [e5, e5']
      try (simp)
      repeat (refine sR ?_; simp)
      refine Stop.of_d (hc) ?_
      simp
      have hkk := hk htok
      try (simp)
      repeat (refine sR ?_; simp)
      by_cases e6 : 8 < L.length
      ·have e6' : (8 : Int) < L.length := by omega
       rw [if_pos e6] at hN
       refine sC ?_
       simp [e6, e6']
       try (simp)
       repeat (refine sR ?_; simp)
       refine sT ?_
       try simp only [AU]
       refine ⟨by simp, sF hbox htok hkk.old hkk.le ?_⟩
       simp [packA, ← hN]
      ·have e6' : ¬ (8 : Int) < L.length := by omega
       rw [if_neg e6] at hN
       have hw0 : IntKind.i64.wrap ((L.length : Int) - (t.nodes[i].own.length : Nat)) = ((L.length - t.nodes[i].own.length : Nat) : Int) := by rw [wrap_in (by omega) (by omega)]; omega
       have hz := ownAt_zero L t.nodes[i].own.length (L.length - t.nodes[i].own.length) (by omega)
       unfold ownE at hN
       obtain ⟨f, hf⟩ : ∃ f, ownAt L t.nodes[i].own.length = f := ⟨_, rfl⟩
       have hfk : ∀ k, (hk : k < L.length) → L.length - t.nodes[i].own.length ≤ k → f k = attE L[k] (L.take k) := fun k hk hge => by
        rw [← hf, ownAt, if_neg (by omega), at_getD hk]
       rw [hf] at hN hz
       refine sC ?_
       simp [e6, e6']
       try (simp [hi, lb_at, hw0])
       repeat (refine sR ?_; simp [hi, lb_at, hw0])
       have hal3 : L.length - t.nodes[i].own.length ≤ L.length := Nat.sub_le _ _
       generalize L.length - t.nodes[i].own.length = a at *
       refine sN ?_
       refine AL.loopT (stNo L nb box tok1 nt1) (fun k => a ≤ k ∧ k ≤ L.length ∧ firstE f k = 0) (fun k => L.length - k) a ⟨Nat.le_refl _, by omega, hz⟩ (Weaks.mk (by have := hkk.le; omega) rfl (by simp [ToL, lk, To.data]) trivial) ?_
       rintro k S' ⟨hak, hkl, hok⟩ hS
       simp only [stNo] at hS
       subst hS
       have hw := sW (i := k) (by omega)
       try (simp)
       repeat (refine sR ?_; simp)
       refine sC ?_
       simp
       refine ⟨fun hlt => ?_, fun hge => ?_⟩
       ·have hA := hfk k hlt hak
        have hc2 := attribute_c L[k] (L.take k) (haf _ (List.getElem_mem hlt)) (by simp; omega)
        rw [atts_take, ← hA] at hc2
        have hR : f k ≠ 0 → firstE f L.length = f k := fun h0 => firstE_stop hok h0 L.length hlt
        have hnx : f k = 0 → firstE f (k + 1) = 0 := fun h0 => by simp only [firstE, hok, h0, ↓reduceIte]
        generalize f k = E at *
        try (simp [hlt, atts_at hlt])
        repeat (refine sR ?_; simp [hlt, atts_at hlt])
        try refine ⟨by omega, ?_⟩
        refine Stop.of_d (hc2 _ _) ?_
        simp
        try (simp)
        repeat (refine sR ?_; simp)
        by_cases e7 : E = 0
        ·refine sC ?_
         simp [e7]
         try (simp [hw])
         repeat (refine sR ?_; simp [hw])
         refine sE ?_
         exact ⟨k + 1, ⟨by omega, hlt, hnx e7⟩, by omega, Weaks.mk (by have := hkk.le; omega) rfl (by simp [ToL, lk]) trivial⟩
        ·have b7 : (E != 0) = true := by simp [e7]
         refine sC ?_
         simp [e7, b7]
         try (simp)
         repeat (refine sR ?_; simp)
         refine sT ?_
         try simp only [AU]
         refine ⟨by simp, sF hbox htok hkk.old hkk.le ?_⟩
         simp [packA, ← hN, hR e7]
       ·refine sX ?_
        simp only [AU, ↓reduceIte]
        try (simp)
        repeat (refine sR ?_; simp)
        have : k = L.length := by omega
        subst this
        refine sT ?_
        try simp only [AU]
        refine ⟨by simp, sF hbox htok hkk.old hkk.le ?_⟩
        simp [packA, ← hN, hok]
  ·rw [e2, if_pos rfl] at hN
   refine sC ?_
   simp
   try (simp)
   repeat (refine sR ?_; simp)
   refine sT ?_
   try simp only [AU]
   refine ⟨by simp, sF hbox htok (fun _ h => h) (Nat.le_refl _) ?_⟩
   simp [packA, ← hN]
end Go.AM
namespace Go.AM
open Go Go.Proofs
end Go.AM
namespace Go.AM
open Go Go.Proofs
instance : Inhabited ET := ⟨⟨eB, 0, 0, 0, 0, 0, 0⟩⟩
def Ty.ed (t : Ty) (i : Nat) : ET := t.edges.getD i default
theorem ed_at {t : Ty} {i : Nat} (h : i < t.edges.length) : t.ed i = t.edges[i] := by simp [Ty.ed, h]
def anyE (l : List ET) (s : ByteArray) : Bool := anyB (fun y => decide (y.name = s)) l
def edR (t : Ty) (x : ET) : Int := if insB t x.fr = false then 6 else if insB t x.to = false then 6 else if bndB x.ol x.oh = false then 6 else if bndB x.il x.ih = false then 6 else 0
def edgE (t : Ty) (i : Nat) : Int :=
 if nameB (t.ed i).name = false then 2 else if anyE (t.edges.take i) (t.ed i).name = true then 5 else edR t (t.ed i)
set_option maxRecDepth 100000 in
theorem edge_c (t : Ty) (ht : t.Fit) (i : Nat) (hi : i < t.edges.length) (tok : Tks) (nt : Nat) : DCall Tryz.prog 134 [t.av, I i] tok nt (I (edgE t i)) tok nt := by
 intro box nb
 have hnd := ed_at hi
 have hmem := List.getElem_mem hi
 have hte := ht.e
 have h1 := isName_c (t.ed i).name (by rw [hnd]; exact Nat.le_trans (ht.en _ hmem) (by decide))
 obtain ⟨N, hN⟩ : ∃ N, edgE t i = N := ⟨_, rfl⟩
 rw [hN]
 unfold edgE at hN
 rw [hnd] at h1 hN
 cases e1 : nameB t.edges[i].name
 ·rw [e1] at h1 hN
  rw [if_pos rfl] at hN
  refine sB Tryz.func134 Tryz.ntmps134 ?_
  intro hbox htok
  simp only at hbox htok
  apply AL.start
  try (simp [hi])
  repeat (refine sR ?_; simp [hi])
  refine Stop.of_d (h1 _ _) ?_
  simp
  try (simp)
  repeat (refine sR ?_; simp)
  refine sC ?_
  simp
  try (simp)
  repeat (refine sR ?_; simp)
  refine sT ?_
  try simp only [AU]
  refine ⟨by simp, sF hbox htok (fun _ h => h) (Nat.le_refl _) ?_⟩
  simp [packA, ← hN]
 ·rw [e1] at h1 hN
  rw [if_neg (by simp)] at hN
  unfold anyE at hN
  obtain ⟨p, hpp⟩ : ∃ p : ET → Bool, (fun y => decide (y.name = t.edges[i].name)) = p := ⟨_, rfl⟩
  have h2 := fun y box nb k (hbk : box k = some [(t.edges[i]'hi).row]) => edge2_c (t.edges[i]'hi) y box nb k tok nt hbk
  have hpy : ∀ y : ET, decide (y.name = t.edges[i].name) = p y := fun y => by rw [← hpp]
  simp only [hpy] at h2
  rw [hpp] at hN
  refine sB Tryz.func134 Tryz.ntmps134 ?_
  intro hbox htok
  simp only at hbox htok
  apply AL.start
  try (simp [hi])
  repeat (refine sR ?_; simp [hi])
  refine Stop.of_d (h1 _ _) ?_
  simp
  try (simp)
  repeat (refine sR ?_; simp)
  refine sC ?_
  simp
  try (simp [hi])
  repeat (refine sR ?_; simp [hi])
  try refine ⟨by omega, ?_⟩
  have hcf := fun (b : Bxs) nb' h3 h4 => containsFuncE2_c (t.edges.take i) 216 [.ptr (nb + 5) 0 0] p (by simp; have := ht.e; omega) b nb' tok nt h3 h4
  rw [show ets (t.edges.take i) = .sl 7 (List.take i (t.edges.map ET.cells)) by rw [ets, List.map_take]] at hcf
  refine Stop.of_b (hcf _ _ (fun c hc => by rw [List.mem_singleton.1 hc]; simp [lb_at]) (fun y hy box' nb' he => h2 y box' nb' _ (he _ _ (by simp [lb_at])))) ?_
  simp
  cases e2 : anyB p (t.edges.take i)
  ·rw [e2, if_neg (by simp)] at hN
   unfold edR at hN
   have b1 := bounded_c t.edges[i].ol t.edges[i].oh
   have b2 := bounded_c t.edges[i].il t.edges[i].ih
   refine sC ?_
   simp
   try (simp)
   repeat (refine sR ?_; simp)
   refine Stop.of_b (edge1_c t t.edges[i].fr _ _ (nb + 2) _ _ (by simp [lb_at])) ?_
   simp
   cases g1 : insB t t.edges[i].fr
   ·rw [g1, if_pos rfl] at hN
    try (simp)
    repeat (refine sR ?_; simp)
    refine sC ?_
    simp
    try (simp)
    repeat (refine sR ?_; simp)
    refine sC ?_
    simp
    try (simp)
    repeat (refine sR ?_; simp)
    refine sT ?_
    try simp only [AU]
    refine ⟨by simp, sF hbox htok (fun _ h => h) (Nat.le_refl _) ?_⟩
    simp [packA, ← hN]
   ·rw [g1, if_neg (by simp)] at hN
    try (simp)
    repeat (refine sR ?_; simp)
    refine Stop.of_b (edge1_c t t.edges[i].to _ _ (nb + 2) _ _ (by simp [lb_at])) ?_
    simp
    cases g2 : insB t t.edges[i].to
    ·rw [g2, if_pos rfl] at hN
     try (simp)
     repeat (refine sR ?_; simp)
     refine sC ?_
     simp
     try (simp)
     repeat (refine sR ?_; simp)
     refine sC ?_
     simp
     try (simp)
     repeat (refine sR ?_; simp)
     refine sT ?_
     try simp only [AU]
     refine ⟨by simp, sF hbox htok (fun _ h => h) (Nat.le_refl _) ?_⟩
     simp [packA, ← hN]
    ·rw [g2, if_neg (by simp)] at hN
     try (simp)
     repeat (refine sR ?_; simp)
     refine sC ?_
     simp
     try (simp)
     repeat (refine sR ?_; simp)
     refine Stop.of_d (b1 _ _) ?_
     simp
     cases g3 : bndB t.edges[i].ol t.edges[i].oh
     ·rw [g3, if_pos rfl] at hN
      try (simp)
      repeat (refine sR ?_; simp)
      refine sC ?_
      simp
      try (simp)
      repeat (refine sR ?_; simp)
      refine sT ?_
      try simp only [AU]
      refine ⟨by simp, sF hbox htok (fun _ h => h) (Nat.le_refl _) ?_⟩
      simp [packA, ← hN]
     ·rw [g3, if_neg (by simp)] at hN
      try (simp)
      repeat (refine sR ?_; simp)
      refine Stop.of_d (b2 _ _) ?_
      simp
      cases g4 : bndB t.edges[i].il t.edges[i].ih
      ·rw [g4, if_pos rfl] at hN
       try (simp)
       repeat (refine sR ?_; simp)
       refine sC ?_
       simp
       try (simp)
       repeat (refine sR ?_; simp)
       refine sT ?_
       try simp only [AU]
       refine ⟨by simp, sF hbox htok (fun _ h => h) (Nat.le_refl _) ?_⟩
       simp [packA, ← hN]
      ·rw [g4, if_neg (by simp)] at hN
       try (simp)
       repeat (refine sR ?_; simp)
       refine sC ?_
       simp
       try (simp)
       repeat (refine sR ?_; simp)
       refine sT ?_
       try simp only [AU]
       refine ⟨by simp, sF hbox htok (fun _ h => h) (Nat.le_refl _) ?_⟩
       simp [packA, ← hN]
  ·rw [e2, if_pos rfl] at hN
   refine sC ?_
   simp
   try (simp)
   repeat (refine sR ?_; simp)
   refine sT ?_
   try simp only [AU]
   refine ⟨by simp, sF hbox htok (fun _ h => h) (Nat.le_refl _) ?_⟩
   simp [packA, ← hN]
end Go.AM
namespace Go.AM
open Go Go.Proofs
def firstN (f : Nat → Int) (g : Nat → ByteArray) : Nat → ByteArray
 | 0 => eB
 | n + 1 => if firstE f n = 0 then (if f n = 0 then eB else g n) else firstN f g n
theorem firstN_stop {f : Nat → Int} {g : Nat → ByteArray} {i : Nat} (h0 : firstE f i = 0) (h : f i ≠ 0) : ∀ n, i < n → firstN f g n = g i
 | 0, hi => absurd hi (Nat.not_lt_zero _)
 | n + 1, hi => by
  simp only [firstN]
  by_cases e : i = n
  ·subst e
   rw [if_pos h0, if_neg h]
  ·have := firstE_stop h0 h n (by omega)
   rw [if_neg (by rw [this]; exact h), firstN_stop h0 h n (by omega)]
theorem firstN_none {f : Nat → Int} {g : Nat → ByteArray} : ∀ n, firstE f n = 0 → firstN f g n = eB
 | 0, _ => rfl
 | n + 1, h => by
  simp only [firstE] at h
  split at h
  ·rename_i h1
   rw [firstN, if_pos h1, if_pos h]
  ·rename_i h1
   exact absurd h h1
def tyE (t : Ty) : Int :=
 if t.nodes.length = 0 then 7 else if 12 < t.nodes.length then 3 else if 20 < t.edges.length then 3
 else if firstE (nodE t) t.nodes.length ≠ 0 then firstE (nodE t) t.nodes.length else firstE (edgE t) t.edges.length
def tyN (t : Ty) : ByteArray :=
 if t.nodes.length = 0 then eB else if 12 < t.nodes.length then eB else if 20 < t.edges.length then eB
 else if firstE (nodE t) t.nodes.length ≠ 0 then firstN (nodE t) (fun i => (t.nd i).name) t.nodes.length else firstN (edgE t) (fun i => (t.ed i).name) t.edges.length
theorem nodE_par {t : Ty} {i : Nat} (h : nodE t i = 0) : (t.nd i).par < i := by
 unfold nodE at h
 split at h
 ·cases h
 ·split at h
  ·cases h
  ·split at h
   ·cases h
   ·omega
theorem firstE_allZ {f : Nat → Int} : ∀ n, firstE f n = 0 → ∀ i, i < n → f i = 0
 | 0, _, i, hi => absurd hi (Nat.not_lt_zero _)
 | n + 1, h, i, hi => by
  simp only [firstE] at h
  split at h
  ·rename_i h1
   by_cases e : i = n
   ·subst e; exact h
   ·exact firstE_allZ n h1 i (by omega)
  ·rename_i h1
   exact absurd h h1
end Go.AM
namespace Go.AM
open Go Go.Proofs
def stVn (t : Ty) (nb : Nat) (box : Bxs) (tok : Tks) (nt : Nat) (i : Nat) : AState := ⟨tl [(29, I i), (28, I t.nodes.length), (27, .d (nts t.nodes)), (1, .ptr (nb + 1) 0 0)], lb nb box [(1, [[.d (nts t.nodes), .d (ets t.edges)]])], tok, nt⟩
def stVe (t : Ty) (nb : Nat) (box : Bxs) (tok : Tks) (nt : Nat) (i : Nat) : AState := ⟨tl [(46, I i), (45, I t.edges.length), (44, .d (ets t.edges)), (1, .ptr (nb + 1) 0 0)], lb nb box [(1, [[.d (nts t.nodes), .d (ets t.edges)]])], tok, nt⟩
theorem valid_c4 (t : Ty) (ht : t.Fit) (hM : ∀ i, (t.nd i).own.length ≤ 1000) (tok : Tks) (nt : Nat) : DCall Tryz.prog 66 [t.av] tok nt (.tup [Sb (tyN t), I (tyE t)]) tok nt := by
 intro box nb
 have htn := ht.n
 have hte := ht.e
 obtain ⟨N, hN⟩ : ∃ N, tyE t = N := ⟨_, rfl⟩
 obtain ⟨Z, hZ⟩ : ∃ Z, tyN t = Z := ⟨_, rfl⟩
 rw [hN, hZ]
 unfold tyE at hN
 unfold tyN at hZ
 by_cases e1 : t.nodes.length = 0
 ·have e1' : t.nodes = [] := List.length_eq_zero_iff.1 e1
  rw [if_pos e1] at hN hZ
  refine sB Tryz.func66 Tryz.ntmps66 ?_
  intro hbox htok
  simp only at hbox htok
  apply AL.start
  try (simp [e1'])
  repeat (refine sR ?_; simp [e1'])
  refine sC ?_
  simp [e1']
  try (simp)
  repeat (refine sR ?_; simp)
  refine sT ?_
  try simp only [AU]
  refine ⟨by simp, sF hbox htok (fun _ h => h) (Nat.le_refl _) ?_⟩
  simp [packA, ← hN, ← hZ]
 ·have e1' : ¬ t.nodes = [] := fun h => e1 (by rw [h]; rfl)
  rw [if_neg e1] at hN hZ
  by_cases e2 : 12 < t.nodes.length
  ·have e2' : (12 : Int) < t.nodes.length := by omega
   rw [if_pos e2] at hN hZ
   refine sB Tryz.func66 Tryz.ntmps66 ?_
   intro hbox htok
   simp only at hbox htok
   apply AL.start
   try (simp [e1', e2, e2'])
   repeat (refine sR ?_; simp [e1', e2, e2'])
   refine sC ?_
   simp [e1', e2, e2']
   try (simp [e2, e2'])
   repeat (refine sR ?_; simp [e2, e2'])
   refine sC ?_
   simp [e2, e2']
   try (simp)
   repeat (refine sR ?_; simp)
   refine sT ?_
   try simp only [AU]
   refine ⟨by simp, sF hbox htok (fun _ h => h) (Nat.le_refl _) ?_⟩
   simp [packA, ← hN, ← hZ]
  ·have e2' : ¬ (12 : Int) < t.nodes.length := by omega
   rw [if_neg e2] at hN hZ
   by_cases e3 : 20 < t.edges.length
   ·have e3' : (20 : Int) < t.edges.length := by omega
    rw [if_pos e3] at hN hZ
    refine sB Tryz.func66 Tryz.ntmps66 ?_
    intro hbox htok
    simp only at hbox htok
    apply AL.start
    try (simp [e1', e2, e2', e3, e3'])
    repeat (refine sR ?_; simp [e1', e2, e2', e3, e3'])
    refine sC ?_
    simp [e1', e2, e2']
    try (simp [e2, e2', e3, e3'])
    repeat (refine sR ?_; simp [e2, e2', e3, e3'])
    refine sC ?_
    simp [e2, e2', e3, e3']
    try (simp)
    repeat (refine sR ?_; simp)
    refine sT ?_
    try simp only [AU]
    refine ⟨by simp, sF hbox htok (fun _ h => h) (Nat.le_refl _) ?_⟩
    simp [packA, ← hN, ← hZ]
   ·have e3' : ¬ (20 : Int) < t.edges.length := by omega
    rw [if_neg e3] at hN hZ
    refine sB Tryz.func66 Tryz.ntmps66 ?_
    intro hbox htok
    simp only at hbox htok
    apply AL.start
    try (simp [e1', e2, e2', e3, e3'])
    repeat (refine sR ?_; simp [e1', e2, e2', e3, e3'])
    refine sC ?_
    simp [e1', e2, e2']
    try (simp [e2, e2', e3, e3'])
    repeat (refine sR ?_; simp [e2, e2', e3, e3'])
    refine sC ?_
    simp [e2, e2', e3, e3']
    try (simp)
    repeat (refine sR ?_; simp)
    refine sN ?_
    refine AL.loopT (stVn t nb box tok nt) (fun i => i ≤ t.nodes.length ∧ firstE (nodE t) i = 0) (fun i => t.nodes.length - i) 0 ⟨Nat.zero_le _, rfl⟩ (Weaks.mk (Nat.le_refl _) rfl (by simp [ToL, lk, lb_at]) (by simp [BoxL, lk])) ?_
    rintro i S' ⟨hi, hok⟩ hS
    simp only [stVn] at hS
    subst hS
    have hw := sW (i := i) (by omega)
    try (simp)
    repeat (refine sR ?_; simp)
    refine sC ?_
    simp
    refine ⟨fun hlt => ?_, fun hge => ?_⟩
    ·have hc := node_c t ht hM i hlt (fun j hj => nodE_par (firstE_allZ i hok j hj))
     have hR : nodE t i ≠ 0 → firstE (nodE t) t.nodes.length = nodE t i := fun h0 => firstE_stop hok h0 _ hlt
     have hR2 : nodE t i ≠ 0 → firstN (nodE t) (fun i => (t.nd i).name) t.nodes.length = t.nodes[i].name := fun h0 => by rw [firstN_stop hok h0 _ hlt, nd_at hlt]
     have hnx : nodE t i = 0 → firstE (nodE t) (i + 1) = 0 := fun h0 => by simp only [firstE, hok, h0, ↓reduceIte]
     generalize nodE t i = E at *
     try (simp [hlt])
     repeat (refine sR ?_; simp [hlt])
     refine Stop.of_d (hc _ _) ?_
     simp
     try (simp)
     repeat (refine sR ?_; simp)
     by_cases e7 : E = 0
     ·refine sC ?_
      simp [e7]
      try (simp [hw])
      repeat (refine sR ?_; simp [hw])
      refine sE ?_
      exact ⟨i + 1, ⟨hlt, hnx e7⟩, by omega, Weaks.mk (Nat.le_refl _) rfl (by simp [ToL, lk, lb_at]) (by simp [BoxL, lk])⟩
     ·have b7 : (E != 0) = true := by simp [e7]
      rw [hR e7, if_pos e7] at hN hZ
      rw [hR2 e7] at hZ
      refine sC ?_
      simp [e7, b7]
      try (simp [hlt])
      repeat (refine sR ?_; simp [hlt])
      refine sT ?_
      try simp only [AU]
      refine ⟨by simp, sF hbox htok (fun _ h => h) (Nat.le_refl _) ?_⟩
      simp [packA, ← hN, ← hZ]
    ·refine sX ?_
     simp only [AU, ↓reduceIte]
     have : i = t.nodes.length := by omega
     subst this
     rw [if_neg (by rw [hok]; simp)] at hN hZ
     try (simp)
     repeat (refine sR ?_; simp)
     refine sN ?_
     refine AL.loopT (stVe t nb box tok nt) (fun i => i ≤ t.edges.length ∧ firstE (edgE t) i = 0) (fun i => t.edges.length - i) 0 ⟨Nat.zero_le _, rfl⟩ (Weaks.mk (Nat.le_refl _) rfl (by simp [ToL, lk, lb_at]) (by simp [BoxL, lk])) ?_
     rintro i S' ⟨hi, hok2⟩ hS
     simp only [stVe] at hS
     subst hS
     have hw := sW (i := i) (by omega)
     try (simp)
     repeat (refine sR ?_; simp)
     refine sC ?_
     simp
     refine ⟨fun hlt => ?_, fun hge => ?_⟩
     ·have hc := edge_c t ht i hlt
      have hR : edgE t i ≠ 0 → firstE (edgE t) t.edges.length = edgE t i := fun h0 => firstE_stop hok2 h0 _ hlt
      have hR2 : edgE t i ≠ 0 → firstN (edgE t) (fun i => (t.ed i).name) t.edges.length = t.edges[i].name := fun h0 => by rw [firstN_stop hok2 h0 _ hlt, ed_at hlt]
      have hnx : edgE t i = 0 → firstE (edgE t) (i + 1) = 0 := fun h0 => by simp only [firstE, hok2, h0, ↓reduceIte]
      generalize edgE t i = E at *
      try (simp [hlt])
      repeat (refine sR ?_; simp [hlt])
      refine Stop.of_d (hc _ _) ?_
      simp
      try (simp)
      repeat (refine sR ?_; simp)
      by_cases e7 : E = 0
      ·refine sC ?_
       simp [e7]
       try (simp [hw])
       repeat (refine sR ?_; simp [hw])
       refine sE ?_
       exact ⟨i + 1, ⟨hlt, hnx e7⟩, by omega, Weaks.mk (Nat.le_refl _) rfl (by simp [ToL, lk, lb_at]) (by simp [BoxL, lk])⟩
      ·have b7 : (E != 0) = true := by simp [e7]
       rw [hR e7] at hN
       rw [hR2 e7] at hZ
       refine sC ?_
       simp [e7, b7]
       try (simp [hlt])
       repeat (refine sR ?_; simp [hlt])
       refine sT ?_
       try simp only [AU]
       refine ⟨by simp, sF hbox htok (fun _ h => h) (Nat.le_refl _) ?_⟩
       simp [packA, ← hN, ← hZ]
     ·refine sX ?_
      simp only [AU, ↓reduceIte]
      have : i = t.edges.length := by omega
      subst this
      rw [hok2] at hN
      rw [firstN_none _ hok2] at hZ
      try (simp)
      repeat (refine sR ?_; simp)
      refine sT ?_
      try simp only [AU]
      refine ⟨by simp, sF hbox htok (fun _ h => h) (Nat.le_refl _) ?_⟩
      simp [packA, ← hN, ← hZ]
end Go.AM
namespace Go.AM
open Go Go.Proofs
structure Ru where
 name : ByteArray
 lg : Gr
 lsl : List Sl
 lv : Int
 lte : List Te
 rg : Gr
 rsl : List Sl
 rv : Int
 rte : List Te
 k : Mo
 i : Mo
 inj : Bool
 c : Cd
abbrev Ru.row (r : Ru) : List AV := [.d (.raw (.string r.name)), .d (ints r.lg.nodes), .d (AM.edges r.lg.edges), .d (slots r.lsl), I r.lv, .d (tests r.lte), .d (ints r.rg.nodes), .d (AM.edges r.rg.edges), .d (slots r.rsl), I r.rv, .d (tests r.rte),
 .d (ints r.k.nodes), .d (ints r.k.edges), .d (ints r.i.nodes), .d (ints r.i.edges), B r.inj, I r.c.kind, .d (conds r.c.kids), .d (ints r.c.m.nodes), .d (ints r.c.m.edges), .d (ints r.c.g.nodes), .d (AM.edges r.c.g.edges), .d (slots r.c.sl), I r.c.vars, .d (tests r.c.te)]
abbrev Ru.av (r : Ru) : AV := .agg r.row
structure Ru.Fit (r : Ru) : Prop where
 lg : r.lg.Fit
 rg : r.rg.Fit
 k : r.k.Fit
 i : r.i.Fit
 ls : r.lsl.length ≤ bigN
 lt : r.lte.length ≤ bigN
 rs : r.rsl.length ≤ bigN
 rt : r.rte.length ≤ bigN
def Ru.sp (r : Ru) : Sp := ⟨r.lg, r.rg, r.k, r.i⟩
end Go.AM
namespace Go.AM
open Go Go.Proofs
end Go.AM
namespace Go.AM
open Go Go.Proofs
def rowsB (bs : List Bool) : List (List AV) := bs.map fun b => [AV.d (.raw (.bool b))]
theorem rowsB_eq (bs : List Bool) : rowsB bs = rowsD (bs.map fun b => [D.raw (.bool b)]) := by simp [rowsB, rowsD]
@[simp] theorem set_rB (bs : List Bool) (i : Nat) (v : Bool) : (rowsB bs).set i [AV.d (.raw (.bool v))] = rowsB (bs.set i v) := by simp [rowsB, List.map_set]
@[simp] theorem rowsB_length (bs : List Bool) : (rowsB bs).length = bs.length := by simp [rowsB]
@[simp high] theorem rowsB_get {bs : List Bool} {i : Nat} (h : i < bs.length) : (rowsB bs)[i]? = some [AV.d (.raw (.bool bs[i]))] := by simp [rowsB, h]
@[simp] theorem rowsTo_B {p q : Nat → Prop} {fz : Option (Nat × Nat × List (List D))} (bs : List Bool) : RowsTo p q fz (rowsB bs) (rowsB bs) := by rw [rowsB_eq]; simp
end Go.AM
namespace Go.AM
open Go
end Go.AM
namespace Go.AM
open Go Go.Proofs
end Go.AM
namespace Go.AM
open Go Go.Proofs
def pickN (ns : List Int) (js : List Int) (i : Nat) : List Int := (js.take i).map fun j => ns.getD j.toNat 0
@[simp] theorem pickN_len (l h : List Int) (i : Nat) : (pickN l h i).length = min i h.length := by simp [pickN]
def pickE (es : List E) (ns js : List Int) (i : Nat) : List E := (js.take i).map fun j => ⟨(es.getD j.toNat default).ty, indexI ns (es.getD j.toNat default).fr, indexI ns (es.getD j.toNat default).to⟩
@[simp] theorem pickE_len (l : List E) (ns h : List Int) (i : Nat) : (pickE l ns h i).length = min i h.length := by simp [pickE]
end Go.AM
namespace Go.AM
open Go Go.Proofs
end Go.AM
namespace Go.AM
open Go Go.Proofs
def rkK (ns : List Int) (bit : Nat → Bool) : Nat → List Int
 | 0 => []
 | i + 1 => if bit i = true then rkK ns bit i ++ [((chN ns bit i).1.length : Int)] else rkK ns bit i ++ [0]
def rkR (ns : List Int) (bit : Nat → Bool) (n i : Nat) : List Int := rkK ns bit i ++ List.replicate (n - i) 0
theorem rkK_len (ns : List Int) (bit : Nat → Bool) : ∀ i, (rkK ns bit i).length = i
 | 0 => rfl
 | i + 1 => by
  simp only [rkK]
  split <;> simp [rkK_len ns bit i]
@[simp] theorem rkR_len (ns : List Int) (bit : Nat → Bool) {n i : Nat} (h : i ≤ n) : (rkR ns bit n i).length = n := by simp [rkR, rkK_len]; omega
end Go.AM
namespace Go.AM
open Go
end Go.AM
namespace Go.AM
open Go
end Go.AM
namespace Go.AM
open Go Go.Proofs
end Go.AM
namespace Go.AM
open Go
def sameAt (a b : List Int) (i k : Nat) : Bool := decide (a.getD i 0 = a.getD k 0) == decide (b.getD i 0 = b.getD k 0)
end Go.AM
namespace Go.AM
open Go Go.Proofs
def mrgK (l : List Int) (lo hi : Int) (i : Nat) : List Int := (l.take i).map fun k => if k = hi then lo else k
@[simp] theorem mrgK_len (l : List Int) (lo hi : Int) (i : Nat) : (mrgK l lo hi i).length = min i l.length := by simp [mrgK]
def preK (l : List Int) (i : Nat) : List Int := l.take i
@[simp] theorem preK_len (l : List Int) (i : Nat) : (preK l i).length = min i l.length := by simp [preK]
end Go.AM
namespace Go.AM
open Go Go.Proofs
end Go.AM
namespace Go.AM
open Go Go.Proofs
end Go.AM
namespace Go.AM
open Go Go.Proofs
theorem Emb.fit {a b : Gr} {m : Mo} (h : Emb a b m) : m.Fit ∧ a.Fit ∧ b.Fit := by
 have v := h.vm
 have h1 := (validG_types v.va).1
 have h2 := (validG_types v.vb).1
 have h3 := v.ln
 have h4 := v.le
 exact ⟨⟨by omega, by omega⟩, ⟨by omega, by omega⟩, ⟨by omega, by omega⟩⟩
end Go.AM
namespace Go.Proofs
open Go.Shelf
end Go.Proofs
namespace Go.AM
open Go Go.Proofs Go.RowKit Go.Lib
end Go.AM
namespace Go.AM
open Go Go.Proofs
end Go.AM
namespace Go.AM
open Go Go.Proofs
end Go.AM
namespace Go.AM
open Go Go.Proofs
end Go.AM
namespace Go.AM
open Go Go.Proofs
end Go.AM
namespace Go.AM
open Go Go.Proofs
theorem SpOk.fit {s : Sp} (h : SpOk s) : s.l.Fit ∧ s.r.Fit ∧ s.k.Fit ∧ s.i.Fit := ⟨h.k.emb.fit.2.2, h.i.fit.2.2, h.k.emb.fit.1, h.i.fit.1⟩
end Go.AM
namespace Go.AM
open Go Go.Proofs
end Go.AM
namespace Go.AM
open Go Go.Proofs
end Go.AM
namespace Go.AM
open Go Go.Proofs
end Go.AM
namespace Go.AM
open Go Go.Proofs
end Go.AM
namespace Go.AM
open Go Go.Proofs
structure Ru.Big (r : Ru) : Prop where
 k : r.k.nodes.length ≤ bigN ∧ r.k.edges.length ≤ bigN
 i : r.i.nodes.length ≤ bigN ∧ r.i.edges.length ≤ bigN
 ls : r.lsl.length ≤ bigN
 lt : r.lte.length ≤ bigN
 rs : r.rsl.length ≤ bigN
 rt : r.rte.length ≤ bigN
 c : r.c.Big
end Go.AM
namespace Go.AM
open Go Go.Proofs
def backL (l : List Int) (n : Nat) : List Int := (List.range n).map fun (k : Nat) => indexI l (k : Int)
end Go.AM
namespace Go.AM
open Go
theorem backL_succ (l : List Int) (k : Nat) : backL l (k + 1) = backL l k ++ [indexI l k] := by simp [backL, List.range_succ]
def backS (l : List Int) (k j : Nat) : List Int := backL l k ++ [indexI (l.take j) k]
theorem backS_len (l : List Int) (k j : Nat) : (backS l k j).length = k + 1 := by simp [backS, backL]
theorem backS_zero (l : List Int) (k : Nat) : backS l k 0 = backL l k ++ [-1] := by simp [backS, indexI]
theorem backS_all (l : List Int) (k : Nat) : backS l k l.length = backL l (k + 1) := by simp [backS, backL_succ]
theorem indexI_none {l : List Int} {v : Int} (h : v ∉ l) : indexI l v = -1 := by
 rcases indexI_spec l v with ⟨h1, _⟩ | ⟨k, _, h3, h4⟩
 ·exact h1
 ·exact absurd (h4 ▸ getD_mem h3) h
theorem take_mem {l : List Int} {j : Nat} (h : j < l.length) {v : Int} : v ∈ l.take (j + 1) ↔ v ∈ l.take j ∨ v = l.getD j 0 := by
 rw [← List.take_append_getElem h, List.mem_append, List.mem_singleton]
 simp [h]
theorem index_no {l : List Int} {j : Nat} (h : j < l.length) {v : Int} (hv : l.getD j 0 ≠ v) (hn : l.Nodup) : indexI (l.take (j + 1)) v = indexI (l.take j) v := by
 by_cases hm : v ∈ l.take j
 ·obtain ⟨a1, a2, a3⟩ := indexI_in hm
  obtain ⟨b1, b2, b3⟩ := indexI_in ((take_mem h).2 (.inl hm))
  have hnd : (l.take (j + 1)).Nodup := hn.sublist (List.take_sublist _ _)
  have hl : (l.take j).length ≤ (l.take (j + 1)).length := by simp; omega
  have e : (l.take (j + 1)).getD (indexI (l.take j) v).toNat 0 = v := by
   have q : (indexI (l.take j) v).toNat < (l.take j).length := by omega
   have q1 : (indexI (l.take j) v).toNat < j := by simp at q; omega
   have q2 : (l.take (j + 1)).getD (indexI (l.take j) v).toNat 0 = (l.take j).getD (indexI (l.take j) v).toNat 0 := by
    simp only [List.getD_eq_getElem?_getD, List.getElem?_take]
    rw [if_pos (by omega), if_pos q1]
   rw [q2]; exact a3
  have := getD_inj hnd (show (indexI (l.take j) v).toNat < (l.take (j + 1)).length by omega) (show (indexI (l.take (j + 1)) v).toNat < (l.take (j + 1)).length by omega) (e.trans b3.symm)
  omega
 ·rw [indexI_none hm, indexI_none fun hm2 => by
   rcases (take_mem h).1 hm2 with h1 | h1
   ·exact hm h1
   ·exact hv h1.symm]
theorem index_yes {l : List Int} {j : Nat} (h : j < l.length) (hn : l.Nodup) : indexI (l.take (j + 1)) (l.getD j 0) = j := by
 have hnd : (l.take (j + 1)).Nodup := hn.sublist (List.take_sublist _ _)
 have hj : j < (l.take (j + 1)).length := by simp; omega
 have e : (l.take (j + 1)).getD j 0 = l.getD j 0 := by
  simp only [List.getD_eq_getElem?_getD, List.getElem?_take]
  rw [if_pos (by omega)]
 have := indexI_gd hnd hj
 rwa [e] at this
theorem backS_no {l : List Int} {k j : Nat} (h : j < l.length) (hv : l.getD j 0 ≠ k) (hn : l.Nodup) : backS l k (j + 1) = backS l k j := by rw [backS, backS, index_no h hv hn]
theorem backS_yes {l : List Int} {k j : Nat} (h : j < l.length) (hv : l.getD j 0 = k) (hn : l.Nodup) : backS l k (j + 1) = (backS l k j).set k j := by
 have h2 := index_yes h hn
 rw [hv] at h2
 have hl : (backL l k).length = k := by simp [backL]
 rw [backS, backS, h2, List.set_append_right _ _ (by omega), hl]
 simp
end Go.AM
namespace Go.Proofs.YtainalmfffjnjaaGreatDoor.back
open Go Go.Proofs Go.RowKit Go.AM
theorem info3 : (Tryz.prog.info? 3).map (fun i => (i.zero, i.size, i.bytes)) = some (some (.int .i64 0), 1, 8) := by kernel_rfl
set_option maxHeartbeats 2000000 in
set_option maxRecDepth 100000 in
theorem any (b off n c m : Nat) (zs : List Int) (w : World) (hz : zs.length = n) (hn : n ≤ 1000000) (hm : m ≤ 1000000) (hd : zs.Nodup) (hb : b < w.heap.size) (hc : ∀ j, j < zs.length → w.cell? ⟨b, off + j, none⟩ = some (.int .i64 (zs.getD j 0))) :
  Calls Tryz.prog 146 #[.slice (some ⟨b, off, none⟩) n c, .int .i64 m] w fun e w' => ∃ v, e = .returned v ∧ w'.ownsRow w.heap.size 3 1 v m ((backL zs m).map (Value.int .i64)) ∧ Below w.heap.size w w' := by
 obtain ⟨i0, hi, hz0, hz1, hz2⟩ := info_parts info3
 go_enter Tryz.func146, Tryz.ntmps146
 go_wp2
 go_loopw [5, 6] (fun v i wr => ∃ k : Nat, k ≤ m ∧ i = .int .i64 k ∧ wr.ownsRow w.heap.size 3 1 v k ((backL zs k).map (Value.int .i64)) ∧ Below w.heap.size w wr) (fun _ i _ => m - (intOf i).toNat)
 case atStart => exact ⟨0, Nat.zero_le _, rfl, World.ownsRow_nil _ _ _ _, Below.refl _ _⟩
 case round =>
  obtain ⟨k, hk, rfl, hown, hnx⟩ := hrel
  go_wp2_with (first
   | (at_builtin; refine wpList_append_own _ rfl _ _ 26 rfl w.heap.size 3 i0 (.int .i64 0) 1 8 Tryz.underlying26 hi hz0 hz1 hz2 rfl (by decide) _ _ _ rfl (hown.alloc _) ⟨wr.heap.size, 0, none⟩ 1 1 [.int .i64 (-1)] rfl rfl ?c1 ?c2 ?c3 ?c4 ?c5 ?_)
   | go_in)
  case c1 =>
   intro j u hj
   match j, hj with
   | 0, hj => simp at hj; subst hj; simp [Addr.add]
  case c2 => intro u hu; simp at hu; subst hu; rfl
  case c3 => unfold maxLen; omega
  case c4 => omega
  case c5 => have := hnx.size; simp; omega
  ·intro v' w1 hown' hgrow hne
   have hk' : k < m := by assumption
   obtain ⟨g, cap, rfl, hg1, hg2⟩ := hown'.form (by omega)
   have hnx1 : Below w.heap.size w w1 := (hnx.alloc (by have := hnx.size; omega) _).grown hgrow (by have := hnx.size; simp; omega) (fun q hq => (hown.lt q hq).1)
   rw [show List.map (Value.int .i64) (backL zs k) ++ [Value.int .i64 (-1)] = (backS zs k 0).map (Value.int .i64) by rw [backS_zero]; simp] at hown'
   clear hgrow hown hnx hne
   go_wp2
   go_loopw [7] (fun i wr => ∃ j : Nat, j ≤ n ∧ i = .int .i64 j ∧ wr.ownsRow w.heap.size 3 1 (.slice (some ⟨g, 0, none⟩) (k + 1) cap) (k + 1) ((backS zs k j).map (Value.int .i64)) ∧ Below w.heap.size w wr) (fun i _ => n - (intOf i).toNat)
   case atStart => exact ⟨0, Nat.zero_le _, rfl, hown', hnx1⟩
   case round =>
    clear hown' hnx1
    obtain ⟨j, hj, rfl, hown, hnx⟩ := hrel
    have hcx : j < n → wr.cell? ⟨b, off + j, none⟩ = some (.int .i64 (zs.getD j 0)) := fun h => (hnx.cell (by exact hb)).trans (hc j (by omega))
    have hst := hown.stored k (.int .i64 j)
    have hfz := hown.frozenAt k
    have hck : wr.cell? ⟨g, k, none⟩ = some (.int .i64 ((backS zs k j).getD k 0)) := by
     rw [hown.cellAt k (by omega), List.getElem?_map, List.getElem?_eq_getElem (by rw [backS_len]; omega)]
     simp [show k < (backS zs k j).length by rw [backS_len]; omega]
    go_wp2
    ·have hlt : j < n := by assumption
     have hjl : j < zs.length := by omega
     have h : (zs[j] == (k : Int)) = true := by assumption
     have e : zs.getD j 0 = (k : Int) := by
      have := beq_iff_eq.1 h
      simpa [hjl] using this
     refine ⟨⟨j + 1, by omega, by simp, ?_, hnx.setCell hg1 _⟩, by simp [intOf]; omega⟩
     rw [backS_yes hjl e hd, List.map_set]
     exact hst.1
    ·have hlt : j < n := by assumption
     have hjl : j < zs.length := by omega
     have h : (zs[j] == (k : Int)) = false := by assumption
     have e : zs.getD j 0 ≠ (k : Int) := by
      have := beq_eq_false_iff_ne.1 h
      simpa [hjl] using this
     refine ⟨⟨j + 1, by omega, by simp, ?_, hnx⟩, by simp [intOf]; omega⟩
     rw [backS_no hjl e hd]
     exact hown
    ·have hlt : ¬ j < n := by assumption
     have hjn : j = zs.length := by omega
     rw [hjn, backS_all] at hown
     exact ⟨⟨k + 1, by omega, by simp, hown, hnx⟩, by simp [intOf]; omega⟩
  ·go_ret
   have hk' : ¬ k < m := by assumption
   obtain rfl : k = m := by omega
   exact ⟨_, rfl, hown, hnx⟩
end Go.Proofs.YtainalmfffjnjaaGreatDoor.back
namespace Go.Proofs.YtainalmfffjnjaaGreatDoor.back
open Go Go.Proofs Go.RowKit Go.AM
set_option maxHeartbeats 2000000 in
set_option maxRecDepth 100000 in
theorem zero (A : Option Addr) (c m : Nat) (w : World) (hm : m ≤ 1000000) :
  Calls Tryz.prog 146 #[.slice A 0 c, .int .i64 m] w fun e w' => ∃ v, e = .returned v ∧ w'.ownsRow w.heap.size 3 1 v m ((backL [] m).map (Value.int .i64)) ∧ Below w.heap.size w w' := by
 obtain ⟨i0, hi, hz0, hz1, hz2⟩ := info_parts info3
 go_enter Tryz.func146, Tryz.ntmps146
 go_wp2
 go_loopw [5, 6] (fun v i wr => ∃ k : Nat, k ≤ m ∧ i = .int .i64 k ∧ wr.ownsRow w.heap.size 3 1 v k ((backL [] k).map (Value.int .i64)) ∧ Below w.heap.size w wr) (fun _ i _ => m - (intOf i).toNat)
 case atStart => exact ⟨0, Nat.zero_le _, rfl, World.ownsRow_nil _ _ _ _, Below.refl _ _⟩
 case round =>
  obtain ⟨k, hk, rfl, hown, hnx⟩ := hrel
  go_wp2_with (first
   | (at_builtin; refine wpList_append_own _ rfl _ _ 26 rfl w.heap.size 3 i0 (.int .i64 0) 1 8 Tryz.underlying26 hi hz0 hz1 hz2 rfl (by decide) _ _ _ rfl (hown.alloc _) ⟨wr.heap.size, 0, none⟩ 1 1 [.int .i64 (-1)] rfl rfl ?c1 ?c2 ?c3 ?c4 ?c5 ?_)
   | go_in)
  case c1 =>
   intro j u hj
   match j, hj with
   | 0, hj => simp at hj; subst hj; simp [Addr.add]
  case c2 => intro u hu; simp at hu; subst hu; rfl
  case c3 => unfold maxLen; omega
  case c4 => omega
  case c5 => have := hnx.size; simp; omega
  ·intro v' w1 hown' hgrow hne
   have hk' : k < m := by assumption
   have hnx1 : Below w.heap.size w w1 := (hnx.alloc (by have := hnx.size; omega) _).grown hgrow (by have := hnx.size; simp; omega) (fun q hq => (hown.lt q hq).1)
   rw [show List.map (Value.int .i64) (backL [] k) ++ [Value.int .i64 (-1)] = (backL [] (k + 1)).map (Value.int .i64) by rw [backL_succ]; simp [indexI]] at hown'
   clear hgrow hown hnx hne
   go_wp2
   go_loopw [7] (fun i wr => i = .int .i64 0 ∧ wr = w1) (fun i _ => 0)
   case atStart => exact ⟨rfl, rfl⟩
   case round =>
    obtain ⟨rfl, rfl⟩ := hrel
    go_wp2
    exact ⟨⟨k + 1, by omega, by simp, hown', hnx1⟩, by simp [intOf]; omega⟩
  ·go_ret
   have hk' : ¬ k < m := by assumption
   obtain rfl : k = m := by omega
   exact ⟨_, rfl, hown, hnx⟩
end Go.Proofs.YtainalmfffjnjaaGreatDoor.back
namespace Go.AM
open Go Go.Proofs Go.RowKit
end Go.AM
namespace Go.AM
open Go
def upP (ps : List Int) (i : Nat) : List Int := if _h : 0 ≤ ps.getD i 0 ∧ (ps.getD i 0).toNat < i then (i : Int) :: upP ps (ps.getD i 0).toNat else [(i : Int)]
termination_by i
decreasing_by exact _h.2
def upI (ps : List Int) (a : Int) : List Int := if a < 0 then [] else upP ps a.toNat
theorem upI_neg {ps : List Int} {a : Int} (h : a < 0) : upI ps a = [] := if_pos h
theorem upI_up {ps : List Int} {a : Int} (h : 0 ≤ a) (hp : ps.getD a.toNat 0 < a) : upI ps a = a :: upI ps (ps.getD a.toNat 0) := by
 rw [upI, if_neg (by omega), upP]
 by_cases h0 : 0 ≤ ps.getD a.toNat 0
 ·rw [dif_pos ⟨h0, by omega⟩, upI, if_neg (by omega), Int.toNat_of_nonneg h]
 ·rw [dif_neg (fun h2 => h0 h2.1), upI, if_pos (by omega), Int.toNat_of_nonneg h]
theorem upP_len (ps : List Int) : ∀ n i, i < n → (upP ps i).length ≤ i + 1
 | 0, i, h => absurd h (Nat.not_lt_zero _)
 | n + 1, i, h => by
  rw [upP]
  split
  ·rename_i h1
   have := upP_len ps n _ (show (ps.getD i 0).toNat < n by omega)
   simp only [List.length_cons]
   omega
  ·simp
theorem upI_len (ps : List Int) (a : Int) : (upI ps a).length ≤ (a + 1).toNat := by
 unfold upI
 split
 ·simp
 ·have := upP_len ps _ _ (Nat.lt_succ_self a.toNat)
  omega
end Go.AM
namespace Go.Proofs.YtainalmfffjnjaaGreatDoor.line
open Go Go.Proofs Go.RowKit Go.AM Go.Sort
theorem own_le {w : World} {base base' : Nat} {e : TypeId} {size : Nat} {v : Value} {n : Nat} {xs : List Value} (h : w.ownsRow base e size v n xs) (hb : base' ≤ base) : w.ownsRow base' e size v n xs :=
 ⟨h.1, h.2.imp id fun ⟨g, cap, cur, a, b, c⟩ => ⟨g, cap, cur, a, Nat.le_trans hb b, c⟩⟩
theorem rev {base n : Nat} {v : Value} {l : List Int} {w0 w : World} (hown : w.ownsRow base 3 1 v n (l.map (Value.int .i64))) (hb : Below base w0 w) (hl : l.length ≤ 1000000) :
  Calls Tryz.prog 277 #[v] w fun e w' => e = .returned (.tuple #[]) ∧ w'.ownsRow base 3 1 v n (l.reverse.map (Value.int .i64)) ∧ Below base w0 w' := by
 rcases hown.2 with ⟨rfl, e0⟩ | ⟨g, cap, cur, rfl, hg1, hg2, hg3, hg4, hg5, hg6⟩
 ·refine (Tryz.slices_Reverse_int_empty _ _ _).mono ?_
  rintro e w3 ⟨rfl, rfl⟩
  subst e0
  have : l = [] := List.length_eq_zero_iff.1 (by simpa using hown.1)
  subst this
  exact ⟨rfl, hown, hb⟩
 ·obtain ⟨g', cap', hv, hgb, hgl, hncap, hcm, hlen, hH⟩ := Lib.holds_of_ownsRow hown (by simp)
  cases hv
  have hrev := Tryz.slices_Reverse_int g 0 cap l _ hH (by omega)
  rw [hlen] at hrev
  refine hrev.mono ?_
  rintro e w3 ⟨rfl, q, rfl⟩
  have hh := Lib.ownsRow_putRow (q := q) (ys := l.reverse) hown (by simpa using hlen) (Nat.le_refl _)
  rw [List.take_of_length_le (by simp [hlen])] at hh
  exact ⟨rfl, hh, Lib.below_putRow hb hg1⟩
set_option maxHeartbeats 2000000 in
set_option maxRecDepth 100000 in
theorem any (b off n c : Nat) (u : Value) (a0 : Int) (ps : List Int) (w : World) (hz : ps.length = n) (hn : n ≤ 1000000) (ha : a0 < n) (hp : ∀ j, j < n → ps.getD j 0 < j) (hb : b < w.heap.size) (hc : ∀ j, j < n → w.cell? ⟨b, off + j * 4 + 1, none⟩ = some (.int .i64 (ps.getD j 0))) :
  Calls Tryz.prog 236 #[.agg #[.slice (some ⟨b, off, none⟩) n c, u], .int .i64 a0] w fun e w' => ∃ v, e = .returned v ∧ w'.ownsRow w.heap.size 3 1 v (upI ps a0).length ((upI ps a0).reverse.map (Value.int .i64)) ∧ Below w.heap.size w w' := by
 obtain ⟨i0, hi, hz0, hz1, hz2'⟩ := info_parts YtainalmfffjnjaaGreatDoor.back.info3
 go_enter Tryz.func236, Tryz.ntmps236
 go_wp2
 have hsz : (w.alloc (Obj.cells #[Value.slice (some { block := b, off := off }) n c, u] 25)).heap.size = w.heap.size + 1 := by unfold World.alloc; exact Array.size_push _
 have hz2 : (w.alloc (Obj.cells #[Value.slice (some { block := b, off := off }) n c, u] 25)).cell? ⟨w.heap.size, 0, none⟩ = some (Value.slice (some { block := b, off := off }) n c) := by rw [World.cell?_alloc_at _ _ _ _ rfl]; rfl
 have hcc : ∀ j, j < n → (w.alloc (Obj.cells #[Value.slice (some { block := b, off := off }) n c, u] 25)).cell? ⟨b, off + j * 4 + 1, none⟩ = some (.int .i64 (ps.getD j 0)) := fun j hj => ((Below.refl _ w).alloc (Nat.le_refl _) _ |>.cell (by exact hb)).trans (hc j hj)
 have hbel : Below w.heap.size w (w.alloc (Obj.cells #[Value.slice (some { block := b, off := off }) n c, u] 25)) := (Below.refl _ w).alloc (Nat.le_refl _) _
 generalize w.alloc (Obj.cells #[Value.slice (some { block := b, off := off }) n c, u] 25) = w1 at *
 go_loopw [1, 5] (fun x v wr => ∃ (a : Int) (l : List Int), x = .int .i64 a ∧ a < n ∧ l ++ upI ps a = upI ps a0 ∧ wr.ownsRow w1.heap.size 3 1 v l.length (l.map (Value.int .i64)) ∧ Below w1.heap.size w1 wr) (fun x _ _ => (intOf x + 1).toNat)
 case atStart => exact ⟨a0, [], rfl, ha, rfl, World.ownsRow_nil _ _ _ _, Below.refl _ _⟩
 case round =>
  obtain ⟨a, l, rfl, hal, hl, hown, hnx⟩ := hrel
  have hll : l.length ≤ n := by
   have h1 := congrArg List.length hl
   have h2 := upI_len ps a0
   rw [List.length_append] at h1
   omega
  have hr2 := (hnx.cell (p := ⟨w.heap.size, 0, none⟩) (by simp; omega)).trans hz2
  go_wp2_with (first
   | (at_builtin; refine wpList_append_own _ rfl _ _ 26 rfl w1.heap.size 3 i0 (.int .i64 0) 1 8 Tryz.underlying26 hi hz0 hz1 hz2' rfl (by decide) _ _ _ rfl (hown.alloc _) ⟨wr.heap.size, 0, none⟩ 1 1 [.int .i64 a] rfl rfl ?c1 ?c2 ?c3 ?c4 ?c5 ?_)
   | (go_at_call 277; refine (rev hown hnx (by omega)).mono ?_; rintro e w3 ⟨rfl, hown3, hnx3⟩)
   | go_in)
  case c1 =>
   intro j u hj
   match j, hj with
   | 0, hj => simp at hj; subst hj; simp [Addr.add]
  case c2 => intro u hu; simp at hu; subst hu; rfl
  case c3 => unfold maxLen; omega
  case c4 => omega
  case c5 => have := hnx.size; simp; omega
  ·intro v' w2 hown' hgrow hne
   have h0 : 0 ≤ a := by assumption
   obtain ⟨k, rfl⟩ := Int.eq_ofNat_of_zero_le h0
   have hnx1 : Below w1.heap.size w1 w2 := (hnx.alloc (by have := hnx.size; omega) _).grown hgrow (by have := hnx.size; simp; omega) (fun q hq => (hown.lt q hq).1)
   have hr3 := (hnx1.cell (p := ⟨w.heap.size, 0, none⟩) (by simp; omega)).trans hz2
   have hr4 := (hnx1.cell (p := ⟨b, off + k * 4 + 1, none⟩) (by simp; omega)).trans (hcc k (by omega))
   have hup := upI_up (ps := ps) h0 (by have := hp k (by omega); simpa using this)
   rw [hup, Int.toNat_natCast] at hl
   clear hgrow hown hnx hne
   go_wp2
   refine ⟨⟨ps.getD k 0, l ++ [(k : Int)], rfl, by have := hp k (by omega); omega, by rw [List.append_assoc]; exact hl, by simpa [hsz] using hown', hnx1⟩, ?_⟩
   have := hp k (by omega)
   simp at this
   simp [intOf]
   omega
  ·go_ret
   have h0 : a < 0 := by assumption
   rw [upI_neg h0, List.append_nil] at hl
   rw [← hl]
   exact ⟨_, rfl, own_le hown3 (by omega), hbel.trans (hnx3.mono (by omega))⟩
end Go.Proofs.YtainalmfffjnjaaGreatDoor.line
namespace Go.AM
open Go Go.Proofs Go.RowKit
abbrev Ty.pars (t : Ty) : List Int := t.nodes.map NT.par
theorem pars_getD (t : Ty) {j : Nat} (h : j < t.nodes.length) : t.pars.getD j 0 = (t.nd j).par := by simp [Ty.pars, Ty.nd, h]
theorem rvd_pars {c : Addr → Option Value} {ps : Addr → Prop} {l : List NT} {v : Value} (h : RVd c ps (nts l) v) :
  ∃ A cap, v = .slice A l.length cap ∧ l.length ≤ cap ∧ cap ≤ maxLen ∧ (l ≠ [] → ∃ a, A = some a) ∧ ∀ a, A = some a → ∀ i (hi : i < l.length), c (a.add (i * 4)) = some (.string l[i].name) ∧ c (a.add (i * 4 + 1)) = some (.int .i64 l[i].par) := by
 unfold nts at h
 generalize hes : l.map NT.cells = es at h
 cases h with
 | @sl _ _ A cap u hcap hmax hsz hA hc hr =>
  have hl : es.length = l.length := by rw [← hes]; simp
  refine ⟨A, cap, by rw [hl], by omega, hmax, fun hne => hA (by intro e; rw [e] at hl; exact hne (List.length_eq_zero_iff.1 hl.symm)), fun a ha i hi => ⟨?_, ?_⟩⟩
  ·have g := (hc a ha i 0 (by omega) (by decide)).2
   have r := hr i 0 (by omega) (by rw [hsz _ (List.getElem_mem _)]; decide)
   have e1 : es[i][0]'(by rw [hsz _ (List.getElem_mem _)]; decide) = D.raw (.string l[i].name) := by
    subst hes
    simp
   rw [e1] at r
   have e2 : u i 0 = .string l[i].name := by
    generalize hu : u i 0 = x at r
    cases r
    rfl
   rw [← e2]; exact g
  ·have g := (hc a ha i 1 (by omega) (by decide)).2
   have r := hr i 1 (by omega) (by rw [hsz _ (List.getElem_mem _)]; decide)
   have e1 : es[i][1]'(by rw [hsz _ (List.getElem_mem _)]; decide) = D.raw (.int .i64 l[i].par) := by
    subst hes
    simp
   rw [e1] at r
   have e2 : u i 1 = .int .i64 l[i].par := by
    generalize hu : u i 1 = x at r
    cases r
    rfl
   rw [← e2]; exact g
theorem line_c (t : Ty) (ht : t.nodes.length ≤ 1000000) (a : Int) (h0 : 0 ≤ a) (ha : a < t.nodes.length) (hp : ∀ j, j < t.nodes.length → (t.nd j).par < j) (tok : Tks) (nt : Nat) : DCall Tryz.prog 236 [t.av, I a] tok nt (.d (ints (upI t.pars a).reverse)) tok nt := by
 intro box nb
 refine ⟨Enters.mk Tryz.func236 rfl (by kernel_rfl), fun G w vals hm hr => ?_⟩
 obtain ⟨hlen, hrv⟩ := hr
 match vals, hlen with
 | [v, x], _ =>
  have h0 := hrv 0 (by simp) (by simp)
  have h1 := hrv 1 (by simp) (by simp)
  simp only [List.getElem_cons_zero, List.getElem_cons_succ] at h0 h1
  cases h1 with
  | d h1 =>
  cases h1 with
  | raw h1 =>
  cases h0 with
  | @agg _ vs hl h2 h3 =>
   match vs, hl with
   | [v1, v2], _ =>
    have h4 := h2 0 (by simp) (by simp)
    simp only [List.getElem_cons_zero] at h4
    cases h4 with
    | d h4 =>
     obtain ⟨A, cap, rfl, hcap, hmax, hA, hc⟩ := rvd_pars h4
     have e : t.nodes ≠ [] := by intro e; rw [e] at ha; simp at ha; omega
     obtain ⟨a1, rfl⟩ := hA e
     have hp0 : 0 < t.nodes.length := List.length_pos_iff.2 e
     have hc' := hc a1 rfl
     have hs : a1.spot = none := by
      cases hsp : a1.spot with
      | none => rfl
      | some q =>
       exfalso
       have := (hc' 0 hp0).1
       simp only [World.cell?, Addr.add, hsp, Option.isSome_some, ↓reduceIte] at this
       split at this <;> simp at this
     obtain ⟨b, off, sp⟩ := a1
     simp only at hs
     subst hs
     have hcc : ∀ j, j < t.nodes.length → w.cell? ⟨b, off + j * 4 + 1, none⟩ = some (.int .i64 (t.pars.getD j 0)) := fun j hj => by
      have h1 := (hc' j hj).2
      rw [pars_getD t hj, nd_at hj]
      unfold Addr.add at h1
      split at h1
      ·rename_i e; omega
      ·rw [show off + j * 4 + 1 = off + (j * 4 + 1) by omega]; exact h1
     have hbw : b < w.heap.size := lt_of_cell (hcc 0 hp0)
     refine (YtainalmfffjnjaaGreatDoor.line.any b off t.nodes.length cap v2 a t.pars w (by simp) ht (by omega) (fun j hj => by rw [pars_getD t hj]; exact hp j hj) hbw hcc).mono ?_
     rintro e w' ⟨v, rfl, hown, hb⟩
     refine ⟨v, _, _, G, rfl, ⟨rfl, rfl⟩, rfl, relM_below hm hb, .d (rvd_owns hm (by rw [List.length_reverse]; exact hown)), le_below hm hb, fun k hk => ⟨hk, rfl⟩⟩
end Go.AM
