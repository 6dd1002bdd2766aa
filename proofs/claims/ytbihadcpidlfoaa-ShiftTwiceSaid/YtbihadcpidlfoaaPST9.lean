import Derived.Test.YtbihadcpidlfoaaPST8
import Derived.WalkKit
import Derived.ProofKit
import Derived.OpenShut
import Derived.ChangeStays
import Derived.SizedLaws
/-
  The reference's finder: nodes, Extensions.
-/
namespace Go.AM
open Go Go.Proofs
set_option linter.unusedSimpArgs false
set_option linter.unusedVariables false

def candN33 (p g : Gr) (x m : Mo) (r : Nat) (L : List Int) (k : Nat) : List Mo := if (!decide ((k : Int) ∈ L) && okXN p g x m L.length k) = true then exN p g x m r (L ++ [(k : Int)]) else []
theorem exN_succ (p g : Gr) (x m : Mo) (r : Nat) (L : List Int) : exN p g x m (r + 1) L = (List.range g.nodes.length).flatMap (candN33 p g x m r L) := rfl
theorem exN_zero (p g : Gr) (x m : Mo) (L : List Int) : exN p g x m 0 L = exE p g x m L p.edges.length [] := rfl
def stFn (p g : Gr) (x m : Mo) (L : List Int) (nb k : Nat) (box : Nat → Option (List (List AV))) (y : AccM) : AState :=
  ⟨tl [(0, .ptr k 0 0), (1, .d (ints L)), (4, I L.length), (5, I (indexI x.nodes L.length)), (6, I y.i)],
    lb nb (upd box k (some [fiRow p g x m y.out y.own])) [], y.tok, y.nt⟩

set_option maxRecDepth 100000 in
theorem nodes33_c (p g : Gr) (x m : Mo) (h : FiH p g x m) : ∀ (r : Nat) (L : List Int) (out : List Mo) (own : Own) (box : Nat → Option (List (List AV))) (nb k : Nat) (tok : Nat → Bool) (nt : Nat), L.length + r = p.nodes.length →
    out.length + (exN p g x m r L).length ≤ 1000000000000 → box k = some [fiRow p g x m out own] → own.liveP tok →
    ACalls Try.prog 42 [.ptr k 0 0, .d (ints L)] ⟨box, nb, tok, nt⟩ (QFi p g x m box nb k tok nt own (out ++ exN p g x m r L)) := by
  intro r
  induction r with
  | zero =>
    intro L out own box nb k tok nt hL hroom hk hlive
    have hpe := h.fp.n
    rw [exN_zero] at hroom ⊢
    refine ACalls.of_body Try.func42 rfl (by kernel_rfl) follows_Try (by kernel_rfl) (by simp [Try.ntmps42]) ?_
    intro hbox htok
    simp only at hbox htok
    apply AL.start
    have hkn := key_lt hbox hk
    have hLe : (L.length : Int) = (p.nodes.length : Int) := by omega
    try (simp [lb_out hkn, hk])
    repeat ((repeat (first | refine AL.seq ?_ | refine AL.block ?_ | refine AL.skip ?_ | refine AL.blk ?_)); (refine AL.region follows_Try (Nat.le_refl _) (by kernel_rfl) ?_); simp [lb_out hkn, hk])
    have hb : ((L.length : Int) == (p.nodes.length : Int)) = true := by simp [hLe]
    simp only [hb]
    repeat (first | refine AL.seq ?_ | refine AL.block ?_ | refine AL.skip ?_ | refine AL.blk ?_)
    refine AL.cond ?_
    simp
    try (simp [lb_out hkn, hk])
    repeat ((repeat (first | refine AL.seq ?_ | refine AL.block ?_ | refine AL.skip ?_ | refine AL.blk ?_)); (refine AL.region follows_Try (Nat.le_refl _) (by kernel_rfl) ?_); simp [lb_out hkn, hk])
    refine Stop.sub (args' := [.ptr k 0 0, .d (ints L), .d (ints [])]) ⟨Sub.refl _, Sub.refl _, Sub.nil _ _ _, trivial⟩ ?_
    refine Stop.of_a (edges33_c p g x m L h (by omega) p.edges.length [] out own _ _ k _ _ (by simp) hroom (by simp only [lb_out hkn, hk]) hlive) ?_
    rintro v M ⟨rfl, own3, tok3, nt3, rfl, hadv⟩
    simp [upd_lb_out hkn]
    try (simp)
    repeat ((repeat (first | refine AL.seq ?_ | refine AL.block ?_ | refine AL.skip ?_ | refine AL.blk ?_)); (refine AL.region follows_Try (Nat.le_refl _) (by kernel_rfl) ?_); simp)
    repeat (first | refine AL.seq ?_ | refine AL.block ?_ | refine AL.skip ?_ | refine AL.blk ?_)
    refine AL.ret ?_
    try simp only [AU]
    refine ⟨by simp, (Fin.gen (vs := []) (av := .tup []) (tok' := tok3) (nt' := nt3) (by simp [resAs, resA]) ?_ hadv.le (Nat.le_refl _) (fun t h => ⟨h, .inl rfl⟩) (fiOk (by simp)) (by simp [packA])).mono fun v M hq => ⟨hq.1, own3, tok3, nt3, hq.2, hadv⟩⟩
    rw [← upd_lb_out hkn, hbox]
  | succ r ih =>
    intro L out own box nb k tok nt hL hroom hk hlive
    have hself : box = upd box k (some [fiRow p g x m out own]) := (upd_self box k _ hk).symm
    have hpe := h.fp.n
    have hge := h.fg.n
    have hlt : L.length < p.nodes.length := by omega
    refine ACalls.of_body Try.func42 rfl (by kernel_rfl) follows_Try (by kernel_rfl) (by simp [Try.ntmps42]) ?_
    intro hbox htok
    simp only at hbox htok
    apply AL.start
    have hkn := key_lt hbox hk
    try (simp [lb_out hkn, hk])
    repeat ((repeat (first | refine AL.seq ?_ | refine AL.block ?_ | refine AL.skip ?_ | refine AL.blk ?_)); (refine AL.region follows_Try (Nat.le_refl _) (by kernel_rfl) ?_); simp [lb_out hkn, hk])
    have hb : ((L.length : Int) == (p.nodes.length : Int)) = false := by simp; omega
    simp only [hb]
    repeat (first | refine AL.seq ?_ | refine AL.block ?_ | refine AL.skip ?_ | refine AL.blk ?_)
    refine AL.cond ?_
    simp
    try (simp [lb_out hkn, hk, hlt])
    repeat ((repeat (first | refine AL.seq ?_ | refine AL.block ?_ | refine AL.skip ?_ | refine AL.blk ?_)); (refine AL.region follows_Try (Nat.le_refl _) (by kernel_rfl) ?_); simp [lb_out hkn, hk, hlt])
    refine Stop.of_d (index33_c x.nodes L.length h.fx.n _ _) ?_
    simp
    try (simp [lb_out hkn, hk, hlt])
    repeat ((repeat (first | refine AL.seq ?_ | refine AL.block ?_ | refine AL.skip ?_ | refine AL.blk ?_)); (refine AL.region follows_Try (Nat.le_refl _) (by kernel_rfl) ?_); simp [lb_out hkn, hk, hlt])
    repeat (first | refine AL.seq ?_ | refine AL.block ?_ | refine AL.skip ?_ | refine AL.blk ?_)
    have hcand : ∀ i : Nat, candN33 p g x m r L i = if (!decide ((i : Int) ∈ L) && (decide (g.nodes.getD i 0 = p.nodes.getD L.length 0) && atB x.nodes m.nodes L.length i)) = true then exN p g x m r (L ++ [(i : Int)]) else [] := fun i => rfl
    have hpi : p.nodes.getD L.length 0 = p.nodes[L.length] := by simp [hlt]
    rw [hpi] at hcand
    have hlb : ∀ loc, lb nb box loc = lb nb (upd box k (some [fiRow p g x m out own])) loc := fun loc => by rw [← hself]
    rw [hlb]
    rw [exN_succ] at hroom ⊢
    refine AL.loopT (stFn p g x m L nb k box) (fun y => y.i ≤ g.nodes.length ∧ y.out = out ++ (List.range y.i).flatMap (candN33 p g x m r L) ∧ Adv tok nt own y.tok y.nt y.own) (fun y => g.nodes.length - y.i)
      ⟨0, out, own, tok, nt⟩ ⟨Nat.zero_le _, by simp, Adv.refl hlive htok⟩ (Weaks.mk' (Nat.le_refl _) (by simp [ToL, lk]; exact to_ptr (by rw [lb_out hkn, upd_same]; simp)) (by simp [BoxL, lk]) (fiOk rfl)) ?_
    rintro ⟨i, out2, own2, tok2, nt2⟩ S ⟨hi, hout, hadv2⟩ hS
    simp only [stFn] at hS hi hout hadv2
    subst hS
    have hw : IntKind.i64.wrap (↑i + 1) = ((i + 1 : Nat) : Int) := by rw [wrap_in (by omega) (by omega)]; rfl
    have hsucc : (List.range (i + 1)).flatMap (candN33 p g x m r L) = (List.range i).flatMap (candN33 p g x m r L) ++ candN33 p g x m r L i := by rw [List.range_succ, List.flatMap_append]; simp
    try (simp [lb_out hkn, upd_same])
    repeat ((repeat (first | refine AL.seq ?_ | refine AL.block ?_ | refine AL.skip ?_ | refine AL.blk ?_)); (refine AL.region follows_Try (Nat.le_refl _) (by kernel_rfl) ?_); simp [lb_out hkn, upd_same])
    repeat (first | refine AL.seq ?_ | refine AL.block ?_ | refine AL.skip ?_ | refine AL.blk ?_)
    refine AL.cond ?_
    simp
    refine ⟨fun hli => ?_, fun hge => ?_⟩
    · have hcand' := hcand i
      try (simp [lb_out hkn, upd_same])
      repeat ((repeat (first | refine AL.seq ?_ | refine AL.block ?_ | refine AL.skip ?_ | refine AL.blk ?_)); (refine AL.region follows_Try (Nat.le_refl _) (by kernel_rfl) ?_); simp [lb_out hkn, upd_same])
      refine Stop.of_d (used33_c L i (by omega) _ _) ?_
      simp [lb_out hkn, upd_same]
      have hgi : g.nodes.getD i 0 = g.nodes[i] := by simp [hli]
      rw [hgi] at hcand'
      by_cases hin : (i : Int) ∈ L
      · have hc0 : candN33 p g x m r L i = [] := by rw [hcand', if_neg (by simp [hin])]
        simp [hin]
        try (simp [lb_out hkn, upd_same])
        repeat ((repeat (first | refine AL.seq ?_ | refine AL.block ?_ | refine AL.skip ?_ | refine AL.blk ?_)); (refine AL.region follows_Try (Nat.le_refl _) (by kernel_rfl) ?_); simp [lb_out hkn, upd_same])
        repeat (first | refine AL.seq ?_ | refine AL.block ?_ | refine AL.skip ?_ | refine AL.blk ?_)
        refine AL.cond ?_
        simp
        try (simp [hw])
        repeat ((repeat (first | refine AL.seq ?_ | refine AL.block ?_ | refine AL.skip ?_ | refine AL.blk ?_)); (refine AL.region follows_Try (Nat.le_refl _) (by kernel_rfl) ?_); simp [hw])
        repeat (first | refine AL.seq ?_ | refine AL.block ?_ | refine AL.skip ?_ | refine AL.blk ?_)
        refine AL.nil ?_
        refine ⟨⟨i + 1, out2, own2, tok2, nt2⟩, ⟨hli, by simp only; rw [hsucc, hc0, List.append_nil]; exact hout, hadv2⟩, by simp only; omega, Weaks.mk' hadv2.le (by simp [ToL, lk]; exact to_ptr (by rw [lb_out hkn, upd_same]; simp)) (by simp [BoxL, lk]) (fiOk rfl)⟩
      · by_cases hE : g.nodes[i] = p.nodes[L.length]
        · have hat : atB x.nodes m.nodes L.length i = (decide (indexI x.nodes L.length < 0) || decide (m.nodes.getD (indexI x.nodes L.length).toNat 0 = i)) := rfl
          have hidx : indexI x.nodes L.length < 0 ∨ (0 ≤ indexI x.nodes L.length ∧ (indexI x.nodes L.length).toNat < m.nodes.length ∧ indexI x.nodes L.length < m.nodes.length) := by
            rcases indexI_cases x.nodes L.length with ⟨_, h1⟩ | ⟨j, hj, h1, _⟩
            · left; omega
            · right; have := h.ln; rw [h1]; omega
          generalize hqe : indexI x.nodes ↑L.length = q at *
          rcases hidx with hq | ⟨hq0, hq1, hq2⟩
          · simp [hin, lb_out hkn, upd_same, hli, hlt, hE, hq]
            try (simp [lb_out hkn, upd_same, hq])
            repeat ((repeat (first | refine AL.seq ?_ | refine AL.block ?_ | refine AL.skip ?_ | refine AL.blk ?_)); (refine AL.region follows_Try (Nat.le_refl _) (by kernel_rfl) ?_); simp [lb_out hkn, upd_same, hq])
            have hc1 : candN33 p g x m r L i = exN p g x m r (L ++ [(i : Int)]) := by rw [hcand', if_pos (by simp [hin, hE, hat, hq])]
            repeat (first | refine AL.seq ?_ | refine AL.block ?_ | refine AL.skip ?_ | refine AL.blk ?_)
            refine AL.cond ?_
            simp
            try (simp [lb_out hkn, upd_same])
            repeat ((repeat (first | refine AL.seq ?_ | refine AL.block ?_ | refine AL.skip ?_ | refine AL.blk ?_)); (refine AL.region follows_Try (Nat.le_refl _) (by kernel_rfl) ?_); simp [lb_out hkn, upd_same])
            refine ⟨by omega, by omega, ?_⟩
            refine Stop.data ?_
            simp only [List.map, AV.asD]
            rw [rI_snoc]
            have had := Adv.fresh hadv2.live hadv2.lt
            have hlen := flat_le (candN33 p g x m r L) (show i + 1 ≤ g.nodes.length from hli)
            rw [hsucc, hc1, List.length_append] at hlen
            refine Stop.of_a (ih (L ++ [(i : Int)]) out2 own2 _ _ k _ _ (by simp; omega) (by rw [hout, List.length_append]; omega) (by simp only [lb_out hkn, upd_same]) had.live) ?_
            rintro v M ⟨rfl, own3, tok3, nt3, rfl, hadv⟩
            simp [upd_lb_out hkn, upd_upd]
            have had3 : Adv tok nt own tok3 nt3 own3 := hadv2.trans htok (had.trans hadv2.lt hadv)
            clear hadv had
            try (simp [hw])
            repeat ((repeat (first | refine AL.seq ?_ | refine AL.block ?_ | refine AL.skip ?_ | refine AL.blk ?_)); (refine AL.region follows_Try (Nat.le_refl _) (by kernel_rfl) ?_); simp [hw])
            repeat (first | refine AL.seq ?_ | refine AL.block ?_ | refine AL.skip ?_ | refine AL.blk ?_)
            refine AL.nil ?_
            refine ⟨⟨i + 1, out2 ++ exN p g x m r (L ++ [(i : Int)]), own3, tok3, nt3⟩, ⟨hli, by simp only; rw [hsucc, hc1, hout, List.append_assoc], had3⟩, by simp only; omega, ?_⟩
            simp only [stFn]
            refine Weaks.mk' had3.le ?_ ?_ (fiOk rfl)
            · simp [ToL, lk, hqe]
              exact to_ptr (by rw [lb_out hkn, upd_same]; simp)
            · simp [BoxL, lk]
          · have hq : ¬ q < 0 := by omega
            have hmf : m.nodes.getD q.toNat 0 = m.nodes[q.toNat] := by simp [hq1]
            rw [hmf] at hat
            by_cases hm : m.nodes[q.toNat] = (i : Int)
            · simp [hin, hq, lb_out hkn, upd_same, hli, hlt, hE, hq0, hq1, hq2, hm]
              try (simp [lb_out hkn, upd_same, hq])
              repeat ((repeat (first | refine AL.seq ?_ | refine AL.block ?_ | refine AL.skip ?_ | refine AL.blk ?_)); (refine AL.region follows_Try (Nat.le_refl _) (by kernel_rfl) ?_); simp [lb_out hkn, upd_same, hq])
              have hc1 : candN33 p g x m r L i = exN p g x m r (L ++ [(i : Int)]) := by rw [hcand', if_pos (by simp [hin, hE, hat, hq, hm])]
              repeat (first | refine AL.seq ?_ | refine AL.block ?_ | refine AL.skip ?_ | refine AL.blk ?_)
              refine AL.cond ?_
              simp
              try (simp [lb_out hkn, upd_same])
              repeat ((repeat (first | refine AL.seq ?_ | refine AL.block ?_ | refine AL.skip ?_ | refine AL.blk ?_)); (refine AL.region follows_Try (Nat.le_refl _) (by kernel_rfl) ?_); simp [lb_out hkn, upd_same])
              refine ⟨by omega, by omega, ?_⟩
              refine Stop.data ?_
              simp only [List.map, AV.asD]
              rw [rI_snoc]
              have had := Adv.fresh hadv2.live hadv2.lt
              have hlen := flat_le (candN33 p g x m r L) (show i + 1 ≤ g.nodes.length from hli)
              rw [hsucc, hc1, List.length_append] at hlen
              refine Stop.of_a (ih (L ++ [(i : Int)]) out2 own2 _ _ k _ _ (by simp; omega) (by rw [hout, List.length_append]; omega) (by simp only [lb_out hkn, upd_same]) had.live) ?_
              rintro v M ⟨rfl, own3, tok3, nt3, rfl, hadv⟩
              simp [upd_lb_out hkn, upd_upd]
              have had3 : Adv tok nt own tok3 nt3 own3 := hadv2.trans htok (had.trans hadv2.lt hadv)
              clear hadv had
              try (simp [hw])
              repeat ((repeat (first | refine AL.seq ?_ | refine AL.block ?_ | refine AL.skip ?_ | refine AL.blk ?_)); (refine AL.region follows_Try (Nat.le_refl _) (by kernel_rfl) ?_); simp [hw])
              repeat (first | refine AL.seq ?_ | refine AL.block ?_ | refine AL.skip ?_ | refine AL.blk ?_)
              refine AL.nil ?_
              refine ⟨⟨i + 1, out2 ++ exN p g x m r (L ++ [(i : Int)]), own3, tok3, nt3⟩, ⟨hli, by simp only; rw [hsucc, hc1, hout, List.append_assoc], had3⟩, by simp only; omega, ?_⟩
              simp only [stFn]
              refine Weaks.mk' had3.le ?_ ?_ (fiOk rfl)
              · simp [ToL, lk, hqe]
                exact to_ptr (by rw [lb_out hkn, upd_same]; simp)
              · simp [BoxL, lk]
            · have hc0 : candN33 p g x m r L i = [] := by rw [hcand', if_neg (by simp [hat, hq, hm])]
              have hbm : (m.nodes[q.toNat] == (i : Int)) = false := by simp [hm]
              simp [hin, hq, lb_out hkn, upd_same, hli, hlt, hE, hq0, hq1, hq2, hbm]
              try (simp [lb_out hkn, upd_same, hq])
              repeat ((repeat (first | refine AL.seq ?_ | refine AL.block ?_ | refine AL.skip ?_ | refine AL.blk ?_)); (refine AL.region follows_Try (Nat.le_refl _) (by kernel_rfl) ?_); simp [lb_out hkn, upd_same, hq])
              repeat (first | refine AL.seq ?_ | refine AL.block ?_ | refine AL.skip ?_ | refine AL.blk ?_)
              refine AL.cond ?_
              simp
              try (simp [hw])
              repeat ((repeat (first | refine AL.seq ?_ | refine AL.block ?_ | refine AL.skip ?_ | refine AL.blk ?_)); (refine AL.region follows_Try (Nat.le_refl _) (by kernel_rfl) ?_); simp [hw])
              repeat (first | refine AL.seq ?_ | refine AL.block ?_ | refine AL.skip ?_ | refine AL.blk ?_)
              refine AL.nil ?_
              refine ⟨⟨i + 1, out2, own2, tok2, nt2⟩, ⟨hli, by simp only; rw [hsucc, hc0, List.append_nil]; exact hout, hadv2⟩, by simp only; omega, Weaks.mk' hadv2.le (by simp [ToL, lk, hqe]; exact to_ptr (by rw [lb_out hkn, upd_same]; simp)) (by simp [BoxL, lk]) (fiOk rfl)⟩
        · have hc0 : candN33 p g x m r L i = [] := by rw [hcand', if_neg (by simp [hE])]
          have hbE : (g.nodes[i] == p.nodes[L.length]) = false := by simp [hE]
          simp [hin, lb_out hkn, upd_same, hli, hlt, hbE]
          try (simp [lb_out hkn, upd_same])
          repeat ((repeat (first | refine AL.seq ?_ | refine AL.block ?_ | refine AL.skip ?_ | refine AL.blk ?_)); (refine AL.region follows_Try (Nat.le_refl _) (by kernel_rfl) ?_); simp [lb_out hkn, upd_same])
          repeat (first | refine AL.seq ?_ | refine AL.block ?_ | refine AL.skip ?_ | refine AL.blk ?_)
          refine AL.cond ?_
          simp
          try (simp [hw])
          repeat ((repeat (first | refine AL.seq ?_ | refine AL.block ?_ | refine AL.skip ?_ | refine AL.blk ?_)); (refine AL.region follows_Try (Nat.le_refl _) (by kernel_rfl) ?_); simp [hw])
          repeat (first | refine AL.seq ?_ | refine AL.block ?_ | refine AL.skip ?_ | refine AL.blk ?_)
          refine AL.nil ?_
          refine ⟨⟨i + 1, out2, own2, tok2, nt2⟩, ⟨hli, by simp only; rw [hsucc, hc0, List.append_nil]; exact hout, hadv2⟩, by simp only; omega, Weaks.mk' hadv2.le (by simp [ToL, lk]; exact to_ptr (by rw [lb_out hkn, upd_same]; simp)) (by simp [BoxL, lk]) (fiOk rfl)⟩
    · repeat (first | refine AL.seq ?_ | refine AL.block ?_ | refine AL.skip ?_ | refine AL.blk ?_)
      refine AL.exit ?_
      simp only [AU, ↓reduceIte]
      have hin : i = g.nodes.length := by omega
      subst hin
      repeat (first | refine AL.seq ?_ | refine AL.block ?_ | refine AL.skip ?_ | refine AL.blk ?_)
      refine AL.nil ?_
      refine ⟨by simp, (Fin.gen (vs := []) (av := .tup []) (tok' := tok2) (nt' := nt2) (by simp [resAs, resA]) ?_ hadv2.le (Nat.le_refl _) (fun t h => ⟨h, .inl rfl⟩) (fiOk (by simp)) (by simp [packA])).mono fun v M hq => ⟨hq.1, own2, tok2, nt2, ?_, hadv2⟩⟩
      · rw [← upd_lb_out hkn, hbox]
      · rw [hq.2, hout]

/-! ### Extensions -/
abbrev mos (l : List Mo) : D := .sl 2 (l.map Mo.cells)
theorem extensions_c (p g : Gr) (x m : Mo) (h : FiH p g x m) (hroom : (exts p g x m).length ≤ 1000000000000) (tok : Nat → Bool) (nt : Nat) : DCall Try.prog 18 [p.av, g.av, x.av, m.av] tok nt (.d (mos (exts p g x m))) tok nt := by
  intro box nb
  have hn := nodes33_c p g x m h p.nodes.length [] [] .full
  rw [show exN p g x m p.nodes.length [] = exts p g x m from rfl, List.nil_append] at hn
  have main : ACalls Try.prog 18 [p.av, g.av, x.av, m.av] ⟨box, nb, tok, nt⟩ fun v M => v = .d (mos (exts p g x m)) ∧ M = ⟨box, nb, tok, nt⟩ := by
    refine ACalls.of_body Try.func18 rfl (by kernel_rfl) follows_Try (by kernel_rfl) (by simp [Try.ntmps18]) ?_
    intro hbox htok
    simp only at hbox htok
    apply AL.start
    repeat (first | refine AL.seq ?_ | refine AL.block ?_ | refine AL.skip ?_ | refine AL.blk ?_)
    refine AL.region follows_Try (Nat.le_refl _) (by kernel_rfl) ?_
    simp
    repeat (first | refine AL.seq ?_ | refine AL.block ?_ | refine AL.skip ?_ | refine AL.blk ?_)
    refine AL.region follows_Try (Nat.le_refl _) (by kernel_rfl) ?_
    simp
    trace_state
    refine AL.weak (Weaks.mk (l' := [(9, .ptr (nb + 15) 0 0)]) (loc' := [(15, [fiRow p g x m [] .full])]) (Nat.le_refl _) rfl (by simp [ToL, lk]) (by simp [BoxL, lk])) ?_
    try (simp)
    repeat ((repeat (first | refine AL.seq ?_ | refine AL.block ?_ | refine AL.skip ?_ | refine AL.blk ?_)); (refine AL.region follows_Try (Nat.le_refl _) (by kernel_rfl) ?_); simp)
    refine Stop.sub (args' := [.ptr (nb + 15) 0 0, .d (ints [])]) ⟨Sub.refl _, Sub.nil _ _ _, trivial⟩ ?_
    refine Stop.of_a (hn _ _ (nb + 15) _ _ (by simp) (by simpa using hroom) (by simp [lb_at]) trivial) ?_
    rintro v M ⟨rfl, own3, tok3, nt3, rfl, hadv⟩
    simp
    try (simp)
    repeat ((repeat (first | refine AL.seq ?_ | refine AL.block ?_ | refine AL.skip ?_ | refine AL.blk ?_)); (refine AL.region follows_Try (Nat.le_refl _) (by kernel_rfl) ?_); simp)
    repeat (first | refine AL.seq ?_ | refine AL.block ?_ | refine AL.skip ?_ | refine AL.blk ?_)
    refine AL.ret ?_
    try simp only [AU]
    refine ⟨by simp, Fin.data (by simp [resAs, resA]; rfl) hbox rfl htok (fun t ht => hadv.keep t ht (by simp)) hadv.le ?_⟩
    simp [packA]
  exact main
end Go.AM
/-
  The reference's Same, at equal conditions without slots and tests.
-/
namespace Go.AM
open Go Go.Proofs
set_option linter.unusedSimpArgs false
set_option linter.unusedVariables false

/-- A condition without slots and tests. -/
inductive Cd.Bare : Cd → Prop
  | mk {c : Cd} (hs : c.sl = []) (ht : c.te = []) (h : ∀ x ∈ c.kids, Cd.Bare x) : Cd.Bare c
theorem bare_cdOf {k : Int} {l : List Cd} (h : ∀ x ∈ l, x.Bare) : (cdOf k l).Bare := .mk rfl rfl h
theorem shf_bare : ∀ (n : Nat) (c : Cd), SizeOf.sizeOf c < n → ∀ b m st, (c.shf b m st).1.Bare
  | 0, c, hn, _, _, _ => absurd hn (Nat.not_lt_zero _)
  | n + 1, c, hn, b, m, st => by
    have ih := fun x (hx : x ∈ c.kids) => shf_bare n x (by have := Cd.kid_lt hx; omega)
    rw [c.shf_eq]
    unfold shStep
    split
    · exact bare_cdOf (by simp)
    · split
      · refine bare_cdOf (seqL_all _ _ fun x hx s y hy => ?_)
        simp only [shF, List.mem_singleton] at hy
        subst hy
        exact ih x hx b m s
      · split
        · exact bare_cdOf (by simp)
        · refine bare_cdOf (seqL_all _ _ fun o ho s y hy => ?_)
          by_cases ha : agrO m c.m o = true
          · rw [ovF_yes ha] at hy
            simp only [List.mem_singleton] at hy
            subst hy
            refine .mk rfl rfl fun z hz => ?_
            have hz' : z = (Cd.shfH c.kids o.g o.r (inc s.1, s.2)).1 := by simpa [exOf, Cd.kids] using hz
            subst hz'
            cases hk : c.kids with
            | nil => exact bare_cdOf (by simp)
            | cons x r => exact ih x (by rw [hk]; simp) o.g _ _
          · rw [ovF_no ha] at hy
            simp at hy

end Go.AM
/-
  The reference's True; the law's nodes, another, awake.
-/
namespace Go.AM
open Go Go.Proofs
set_option linter.unusedSimpArgs false
set_option linter.unusedVariables false

@[simp] theorem lb_base (base : Nat) (out : Nat → Option (List (List AV))) (loc : List (Nat × List (List AV))) : lb base out loc base = lk loc 0 := lb_at base 0 out loc
@[simp] theorem upd_lb_base (base : Nat) (out : Nat → Option (List (List AV))) (loc : List (Nat × List (List AV))) (rows : List (List AV)) : upd (lb base out loc) base (some rows) = lb base out ((0, rows) :: loc) := upd_lb base 0 out loc rows
@[simp] theorem to_ptr_base {q : Nat → Prop} {fz : Option (Nat × Nat × List (List D))} {base i off : Nat} {out : Nat → Option (List (List AV))} {loc : List (Nat × List (List AV))} : To (fun k => lb base out loc k ≠ none) q fz (.ptr base i off) (.ptr base i off) ↔ lk loc 0 ≠ none := to_ptr_lb (s := 0)

abbrev trueC : Cd := cdOf 1 []
theorem true33_c (tok : Nat → Bool) (nt : Nat) : DCall Try.prog 46 [] tok nt trueC.av tok nt := by
  intro box nb
  refine ACalls.of_body Try.func46 rfl (by kernel_rfl) follows_Try (by kernel_rfl) (by simp [Try.ntmps46]) ?_
  intro hbox htok
  simp only at hbox htok
  apply AL.start
  try (simp)
  repeat ((repeat (first | refine AL.seq ?_ | refine AL.block ?_ | refine AL.skip ?_ | refine AL.blk ?_)); (refine AL.region follows_Try (Nat.le_refl _) (by kernel_rfl) ?_); simp)
  repeat (first | refine AL.seq ?_ | refine AL.block ?_ | refine AL.skip ?_ | refine AL.blk ?_)
  refine AL.ret ?_
  try simp only [AU]
  refine ⟨by simp, Fin.data (by simp [resAs, resA]; rfl) hbox rfl htok (fun _ h => h) (Nat.le_refl _) ?_⟩
  simp [packA, trueC, cdOf, conds, ints, AM.edges, slots, tests, Cd.kind, Cd.kids, Cd.m, Cd.g, Cd.sl, Cd.vars, Cd.te]

def fours (n : Nat) : List Int := List.replicate n 4
theorem fours_zero : fours 0 = [] := rfl
theorem fours_succ (n : Nat) : fours (n + 1) = fours n ++ [4] := by simp [fours, List.replicate_succ']
theorem fours_len (n : Nat) : (fours n).length = n := by simp [fours]
def stFo (n nb : Nat) (box : Nat → Option (List (List AV))) (a : Acc) : AState :=
  ⟨tl [(5, I a.i), (4, I n), (3, .ptr (nb + 3) 0 0), (2, .ptr (nb + 2) 0 0)], lb nb box [(3, [[.osl 1 (rI (fours a.i)) a.own, .osl 0 [] .full]]), (2, [[.osl 0 [] .full, .osl 0 [] .full]])], a.tok, a.nt⟩
theorem lnodes_c (n : Nat) (hn : n ≤ 1000) (tok : Nat → Bool) (nt : Nat) : DCall Try.prog 23 [I n] tok nt (Gr.av ⟨fours n, []⟩) tok nt := by
  intro box nb
  refine ACalls.of_body Try.func23 rfl (by kernel_rfl) follows_Try (by kernel_rfl) (by simp [Try.ntmps23]) ?_
  intro hbox htok
  simp only at hbox htok
  apply AL.start
  try (simp)
  repeat ((repeat (first | refine AL.seq ?_ | refine AL.block ?_ | refine AL.skip ?_ | refine AL.blk ?_)); (refine AL.region follows_Try (Nat.le_refl _) (by kernel_rfl) ?_); simp)
  repeat (first | refine AL.seq ?_ | refine AL.block ?_ | refine AL.skip ?_ | refine AL.blk ?_)
  refine AL.loopT (stFo n nb box) (fun a => a.i ≤ n ∧ TK tok nt a.tok a.nt [a.own]) (fun a => n - a.i) ⟨0, .full, tok, nt⟩ ⟨Nat.zero_le _, (TK.start htok).full⟩ (Weaks.mk (Nat.le_refl _) rfl (by simp [ToL, lk]) (by simp [BoxL, lk, fours_zero])) ?_
  rintro ⟨i, own, tok', nt'⟩ S ⟨hi, htk⟩ hS
  simp only [stFo] at hS hi htk
  subst hS
  have hw : IntKind.i64.wrap (↑i + 1) = ((i + 1 : Nat) : Int) := by rw [wrap_in (by omega) (by omega)]; rfl
  try (simp)
  repeat ((repeat (first | refine AL.seq ?_ | refine AL.block ?_ | refine AL.skip ?_ | refine AL.blk ?_)); (refine AL.region follows_Try (Nat.le_refl _) (by kernel_rfl) ?_); simp)
  repeat (first | refine AL.seq ?_ | refine AL.block ?_ | refine AL.skip ?_ | refine AL.blk ?_)
  refine AL.cond ?_
  simp
  refine ⟨fun hlt => ?_, fun hge => ?_⟩
  · try (simp)
    repeat ((repeat (first | refine AL.seq ?_ | refine AL.block ?_ | refine AL.skip ?_ | refine AL.blk ?_)); (refine AL.region follows_Try (Nat.le_refl _) (by kernel_rfl) ?_); simp)
    refine ⟨⟨by rw [fours_len]; omega, htk.live⟩, ?_⟩
    try (simp [hw])
    repeat ((repeat (first | refine AL.seq ?_ | refine AL.block ?_ | refine AL.skip ?_ | refine AL.blk ?_)); (refine AL.region follows_Try (Nat.le_refl _) (by kernel_rfl) ?_); simp [hw])
    repeat (first | refine AL.seq ?_ | refine AL.block ?_ | refine AL.skip ?_ | refine AL.blk ?_)
    refine AL.nil ?_
    refine ⟨⟨i + 1, _, _, _⟩, ⟨hlt, htk.app⟩, by simp only; omega, Weaks.mk htk.app.le rfl (by simp [ToL, lk]) (by simp [BoxL, lk, fours_succ])⟩
  · repeat (first | refine AL.seq ?_ | refine AL.block ?_ | refine AL.skip ?_ | refine AL.blk ?_)
    refine AL.exit ?_
    simp only [AU, ↓reduceIte]
    have : i = n := by omega
    subst this
    try (simp)
    repeat ((repeat (first | refine AL.seq ?_ | refine AL.block ?_ | refine AL.skip ?_ | refine AL.blk ?_)); (refine AL.region follows_Try (Nat.le_refl _) (by kernel_rfl) ?_); simp)
    repeat (first | refine AL.seq ?_ | refine AL.block ?_ | refine AL.skip ?_ | refine AL.blk ?_)
    refine AL.ret ?_
    try simp only [AU]
    refine ⟨by simp, Fin.data (by simp [resAs, resA]; rfl) hbox rfl htok htk.old htk.le ?_⟩
    simp [packA, AM.edges]

def anoC : Cd := .mk 5 [trueC] ⟨[0], []⟩ ⟨fours 2, []⟩ [] 0 []
theorem another_c (tok : Nat → Bool) (nt : Nat) : DCall Try.prog 24 [] tok nt anoC.av tok nt := by
  intro box nb
  refine ACalls.of_body Try.func24 rfl (by kernel_rfl) follows_Try (by kernel_rfl) (by simp [Try.ntmps24]) ?_
  intro hbox htok
  simp only at hbox htok
  apply AL.start
  try (simp)
  repeat ((repeat (first | refine AL.seq ?_ | refine AL.block ?_ | refine AL.skip ?_ | refine AL.blk ?_)); (refine AL.region follows_Try (Nat.le_refl _) (by kernel_rfl) ?_); simp)
  refine Stop.of_d (lnodes_c 2 (by omega) _ _) ?_
  simp
  refine Stop.of_d (true33_c _ _) ?_
  simp
  try (simp)
  repeat ((repeat (first | refine AL.seq ?_ | refine AL.block ?_ | refine AL.skip ?_ | refine AL.blk ?_)); (refine AL.region follows_Try (Nat.le_refl _) (by kernel_rfl) ?_); simp)
  repeat (first | refine AL.seq ?_ | refine AL.block ?_ | refine AL.skip ?_ | refine AL.blk ?_)
  refine AL.ret ?_
  try simp only [AU]
  refine ⟨by simp, Fin.data (by simp [resAs, resA]; rfl) hbox rfl htok (fun _ h => h) (Nat.le_refl _) ?_⟩
  simp [packA, anoC, trueC, cdOf, conds, ints, AM.edges, slots, tests, Cd.kind, Cd.kids, Cd.m, Cd.g, Cd.sl, Cd.vars, Cd.te, Cd.cells_eq]

def gF (n : Nat) : Gr := ⟨fours n, []⟩
theorem gF_fit {n : Nat} (h : n ≤ 10) : (gF n).Fit := ⟨by simp [gF, fours_len]; omega, by simp [gF]⟩
theorem ano_fit : anoC.Fit := .mk (by rw [kidN_eq]; simp [anoC, Cd.kids]) ⟨by simp [anoC, Cd.m], by simp [anoC, Cd.m]⟩ (gF_fit (n := 2) (by omega)) (by rw [bigN_eq]; simp [anoC, Cd.sl]) (by rw [bigN_eq]; simp [anoC, Cd.te]) fun x hx => by
  have : x = trueC := by simpa [anoC, Cd.kids] using hx
  subst this
  exact cdOf_fit (by rw [kidN_eq]; simp) (by simp)
theorem ano_shift : (shiftR (gF 1) (gF 2) ⟨[0], []⟩ anoC).2 = 0 ∧ (shiftR (gF 1) (gF 2) ⟨[0], []⟩ anoC).1.kind = 4 ∧ (shiftR (gF 1) (gF 2) ⟨[0], []⟩ anoC).1.kids.length = 2 ∧ ((shiftR (gF 1) (gF 2) ⟨[0], []⟩ anoC).1.kids.getD 1 trueC).g.nodes.length = 2 := by decide +kernel
theorem ano_sat : satR (gF 1) anoC (gF 2) ⟨[1], []⟩ = (true, 0) := by decide +kernel
theorem ano_size : sizeR anoC = (2, 1, 0) := by decide +kernel

set_option maxRecDepth 100000 in
theorem awake33_c (tok : Nat → Bool) (nt : Nat) : DCall Try.prog 8 [] tok nt (B true) tok nt := by
  intro box nb
  have hsh := cdShift_c (gF 1) (gF 2) ⟨[0], []⟩ anoC (gF_fit (by omega)) (gF_fit (by omega)) ⟨by simp, by simp⟩ ano_fit
  have hsa := satisfies_c (gF 1) anoC (gF 2) ⟨[1], []⟩ (gF_fit (by omega)) ano_fit (gF_fit (by omega)) ⟨by simp, by simp⟩
  have hsz := cdSize_c anoC ano_fit.big
  rw [ano_sat] at hsa
  rw [ano_size] at hsz
  obtain ⟨s1, s2, s3, s4⟩ := ano_shift
  generalize shiftR (gF 1) (gF 2) ⟨[0], []⟩ anoC = r at *
  refine ACalls.of_body Try.func8 rfl (by kernel_rfl) follows_Try (by kernel_rfl) (by simp [Try.ntmps8]) ?_
  intro hbox htok
  simp only at hbox htok
  apply AL.start
  try (simp)
  repeat ((repeat (first | refine AL.seq ?_ | refine AL.block ?_ | refine AL.skip ?_ | refine AL.blk ?_)); (refine AL.region follows_Try (Nat.le_refl _) (by kernel_rfl) ?_); simp)
  refine Stop.of_d (lnodes_c 1 (by omega) _ _) ?_
  simp
  refine Stop.of_d (lnodes_c 2 (by omega) _ _) ?_
  simp
  refine Stop.of_d (another_c _ _) ?_
  simp
  refine Stop.sub (args' := [(gF 1).av, (gF 2).av, .agg [.d (ints [0]), .d (ints [])], anoC.av]) ⟨Sub.refl _, Sub.refl _, Sub.agg ⟨Sub.data _ _ _, Sub.nil _ _ _, trivial⟩, Sub.refl _, trivial⟩ ?_
  refine Stop.of_d (hsh _ _) ?_
  simp
  try (simp)
  repeat ((repeat (first | refine AL.seq ?_ | refine AL.block ?_ | refine AL.skip ?_ | refine AL.blk ?_)); (refine AL.region follows_Try (Nat.le_refl _) (by kernel_rfl) ?_); simp)
  refine Stop.of_d (lnodes_c 1 (by omega) _ _) ?_
  simp
  refine Stop.of_d (another_c _ _) ?_
  simp
  refine Stop.of_d (lnodes_c 2 (by omega) _ _) ?_
  simp
  refine Stop.sub (args' := [(gF 1).av, anoC.av, (gF 2).av, .agg [.d (ints [1]), .d (ints [])]]) ⟨Sub.refl _, Sub.refl _, Sub.refl _, Sub.agg ⟨Sub.data _ _ _, Sub.nil _ _ _, trivial⟩, trivial⟩ ?_
  refine Stop.of_d (hsa _ _) ?_
  simp
  try (simp)
  repeat ((repeat (first | refine AL.seq ?_ | refine AL.block ?_ | refine AL.skip ?_ | refine AL.blk ?_)); (refine AL.region follows_Try (Nat.le_refl _) (by kernel_rfl) ?_); simp)
  refine Stop.of_d (another_c _ _) ?_
  simp
  refine Stop.of_d (hsz _ _) ?_
  simp
  have hk : 1 < r.1.kids.length := by omega
  have hk' : r.1.kids[1].g.nodes.length = 2 := by simpa [hk] using s4
  try (simp [s1, s2, s3, hk, Cd.cells_eq, hk'])
  repeat ((repeat (first | refine AL.seq ?_ | refine AL.block ?_ | refine AL.skip ?_ | refine AL.blk ?_)); (refine AL.region follows_Try (Nat.le_refl _) (by kernel_rfl) ?_); simp [s1, s2, s3, hk, Cd.cells_eq, hk'])
  repeat (first | refine AL.seq ?_ | refine AL.block ?_ | refine AL.skip ?_ | refine AL.blk ?_)
  refine AL.ret ?_
  try simp only [AU]
  refine ⟨by simp, Fin.data (by simp [resAs, resA]; rfl) hbox rfl htok (fun _ h => h) (Nat.le_refl _) ?_⟩
  simp [packA]
end Go.AM
/-
  The law's grown; the reference's maker.
-/
namespace Go.AM
open Go Go.Proofs
set_option linter.unusedSimpArgs false
set_option linter.unusedVariables false

abbrev bytes (l : List Int) : D := .sl 1 (l.map fun n => [u8 n])
def U8s (l : List Int) : Prop := ∀ c ∈ l, 0 ≤ c ∧ c < 256
theorem wrapU8 {n : Int} (h0 : 0 ≤ n) (h1 : n < 256) : IntKind.u8.wrap n = n := IntWalk.u8_in n ⟨h0, by omega⟩
/-- What codes come to. -/
structure CodeA (c : Int) : Prop where
  m2 : c.tmod 2 = c % 2
  d2 : IntKind.u8.wrap (c.tdiv 2) = c / 2
  d4 : IntKind.u8.wrap (c.tdiv 4) = c / 4
  d16 : IntKind.u8.wrap (c.tdiv 16) = c / 16
  w2 : IntKind.i64.wrap (c / 2) = c / 2
  w4 : IntKind.i64.wrap (c / 4) = c / 4
  w16 : IntKind.i64.wrap (c / 16) = c / 16
  t3 : (c / 2).tmod 3 = c / 2 % 3
  t2 : (c / 2).tmod 2 = c / 2 % 2
  n4 : ∀ n : Nat, (c / 4).tmod n = c / 4 % n
  n16 : ∀ n : Nat, (c / 16).tmod n = c / 16 % n
theorem codeA {c : Int} (h0 : 0 ≤ c) (h1 : c < 256) : CodeA c := by
  have e : ∀ k : Int, c.tdiv k = c / k := fun k => Int.tdiv_eq_ediv_of_nonneg h0
  refine ⟨Int.tmod_eq_emod_of_nonneg h0, ?_, ?_, ?_, wrap_in (by omega) (by omega), wrap_in (by omega) (by omega), wrap_in (by omega) (by omega), Int.tmod_eq_emod_of_nonneg (by omega), Int.tmod_eq_emod_of_nonneg (by omega), fun n => Int.tmod_eq_emod_of_nonneg (by omega), fun n => Int.tmod_eq_emod_of_nonneg (by omega)⟩
  · rw [e]; exact wrapU8 (by omega) (by omega)
  · rw [e]; exact wrapU8 (by omega) (by omega)
  · rw [e]; exact wrapU8 (by omega) (by omega)
theorem bytes_at {l : List Int} {i : Nat} (h : i < l.length) : (l.map fun n => [u8 n])[i]? = some [u8 l[i]] := by simp [h]

/-- A graph goes on by one code. -/
def growS (st : List Int × List E) (c : Int) : List Int × List E :=
  if c % 2 = 0 ∨ st.1.length = 0 then (st.1 ++ [c / 2 % 3], st.2) else (st.1, st.2 ++ [⟨c / 2 % 2, c / 4 % st.1.length, c / 16 % st.1.length⟩])
def growK (g : Gr) (cs : List Int) (most i : Nat) : List Int × List E := ((cs.take most).take i).foldl growS (g.nodes, g.edges)
def growR (g : Gr) (cs : List Int) (most : Nat) : Gr := let r := growK g cs most cs.length; ⟨r.1, r.2⟩
structure Acc5 where
  i : Nat
  o1 : Own
  o2 : Own
  tok : Nat → Bool
  nt : Nat
theorem growS_len (st : List Int × List E) (c : Int) : (growS st c).1.length ≤ st.1.length + 1 ∧ (growS st c).2.length ≤ st.2.length + 1 := by
  unfold growS
  split <;> simp
theorem growK_len (g : Gr) (cs : List Int) (most : Nat) : ∀ i, (growK g cs most i).1.length ≤ g.nodes.length + i ∧ (growK g cs most i).2.length ≤ g.edges.length + i
  | 0 => by simp [growK]
  | i + 1 => by
    have ih := growK_len g cs most i
    by_cases h : i < (cs.take most).length
    · have := growS_len (growK g cs most i) (cs.take most)[i]
      simp only [growK, List.take_succ_eq_append_getElem h, List.foldl_append, List.foldl_cons, List.foldl_nil] at this ih ⊢
      omega
    · have e : (cs.take most).take (i + 1) = (cs.take most).take i := by rw [List.take_of_length_le (i := i + 1) (by omega), List.take_of_length_le (i := i) (by omega)]
      simp only [growK, e] at ih ⊢
      omega
theorem growK_no (g : Gr) (cs : List Int) {most i : Nat} (h : most ≤ i) : growK g cs most (i + 1) = growK g cs most i := by
  have e : (cs.take most).take (i + 1) = (cs.take most).take i := by
    rw [List.take_of_length_le (i := i + 1) (by simp; omega), List.take_of_length_le (i := i) (by simp; omega)]
  simp only [growK, e]
theorem growK_yes (g : Gr) (cs : List Int) {most i : Nat} (h : ¬ most ≤ i) (hi : i < cs.length) : growK g cs most (i + 1) = growS (growK g cs most i) cs[i] := by
  have h1 : i < (cs.take most).length := by simp; omega
  have h2 : (cs.take most)[i] = cs[i] := by simp
  simp only [growK, List.take_succ_eq_append_getElem h1, List.foldl_append, List.foldl_cons, List.foldl_nil, h2]
def stGr (g : Gr) (cs : List Int) (most nb : Nat) (box : Nat → Option (List (List AV))) (x : Acc5) : AState :=
  ⟨tl [(15, I x.i), (14, I cs.length), (13, .d (bytes cs)), (7, .ptr (nb + 7) 0 0), (6, .ptr (nb + 6) 0 0), (2, I most)],
    lb nb box [(7, [[.osl 1 (rI (growK g cs most x.i).1) x.o1, .osl 3 (rE (growK g cs most x.i).2) x.o2]]), (6, [[.osl 0 [] .full, .osl 0 [] .full]])], x.tok, x.nt⟩
theorem grown_c (g : Gr) (cs : List Int) (most : Nat) (hg : g.Fit) (hc : U8s cs) (hl : cs.length ≤ 1000) (hm : most ≤ 1000) (tok : Nat → Bool) (nt : Nat) :
    DCall Try.prog 20 [g.av, .d (bytes cs), I most] tok nt (growR g cs most).av tok nt := by
  intro box nb
  have hcp := copied_c g hg
  refine ACalls.of_body Try.func20 rfl (by kernel_rfl) follows_Try (by kernel_rfl) (by simp [Try.ntmps20]) ?_
  intro hbox htok
  simp only at hbox htok
  apply AL.start
  try (simp)
  repeat ((repeat (first | refine AL.seq ?_ | refine AL.block ?_ | refine AL.skip ?_ | refine AL.blk ?_)); (refine AL.region follows_Try (Nat.le_refl _) (by kernel_rfl) ?_); simp)
  refine Stop.of_d (hcp _ _) ?_
  simp
  try (simp)
  repeat ((repeat (first | refine AL.seq ?_ | refine AL.block ?_ | refine AL.skip ?_ | refine AL.blk ?_)); (refine AL.region follows_Try (Nat.le_refl _) (by kernel_rfl) ?_); simp)
  repeat (first | refine AL.seq ?_ | refine AL.block ?_ | refine AL.skip ?_ | refine AL.blk ?_)
  have htk0 := (TK.start htok).full.app.full.app.swap
  refine AL.loopT (stGr g cs most nb box) (fun x => x.i ≤ cs.length ∧ TK tok nt x.tok x.nt [x.o1, x.o2]) (fun x => cs.length - x.i) ⟨0, .tok nt, .tok (nt + 1), _, _⟩ ⟨Nat.zero_le _, htk0⟩ (Weaks.mk htk0.le rfl (by simp [ToL, lk]) (by simp [BoxL, lk, growK])) ?_
  rintro ⟨i, o1, o2, tok1, nt1⟩ S ⟨hi, htk⟩ hS
  simp only [stGr] at hS hi htk
  subst hS
  have hw : IntKind.i64.wrap (↑i + 1) = ((i + 1 : Nat) : Int) := by rw [wrap_in (by omega) (by omega)]; rfl
  have hlen := growK_len g cs most i
  have hgn := hg.n
  have hge := hg.e
  try (simp)
  repeat ((repeat (first | refine AL.seq ?_ | refine AL.block ?_ | refine AL.skip ?_ | refine AL.blk ?_)); (refine AL.region follows_Try (Nat.le_refl _) (by kernel_rfl) ?_); simp)
  repeat (first | refine AL.seq ?_ | refine AL.block ?_ | refine AL.skip ?_ | refine AL.blk ?_)
  refine AL.cond ?_
  simp
  refine ⟨fun hlt => ?_, fun hge => ?_⟩
  · obtain ⟨c0, c1⟩ := hc _ (List.getElem_mem hlt)
    have hno := growK_no g cs (most := most) (i := i)
    have hyes := fun h => growK_yes g cs (most := most) h hlt
    try (simp [bytes_at hlt, hlt])
    repeat ((repeat (first | refine AL.seq ?_ | refine AL.block ?_ | refine AL.skip ?_ | refine AL.blk ?_)); (refine AL.region follows_Try (Nat.le_refl _) (by kernel_rfl) ?_); simp [bytes_at hlt, hlt])
    generalize cs[i] = c at *
    generalize growK g cs most i = K at *
    by_cases hmi : most ≤ i
    · have hmi' : (most : Int) ≤ (i : Int) := by omega
      try (simp [hmi'])
      repeat ((repeat (first | refine AL.seq ?_ | refine AL.block ?_ | refine AL.skip ?_ | refine AL.blk ?_)); (refine AL.region follows_Try (Nat.le_refl _) (by kernel_rfl) ?_); simp [hmi'])
      have dmi : decide (most ≤ i) = true := decide_eq_true hmi
      simp only [dmi]
      repeat (first | refine AL.seq ?_ | refine AL.block ?_ | refine AL.skip ?_ | refine AL.blk ?_)
      refine AL.cond ?_
      simp
      try (simp [hw])
      repeat ((repeat (first | refine AL.seq ?_ | refine AL.block ?_ | refine AL.skip ?_ | refine AL.blk ?_)); (refine AL.region follows_Try (Nat.le_refl _) (by kernel_rfl) ?_); simp [hw])
      repeat (first | refine AL.seq ?_ | refine AL.block ?_ | refine AL.skip ?_ | refine AL.blk ?_)
      refine AL.nil ?_
      refine ⟨⟨i + 1, o1, o2, tok1, nt1⟩, ⟨hlt, htk⟩, by simp only; omega, ?_⟩
      simp only [stGr, hno hmi]
      exact Weaks.mk htk.le rfl (by simp [ToL, lk]) (by simp [BoxL, lk])
    · have hmi' : ¬ (most : Int) ≤ (i : Int) := by omega
      try (simp [hmi'])
      repeat ((repeat (first | refine AL.seq ?_ | refine AL.block ?_ | refine AL.skip ?_ | refine AL.blk ?_)); (refine AL.region follows_Try (Nat.le_refl _) (by kernel_rfl) ?_); simp [hmi'])
      have dmi : decide (most ≤ i) = false := decide_eq_false hmi
      simp only [dmi]
      repeat (first | refine AL.seq ?_ | refine AL.block ?_ | refine AL.skip ?_ | refine AL.blk ?_)
      refine AL.cond ?_
      simp
      have C := codeA c0 c1
      by_cases h2 : c % 2 = 0
      · have hK : growS K c = (K.1 ++ [c / 2 % 3], K.2) := by rw [growS, if_pos (.inl h2)]
        try (simp [C.m2, C.d2, C.w2, C.t3, h2])
        repeat ((repeat (first | refine AL.seq ?_ | refine AL.block ?_ | refine AL.skip ?_ | refine AL.blk ?_)); (refine AL.region follows_Try (Nat.le_refl _) (by kernel_rfl) ?_); simp [C.m2, C.d2, C.w2, C.t3, h2])
        repeat (first | refine AL.seq ?_ | refine AL.block ?_ | refine AL.skip ?_ | refine AL.blk ?_)
        refine AL.cond ?_
        simp
        try (simp [C.m2, C.d2, C.w2, C.t3])
        repeat ((repeat (first | refine AL.seq ?_ | refine AL.block ?_ | refine AL.skip ?_ | refine AL.blk ?_)); (refine AL.region follows_Try (Nat.le_refl _) (by kernel_rfl) ?_); simp [C.m2, C.d2, C.w2, C.t3])
        refine ⟨⟨by omega, htk.live⟩, ?_⟩
        try (simp [hw])
        repeat ((repeat (first | refine AL.seq ?_ | refine AL.block ?_ | refine AL.skip ?_ | refine AL.blk ?_)); (refine AL.region follows_Try (Nat.le_refl _) (by kernel_rfl) ?_); simp [hw])
        repeat (first | refine AL.seq ?_ | refine AL.block ?_ | refine AL.skip ?_ | refine AL.blk ?_)
        refine AL.nil ?_
        refine ⟨⟨i + 1, .tok nt1, o2, upd (o1.kill tok1) nt1 true, nt1 + 1⟩, ⟨hlt, htk.app⟩, by simp only; omega, ?_⟩
        simp only [stGr, hyes hmi, hK]
        exact Weaks.mk htk.app.le rfl (by simp [ToL, lk]) (by simp [BoxL, lk])
      · have b2 : (c % 2 == 0) = false := by simp [h2]
        by_cases h0 : K.1.length = 0
        · have b0 : ((K.1.length : Int) == 0) = true := by simp [h0]
          have hK : growS K c = (K.1 ++ [c / 2 % 3], K.2) := by rw [growS, if_pos (.inr h0)]
          try (simp [C.m2, C.d2, C.w2, C.t3, b2, b0])
          repeat ((repeat (first | refine AL.seq ?_ | refine AL.block ?_ | refine AL.skip ?_ | refine AL.blk ?_)); (refine AL.region follows_Try (Nat.le_refl _) (by kernel_rfl) ?_); simp [C.m2, C.d2, C.w2, C.t3, b2, b0])
          repeat (first | refine AL.seq ?_ | refine AL.block ?_ | refine AL.skip ?_ | refine AL.blk ?_)
          refine AL.cond ?_
          simp
          try (simp [C.m2, C.d2, C.w2, C.t3])
          repeat ((repeat (first | refine AL.seq ?_ | refine AL.block ?_ | refine AL.skip ?_ | refine AL.blk ?_)); (refine AL.region follows_Try (Nat.le_refl _) (by kernel_rfl) ?_); simp [C.m2, C.d2, C.w2, C.t3])
          refine ⟨⟨by omega, htk.live⟩, ?_⟩
          try (simp [hw])
          repeat ((repeat (first | refine AL.seq ?_ | refine AL.block ?_ | refine AL.skip ?_ | refine AL.blk ?_)); (refine AL.region follows_Try (Nat.le_refl _) (by kernel_rfl) ?_); simp [hw])
          repeat (first | refine AL.seq ?_ | refine AL.block ?_ | refine AL.skip ?_ | refine AL.blk ?_)
          refine AL.nil ?_
          refine ⟨⟨i + 1, .tok nt1, o2, upd (o1.kill tok1) nt1 true, nt1 + 1⟩, ⟨hlt, htk.app⟩, by simp only; omega, ?_⟩
          simp only [stGr, hyes hmi, hK]
          exact Weaks.mk htk.app.le rfl (by simp [ToL, lk]) (by simp [BoxL, lk])
        · have b0 : ((K.1.length : Int) == 0) = false := by simp [h0]
          have hn0 : (K.1.length : Int) ≠ 0 := by omega
          have hK : growS K c = (K.1, K.2 ++ [⟨c / 2 % 2, c / 4 % K.1.length, c / 16 % K.1.length⟩]) := by rw [growS, if_neg (by simp only [not_or]; exact ⟨h2, h0⟩)]
          try (simp [C.m2, C.d2, C.w2, C.t3, b2, b0])
          repeat ((repeat (first | refine AL.seq ?_ | refine AL.block ?_ | refine AL.skip ?_ | refine AL.blk ?_)); (refine AL.region follows_Try (Nat.le_refl _) (by kernel_rfl) ?_); simp [C.m2, C.d2, C.w2, C.t3, b2, b0])
          repeat (first | refine AL.seq ?_ | refine AL.block ?_ | refine AL.skip ?_ | refine AL.blk ?_)
          refine AL.cond ?_
          simp
          try (simp [C.d2, C.w2, C.t2, C.d4, C.w4, C.n4, C.d16, C.w16, C.n16, hn0])
          repeat ((repeat (first | refine AL.seq ?_ | refine AL.block ?_ | refine AL.skip ?_ | refine AL.blk ?_)); (refine AL.region follows_Try (Nat.le_refl _) (by kernel_rfl) ?_); simp [C.d2, C.w2, C.t2, C.d4, C.w4, C.n4, C.d16, C.w16, C.n16, hn0])
          refine ⟨by intro e; rw [e] at h0; exact h0 rfl, ⟨by omega, htk.swap.live⟩, ?_⟩
          try (simp [hw])
          repeat ((repeat (first | refine AL.seq ?_ | refine AL.block ?_ | refine AL.skip ?_ | refine AL.blk ?_)); (refine AL.region follows_Try (Nat.le_refl _) (by kernel_rfl) ?_); simp [hw])
          repeat (first | refine AL.seq ?_ | refine AL.block ?_ | refine AL.skip ?_ | refine AL.blk ?_)
          refine AL.nil ?_
          refine ⟨⟨i + 1, o1, .tok nt1, upd (o2.kill tok1) nt1 true, nt1 + 1⟩, ⟨hlt, htk.swap.app.swap⟩, by simp only; omega, ?_⟩
          simp only [stGr, hyes hmi, hK]
          exact Weaks.mk htk.swap.app.le rfl (by simp [ToL, lk]) (by simp [BoxL, lk])
  · repeat (first | refine AL.seq ?_ | refine AL.block ?_ | refine AL.skip ?_ | refine AL.blk ?_)
    refine AL.exit ?_
    simp only [AU, ↓reduceIte]
    have : i = cs.length := by omega
    subst this
    try (simp)
    repeat ((repeat (first | refine AL.seq ?_ | refine AL.block ?_ | refine AL.skip ?_ | refine AL.blk ?_)); (refine AL.region follows_Try (Nat.le_refl _) (by kernel_rfl) ?_); simp)
    repeat (first | refine AL.seq ?_ | refine AL.block ?_ | refine AL.skip ?_ | refine AL.blk ?_)
    refine AL.ret ?_
    try simp only [AU]
    refine ⟨by simp, Fin.data (by simp [resAs, resA]; rfl) hbox rfl htok htk.old htk.le ?_⟩
    simp [packA, growR, AM.edges]
/-! ### The maker -/
def codeAt (cs : List Int) (n : Nat) : Int := cs.getD n 0
theorem outM {cs : List Int} {a b : Int} {box : Nat → Option (List (List AV))} {k base : Nat} {p q : Nat → Prop} : ∀ k' rows, k' < base → (upd box k (some [[.d (bytes cs), I a, I b]])) k' = some rows → box k' = some rows ∨ ∀ r ∈ rows, ∀ x ∈ r, OkIn p q x := by
  intro k' rows hk' hr
  by_cases e : k' = k
  · subst e
    rw [upd_same] at hr
    cases hr
    exact .inr (by simp)
  · rw [upd_other _ _ e] at hr
    exact .inl hr
theorem next33_c (cs : List Int) (hc : U8s cs) (at1 : Nat) (left : Int) (hl : cs.length ≤ 1000) (ha : at1 ≤ 100000) (box : Nat → Option (List (List AV))) (nb k : Nat) (tok : Nat → Bool) (nt : Nat) (hk : box k = some [[.d (bytes cs), I at1, I left]]) :
    ACalls Try.prog 81 [.ptr k 0 0] ⟨box, nb, tok, nt⟩ fun v m => v = I (codeAt cs at1) ∧ m = ⟨upd box k (some [[.d (bytes cs), I ((at1 + 1 : Nat) : Int), I left]]), nb, tok, nt⟩ := by
  refine ACalls.of_body Try.func81 rfl (by kernel_rfl) follows_Try (by kernel_rfl) (by simp [Try.ntmps81]) ?_
  intro hbox htok
  simp only at hbox htok
  apply AL.start
  have kn := key_lt hbox hk
  have hw : IntKind.i64.wrap (↑at1 + 1) = ((at1 + 1 : Nat) : Int) := by rw [wrap_in (by omega) (by omega)]; rfl
  try (simp [lb_out kn, hk, upd_lb_out kn, upd_same, hw])
  repeat ((repeat (first | refine AL.seq ?_ | refine AL.block ?_ | refine AL.skip ?_ | refine AL.blk ?_)); (refine AL.region follows_Try (Nat.le_refl _) (by kernel_rfl) ?_); simp [lb_out kn, hk, upd_lb_out kn, upd_same, hw])
  by_cases hlt : at1 < cs.length
  · have b1 : decide ((cs.length : Int) < (at1 : Int) + 1) = false := decide_eq_false (by omega)
    have hx : codeAt cs at1 = cs[at1] := by simp [codeAt, hlt]
    obtain ⟨c0, c1⟩ := hc _ (List.getElem_mem hlt)
    have hw2 : IntKind.i64.wrap (at1 : Int) = (at1 : Int) := wrap_in (by omega) (by omega)
    have hmp : (cs.map fun n => [u8 n])[at1]? = some [u8 cs[at1]] := bytes_at hlt
    have hw3 : IntKind.i64.wrap cs[at1] = cs[at1] := wrap_in (by omega) (by omega)
    simp only [b1]
    repeat (first | refine AL.seq ?_ | refine AL.block ?_ | refine AL.skip ?_ | refine AL.blk ?_)
    refine AL.cond ?_
    simp
    try (simp [lb_out kn, hk, upd_lb_out kn, upd_same, hw2, bytes_at hlt, hlt, hw3])
    repeat ((repeat (first | refine AL.seq ?_ | refine AL.block ?_ | refine AL.skip ?_ | refine AL.blk ?_)); (refine AL.region follows_Try (Nat.le_refl _) (by kernel_rfl) ?_); simp [lb_out kn, hk, upd_lb_out kn, upd_same, hw2, bytes_at hlt, hlt, hw3])
    repeat (first | refine AL.seq ?_ | refine AL.block ?_ | refine AL.skip ?_ | refine AL.blk ?_)
    refine AL.ret ?_
    try simp only [AU]
    exact ⟨by simp, (Fin.gen (av := I cs[at1]) (tok' := tok) (nt' := nt) (by simp [resAs, resA, lk]; rfl) (by rw [← upd_lb_out kn, hbox]) (Nat.le_refl _) (Nat.le_refl _) (fun t ht => ⟨ht, .inl rfl⟩) outM (by simp [packA])).mono fun v m hq => by rw [hx]; exact hq⟩
  · have b1 : decide ((cs.length : Int) < (at1 : Int) + 1) = true := decide_eq_true (by omega)
    have hx : codeAt cs at1 = 0 := by simp [codeAt]; rw [List.getElem?_eq_none (by omega)]; rfl
    simp only [b1]
    repeat (first | refine AL.seq ?_ | refine AL.block ?_ | refine AL.skip ?_ | refine AL.blk ?_)
    refine AL.cond ?_
    simp
    try (simp [lb_out kn, hk, upd_lb_out kn, upd_same])
    repeat ((repeat (first | refine AL.seq ?_ | refine AL.block ?_ | refine AL.skip ?_ | refine AL.blk ?_)); (refine AL.region follows_Try (Nat.le_refl _) (by kernel_rfl) ?_); simp [lb_out kn, hk, upd_lb_out kn, upd_same])
    repeat (first | refine AL.seq ?_ | refine AL.block ?_ | refine AL.skip ?_ | refine AL.blk ?_)
    refine AL.ret ?_
    try simp only [AU]
    exact ⟨by simp, (Fin.gen (av := I 0) (tok' := tok) (nt' := nt) (by simp [resAs, resA, lk]; rfl) (by rw [← upd_lb_out kn, hbox]) (Nat.le_refl _) (Nat.le_refl _) (fun t ht => ⟨ht, .inl rfl⟩) outM (by simp [packA])).mono fun v m hq => by rw [hx]; exact hq⟩

/-- A condition that codes describe: the condition, and how far the codes are read, and what is left. -/
def mkG (a : Gr) (c : Int) : Gr :=
  let n1 := if a.nodes.length = 0 ∨ (c / 8 % 3 ≠ 2 ∧ a.nodes.length < 4) then a.nodes ++ [c / 32 % 3] else a.nodes
  ⟨n1, if c / 8 % 3 ≠ 0 ∧ a.edges.length < 3 then a.edges ++ [⟨c / 64 % 2, c / 16 % n1.length, n1.length - 1⟩] else a.edges⟩
structure CodeB (c : Int) : Prop where
  d8 : IntKind.i64.wrap (c.tdiv 8) = c / 8
  d16 : IntKind.i64.wrap (c.tdiv 16) = c / 16
  d32 : IntKind.i64.wrap (c.tdiv 32) = c / 32
  d64 : IntKind.i64.wrap (c.tdiv 64) = c / 64
  t8 : (c / 8).tmod 3 = c / 8 % 3
  t32 : (c / 32).tmod 3 = c / 32 % 3
  t64 : (c / 64).tmod 2 = c / 64 % 2
  n16 : ∀ n : Nat, (c / 16).tmod n = c / 16 % n
theorem codeB {c : Int} (h0 : 0 ≤ c) (h1 : c < 256) : CodeB c := by
  have e : ∀ k : Int, c.tdiv k = c / k := fun k => Int.tdiv_eq_ediv_of_nonneg h0
  refine ⟨?_, ?_, ?_, ?_, Int.tmod_eq_emod_of_nonneg (by omega), Int.tmod_eq_emod_of_nonneg (by omega), Int.tmod_eq_emod_of_nonneg (by omega), fun n => Int.tmod_eq_emod_of_nonneg (by omega)⟩
  all_goals rw [e]; exact wrap_in (by omega) (by omega)
theorem mkG_nodes (a : Gr) (c : Int) : (mkG a c).nodes = if a.nodes.length = 0 ∨ (c / 8 % 3 ≠ 2 ∧ a.nodes.length < 4) then a.nodes ++ [c / 32 % 3] else a.nodes := rfl
theorem mkG_edges (a : Gr) (c : Int) : (mkG a c).edges = if c / 8 % 3 ≠ 0 ∧ a.edges.length < 3 then a.edges ++ [⟨c / 64 % 2, c / 16 % (mkG a c).nodes.length, (mkG a c).nodes.length - 1⟩] else a.edges := rfl
theorem mkG_len (a : Gr) (c : Int) : 0 < (mkG a c).nodes.length ∧ (mkG a c).nodes.length ≤ a.nodes.length + 1 ∧ (mkG a c).edges.length ≤ a.edges.length + 1 := by
  refine ⟨?_, ?_, ?_⟩
  · rw [mkG_nodes]
    split
    · simp
    · rename_i h; simp only [not_or] at h; omega
  · rw [mkG_nodes]; split <;> simp
  · rw [mkG_edges]; split <;> simp
def mkEx (a : Gr) (g : Gr) (x : Cd) : Cd := .mk 5 [x] (idM a) g [] 0 []
def mkC (cs : List Int) : Nat → Gr → Nat → Nat → Int → Cd × Nat × Int
  | 0, _, _, at1, left => (trueC, at1 + 1, left - 1)
  | r + 1, a, d, at1, left =>
    let c := codeAt cs at1
    if left - 1 < 2 then (trueC, at1 + 1, left - 1)
    else if c % 6 = 1 then let k := mkC cs r a d (at1 + 1) (left - 1); (cdOf 2 [k.1], k.2)
    else if c % 6 = 2 ∨ c % 6 = 3 then let k := mkC cs r a d (at1 + 1) (left - 1); let k2 := mkC cs r a d k.2.1 k.2.2; (cdOf (c % 6 + 1) [k.1, k2.1], k2.2)
    else if c % 6 = 4 ∨ c % 6 = 5 then
      if d = 0 then (trueC, at1 + 1, left - 1) else let k := mkC cs r (mkG a c) (d - 1) (at1 + 1) (left - 1); (mkEx a (mkG a c) k.1, k.2)
    else (trueC, at1 + 1, left - 1)
theorem mkC_bd (cs : List Int) : ∀ (r : Nat) (a : Gr) (d at1 : Nat) (left : Int), (mkC cs r a d at1 left).2.1 + 1 ≤ at1 + 2 ^ (r + 1) ∧ left + 1 ≤ (mkC cs r a d at1 left).2.2 + 2 ^ (r + 1) ∧ (mkC cs r a d at1 left).2.2 ≤ left - 1
  | 0, a, d, at1, left => by simp only [mkC]; omega
  | r + 1, a, d, at1, left => by
    have e : 2 ^ (r + 1 + 1) = 2 * 2 ^ (r + 1) := by rw [Nat.pow_succ]; omega
    have e' : (2 : Int) ^ (r + 1 + 1) = 2 * 2 ^ (r + 1) := by rw [Int.pow_succ]; omega
    have p : 1 ≤ 2 ^ (r + 1) := Nat.one_le_two_pow
    have p' : (1 : Int) ≤ 2 ^ (r + 1) := by have : ((2 ^ (r + 1) : Nat) : Int) = (2 : Int) ^ (r + 1) := by simp
                                            omega
    simp only [mkC]
    split
    · simp only; omega
    · split
      · have := mkC_bd cs r a d (at1 + 1) (left - 1)
        simp only; omega
      · split
        · have h1 := mkC_bd cs r a d (at1 + 1) (left - 1)
          have h2 := mkC_bd cs r a d (mkC cs r a d (at1 + 1) (left - 1)).2.1 (mkC cs r a d (at1 + 1) (left - 1)).2.2
          simp only; omega
        · split
          · split
            · simp only; omega
            · have := mkC_bd cs r (mkG a (codeAt cs at1)) (d - 1) (at1 + 1) (left - 1)
              simp only; omega
          · simp only; omega
theorem AL.midT {cx : Cx} {nt0 : Nat} {K : Exit → AState → Prop} {r : List CI} {S : AState} {x y : Code} {α : Type} (T : α → AState) (inv : α → Prop)
    (h1 : AL Try.prog cx nt0 (fun e S' => match e with
      | .normal => ∃ a, inv a ∧ Weaks cx nt0 S' (T a)
      | e => AU Try.prog cx nt0 K (.c y :: r) e S') [.c x] S) (h2 : ∀ a, inv a → AL Try.prog cx nt0 K (.c y :: r) (T a)) : AL Try.prog cx nt0 K (.c x :: .c y :: r) S := by
  have h3 := AL.start h1
  simp only [AL] at h2 ⊢
  refine h3.mono fun e S' h => ?_
  cases e with
  | normal =>
    obtain ⟨a, ha, hw⟩ := h
    exact AT.weaks hw (h2 a ha)
  | _ => exact h
def stM1 (a : Gr) (cs n1 : List Int) (c : Int) (at1 : Nat) (left : Int) (d k nb : Nat) (box : Nat → Option (List (List AV))) (y : Acc5) : AState :=
  ⟨tl [(9, .ptr (nb + 9) 0 0), (7, I c), (6, .ptr (nb + 6) 0 0), (4, .ptr (nb + 4) 0 0), (0, .ptr k 0 0), (2, I d)],
    lb nb (upd box k (some [[.d (bytes cs), I (at1 + 1), I left]])) [(9, [[.osl 1 (rI n1) y.o1, .osl 3 (rE a.edges) y.o2]]), (4, [a.cells2]), (6, [[z0i, nilS, nilS, nilS, nilS, nilS, nilS, z0i, nilS]])], y.tok, y.nt⟩
def stM2 (a : Gr) (cs : List Int) (G : Gr) (c : Int) (at1 : Nat) (left : Int) (d k nb : Nat) (box : Nat → Option (List (List AV))) (y : Acc5) : AState :=
  ⟨tl [(9, .ptr (nb + 9) 0 0), (7, I c), (6, .ptr (nb + 6) 0 0), (4, .ptr (nb + 4) 0 0), (0, .ptr k 0 0), (2, I d)],
    lb nb (upd box k (some [[.d (bytes cs), I (at1 + 1), I left]])) [(9, [G.cells2]), (4, [a.cells2]), (6, [[z0i, nilS, nilS, nilS, nilS, nilS, nilS, z0i, nilS]])], y.tok, y.nt⟩
def QMk (cs : List Int) (r : Cd × Nat × Int) (k : Nat) (box : Nat → Option (List (List AV))) (nb : Nat) (tok : Nat → Bool) (nt : Nat) (v : AV) (m : AMem) : Prop :=
  v = r.1.av ∧ m = ⟨upd box k (some [[.d (bytes cs), I r.2.1, I r.2.2]]), nb, tok, nt⟩
theorem code_in {cs : List Int} (hc : U8s cs) (n : Nat) : 0 ≤ codeAt cs n ∧ codeAt cs n < 256 := by
  unfold codeAt
  by_cases h : n < cs.length
  · exact hc _ (getD_mem h)
  · simp only [List.getD_eq_getElem?_getD]
    rw [List.getElem?_eq_none (by omega)]
    exact ⟨by decide, by decide⟩
set_option maxRecDepth 100000 in
theorem make61_c (cs : List Int) (hc : U8s cs) (hl : cs.length ≤ 1000) : ∀ (n r : Nat), r < n → ∀ (a : Gr) (d at1 : Nat) (left : Int), a.nodes.length + r ≤ 1000 → a.edges.length + r ≤ 1000 → at1 + 2 ^ (r + 1) ≤ 100000 → left ≤ r + 2 → -100000 ≤ left - 2 ^ (r + 1) → d ≤ 10 →
    ∀ (box : Nat → Option (List (List AV))) (nb k : Nat) (tok : Nat → Bool) (nt : Nat), box k = some [[.d (bytes cs), I at1, I left]] →
    ACalls Try.prog 61 [.ptr k 0 0, a.av, I d] ⟨box, nb, tok, nt⟩ (QMk cs (mkC cs r a d at1 left) k box nb tok nt) := by
  intro n
  induction n with
  | zero => intro r hn; exact absurd hn (Nat.not_lt_zero _)
  | succ n IH =>
    intro r hrn a d at1 left han hae hat hlf hl0 hd box nb k tok nt hk
    have p : 1 ≤ 2 ^ r := Nat.one_le_two_pow
    have p1 : 2 ^ (r + 1) = 2 * 2 ^ r := by rw [Nat.pow_succ]; omega
    have p' : (1 : Int) ≤ 2 ^ r := by have : ((2 ^ r : Nat) : Int) = (2 : Int) ^ r := by simp
                                      omega
    have p1' : (2 : Int) ^ (r + 1) = 2 * 2 ^ r := by rw [Int.pow_succ]; omega
    have hnx := next33_c cs hc at1 left hl (by omega)
    have hwl : IntKind.i64.wrap (left - 1) = left - 1 := wrap_in (by omega) (by omega)
    refine ACalls.of_body Try.func61 rfl (by kernel_rfl) follows_Try (by kernel_rfl) (by simp [Try.ntmps61]) ?_
    intro hbox htok
    simp only at hbox htok
    apply AL.start
    have kn := key_lt hbox hk
    repeat (first | refine AL.seq ?_ | refine AL.block ?_ | refine AL.skip ?_ | refine AL.blk ?_)
    refine AL.region follows_Try (Nat.le_refl _) (by kernel_rfl) ?_
    simp
    repeat (first | refine AL.seq ?_ | refine AL.block ?_ | refine AL.skip ?_ | refine AL.blk ?_)
    refine AL.region follows_Try (Nat.le_refl _) (by kernel_rfl) ?_
    simp [lb_out kn, hk, upd_lb_out kn, upd_same]
    refine Stop.of_a (hnx _ _ k _ _ (by simp only; rw [lb_out kn, hk])) ?_
    rintro v m' ⟨rfl, rfl⟩
    simp [upd_lb_out kn]
    try (simp [lb_out kn, upd_lb_out kn, upd_same, upd_upd, hwl])
    repeat ((repeat (first | refine AL.seq ?_ | refine AL.block ?_ | refine AL.skip ?_ | refine AL.blk ?_)); (refine AL.region follows_Try (Nat.le_refl _) (by kernel_rfl) ?_); simp [lb_out kn, upd_lb_out kn, upd_same, upd_upd, hwl])
    by_cases h2 : left - 1 < 2
    · have hM : mkC cs r a d at1 left = (trueC, at1 + 1, left - 1) := by
        cases r with
        | zero => rfl
        | succ r => simp only [mkC]; rw [if_pos h2]
      have b2 : decide (left - 1 < 2) = true := decide_eq_true h2
      simp only [b2]
      repeat (first | refine AL.seq ?_ | refine AL.block ?_ | refine AL.skip ?_ | refine AL.blk ?_)
      refine AL.cond ?_
      simp
      try (simp)
      repeat ((repeat (first | refine AL.seq ?_ | refine AL.block ?_ | refine AL.skip ?_ | refine AL.blk ?_)); (refine AL.region follows_Try (Nat.le_refl _) (by kernel_rfl) ?_); simp)
      refine Stop.of_d (true33_c _ _) ?_
      simp
      repeat (first | refine AL.seq ?_ | refine AL.block ?_ | refine AL.skip ?_ | refine AL.blk ?_)
      refine AL.ret ?_
      try simp only [AU]
      exact ⟨by simp, (Fin.gen (av := trueC.av) (tok' := tok) (nt' := nt) (by simp [resAs, resA, lk]; rfl) (by rw [← upd_lb_out kn, hbox]) (Nat.le_refl _) (Nat.le_refl _) (fun t ht => ⟨ht, .inl rfl⟩) outM (by simp [packA])).mono fun v m hq => by rw [hM]; exact hq⟩
    · cases r with
      | zero => exact absurd (by omega) h2
      | succ r =>
        have b2 : decide (left - 1 < 2) = false := decide_eq_false h2
        obtain ⟨c0, c1⟩ := code_in hc at1
        have hM : mkC cs (r + 1) a d at1 left = if codeAt cs at1 % 6 = 1 then (cdOf 2 [(mkC cs r a d (at1 + 1) (left - 1)).1], (mkC cs r a d (at1 + 1) (left - 1)).2)
            else if codeAt cs at1 % 6 = 2 ∨ codeAt cs at1 % 6 = 3 then (cdOf (codeAt cs at1 % 6 + 1) [(mkC cs r a d (at1 + 1) (left - 1)).1, (mkC cs r a d (mkC cs r a d (at1 + 1) (left - 1)).2.1 (mkC cs r a d (at1 + 1) (left - 1)).2.2).1], (mkC cs r a d (mkC cs r a d (at1 + 1) (left - 1)).2.1 (mkC cs r a d (at1 + 1) (left - 1)).2.2).2)
            else if codeAt cs at1 % 6 = 4 ∨ codeAt cs at1 % 6 = 5 then if d = 0 then (trueC, at1 + 1, left - 1) else (mkEx a (mkG a (codeAt cs at1)) (mkC cs r (mkG a (codeAt cs at1)) (d - 1) (at1 + 1) (left - 1)).1, (mkC cs r (mkG a (codeAt cs at1)) (d - 1) (at1 + 1) (left - 1)).2)
            else (trueC, at1 + 1, left - 1) := by
          simp only [mkC]; rw [if_neg h2]
        have ih1 := IH r (by omega) a d (at1 + 1) (left - 1) (by omega) (by omega) (by omega) (by omega) (by omega) hd
        have bd1 := mkC_bd cs r a d (at1 + 1) (left - 1)
        generalize mkC cs r a d (at1 + 1) (left - 1) = K1 at *
        have ih2 := IH r (by omega) a d K1.2.1 K1.2.2 (by omega) (by omega) (by omega) (by omega) (by omega) hd
        generalize mkC cs r a d K1.2.1 K1.2.2 = K2 at *
        have hm6 : (codeAt cs at1).tmod 6 = codeAt cs at1 % 6 := Int.tmod_eq_emod_of_nonneg c0
        generalize codeAt cs at1 = c at *
        simp only [b2]
        repeat (first | refine AL.seq ?_ | refine AL.block ?_ | refine AL.skip ?_ | refine AL.blk ?_)
        refine AL.cond ?_
        simp
        try (simp [hm6])
        repeat ((repeat (first | refine AL.seq ?_ | refine AL.block ?_ | refine AL.skip ?_ | refine AL.blk ?_)); (refine AL.region follows_Try (Nat.le_refl _) (by kernel_rfl) ?_); simp [hm6])
        by_cases e1 : c % 6 = 1
        · rw [if_pos e1] at hM
          have be1 : (c % 6 == 1) = true := by simp [e1]
          simp only [be1]
          repeat (first | refine AL.seq ?_ | refine AL.block ?_ | refine AL.skip ?_ | refine AL.blk ?_)
          refine AL.cond ?_
          simp
          try (simp)
          repeat ((repeat (first | refine AL.seq ?_ | refine AL.block ?_ | refine AL.skip ?_ | refine AL.blk ?_)); (refine AL.region follows_Try (Nat.le_refl _) (by kernel_rfl) ?_); simp)
          refine Stop.of_a (ih1 _ _ k _ _ (by simp only; rw [lb_out kn, upd_same]; simp)) ?_
          rintro v m' ⟨rfl, rfl⟩
          simp [upd_lb_out kn, upd_upd]
          try (simp [lb_out kn, upd_same])
          repeat ((repeat (first | refine AL.seq ?_ | refine AL.block ?_ | refine AL.skip ?_ | refine AL.blk ?_)); (refine AL.region follows_Try (Nat.le_refl _) (by kernel_rfl) ?_); simp [lb_out kn, upd_same])
          repeat (first | refine AL.seq ?_ | refine AL.block ?_ | refine AL.skip ?_ | refine AL.blk ?_)
          refine AL.ret ?_
          try simp only [AU]
          exact ⟨by simp, (Fin.gen (av := (cdOf 2 [K1.1]).av) (tok' := tok) (nt' := nt) (by simp [resAs, resA, lk]; rfl) (by rw [← upd_lb_out kn, hbox]) (Nat.le_refl _) (Nat.le_refl _) (fun t ht => ⟨ht, .inl rfl⟩) outM (by simp [packA, cdOf, mkEx, idM, conds, ints, AM.edges, slots, tests, Cd.kind, Cd.kids, Cd.m, Cd.g, Cd.sl, Cd.vars, Cd.te, Cd.cells_eq])).mono fun v m hq => by rw [hM]; exact hq⟩
        · rw [if_neg e1] at hM
          have be1 : (c % 6 == 1) = false := by simp [e1]
          simp only [be1]
          repeat (first | refine AL.seq ?_ | refine AL.block ?_ | refine AL.skip ?_ | refine AL.blk ?_)
          refine AL.cond ?_
          simp
          refine AL.seq ?_
          refine AL.mid ⟨tl [(36, B (decide (c % 6 = 2 ∨ c % 6 = 3))), (27, I (c % 6)), (7, I c), (6, .ptr (nb + 6) 0 0), (4, .ptr (nb + 4) 0 0), (0, .ptr k 0 0), (2, I d)],
            lb nb (upd box k (some [[.d (bytes cs), I (at1 + 1), I (left - 1)]])) [(4, [a.cells2]), (6, [[z0i, nilS, nilS, nilS, nilS, nilS, nilS, z0i, nilS]])], tok, nt⟩ ?_ ?_
          · by_cases e2 : c % 6 = 2
            · try (simp [e2])
              repeat ((repeat (first | refine AL.seq ?_ | refine AL.block ?_ | refine AL.skip ?_ | refine AL.blk ?_)); (refine AL.region follows_Try (Nat.le_refl _) (by kernel_rfl) ?_); simp [e2])
              repeat (first | refine AL.seq ?_ | refine AL.block ?_ | refine AL.skip ?_ | refine AL.blk ?_)
              refine AL.cond ?_
              simp
              repeat (first | refine AL.seq ?_ | refine AL.block ?_ | refine AL.skip ?_ | refine AL.blk ?_)
              refine AL.nil ?_
              exact Weaks.mk' (Nat.le_refl _) (by simp [ToL, lk, e2]; exact to_ptr (by rw [lb_out kn, upd_same]; simp)) (by simp [BoxL, lk]) outM
            · have be2 : (c % 6 == 2) = false := by simp [e2]
              try (simp [be2])
              repeat ((repeat (first | refine AL.seq ?_ | refine AL.block ?_ | refine AL.skip ?_ | refine AL.blk ?_)); (refine AL.region follows_Try (Nat.le_refl _) (by kernel_rfl) ?_); simp [be2])
              repeat (first | refine AL.seq ?_ | refine AL.block ?_ | refine AL.skip ?_ | refine AL.blk ?_)
              refine AL.cond ?_
              simp
              by_cases e3 : c % 6 = 3
              · try (simp [e3])
                repeat ((repeat (first | refine AL.seq ?_ | refine AL.block ?_ | refine AL.skip ?_ | refine AL.blk ?_)); (refine AL.region follows_Try (Nat.le_refl _) (by kernel_rfl) ?_); simp [e3])
                repeat (first | refine AL.seq ?_ | refine AL.block ?_ | refine AL.skip ?_ | refine AL.blk ?_)
                refine AL.nil ?_
                exact Weaks.mk' (Nat.le_refl _) (by simp [ToL, lk, e3]; exact to_ptr (by rw [lb_out kn, upd_same]; simp)) (by simp [BoxL, lk]) outM
              · have be3 : (c % 6 == 3) = false := by simp [e3]
                try (simp [be3])
                repeat ((repeat (first | refine AL.seq ?_ | refine AL.block ?_ | refine AL.skip ?_ | refine AL.blk ?_)); (refine AL.region follows_Try (Nat.le_refl _) (by kernel_rfl) ?_); simp [be3])
                repeat (first | refine AL.seq ?_ | refine AL.block ?_ | refine AL.skip ?_ | refine AL.blk ?_)
                refine AL.nil ?_
                exact Weaks.mk' (Nat.le_refl _) (by simp [ToL, lk, e2, e3]; exact to_ptr (by rw [lb_out kn, upd_same]; simp)) (by simp [BoxL, lk]) outM
          · by_cases e23 : c % 6 = 2 ∨ c % 6 = 3
            · rw [if_pos e23] at hM
              have d23 : decide (c % 6 = 2 ∨ c % 6 = 3) = true := decide_eq_true e23
              simp only [d23]
              repeat (first | refine AL.seq ?_ | refine AL.block ?_ | refine AL.skip ?_ | refine AL.blk ?_)
              refine AL.cond ?_
              simp
              try (simp [lb_out kn, upd_same])
              repeat ((repeat (first | refine AL.seq ?_ | refine AL.block ?_ | refine AL.skip ?_ | refine AL.blk ?_)); (refine AL.region follows_Try (Nat.le_refl _) (by kernel_rfl) ?_); simp [lb_out kn, upd_same])
              refine Stop.of_a (ih1 _ _ k _ _ (by simp only; rw [lb_out kn, upd_same]; simp)) ?_
              rintro v m' ⟨rfl, rfl⟩
              simp [upd_lb_out kn, upd_upd]
              have hne8 : nb + 8 ≠ k := by omega
              have hk1 : IntKind.i64.wrap (3 + c % 6) = 3 + c % 6 := wrap_in (by omega) (by omega)
              have hk2 : IntKind.i64.wrap (3 + c % 6 - 2) = c % 6 + 1 := by rw [wrap_in (by omega) (by omega)]; omega
              repeat (first | refine AL.seq ?_ | refine AL.block ?_ | refine AL.skip ?_ | refine AL.blk ?_)
              refine AL.region3 follows_Try (Nat.le_refl _) (by kernel_rfl) (Side.of (by simp)) [(Operand.tmp 8, Operand.tmp 48)] (by kernel_rfl) ?_
              simp [lb_out kn, upd_lb_out kn, upd_same, hm6, hk1, hk2]
              refine StopW.of_w rfl rfl (by simp only; rw [lb_out kn, upd_same]; simp) (fun box' nb' hb' => (ih2 box' nb' k tok nt (by rw [hb']; simp only; rw [lb_out kn, upd_same])).mono fun v m1 hq => ⟨hq.1, hq.2⟩) ?_
              simp [lb_out kn, upd_lb_out kn, upd_same, upd_upd, NK, hne8]
              refine ⟨by decide, ?_⟩
              repeat (first | refine AL.seq ?_ | refine AL.block ?_ | refine AL.skip ?_ | refine AL.blk ?_)
              refine AL.ret ?_
              try simp only [AU]
              exact ⟨by simp, (Fin.gen (av := (cdOf (c % 6 + 1) [K1.1, K2.1]).av) (tok' := tok) (nt' := nt) (by simp [resAs, resA, lk]; rfl) (by rw [← upd_lb_out kn, hbox]) (Nat.le_refl _) (Nat.le_refl _) (fun t ht => ⟨ht, .inl rfl⟩) outM (by simp [packA, cdOf, mkEx, idM, conds, ints, AM.edges, slots, tests, Cd.kind, Cd.kids, Cd.m, Cd.g, Cd.sl, Cd.vars, Cd.te, Cd.cells_eq])).mono fun v m hq => by rw [hM]; exact hq⟩
            · rw [if_neg e23] at hM
              have d23 : decide (c % 6 = 2 ∨ c % 6 = 3) = false := decide_eq_false e23
              simp only [d23]
              repeat (first | refine AL.seq ?_ | refine AL.block ?_ | refine AL.skip ?_ | refine AL.blk ?_)
              refine AL.cond ?_
              simp
              refine AL.seq ?_
              refine AL.mid ⟨tl [(54, B (decide (c % 6 = 4 ∨ c % 6 = 5))), (27, I (c % 6)), (7, I c), (6, .ptr (nb + 6) 0 0), (4, .ptr (nb + 4) 0 0), (0, .ptr k 0 0), (2, I d)],
                lb nb (upd box k (some [[.d (bytes cs), I (at1 + 1), I (left - 1)]])) [(4, [a.cells2]), (6, [[z0i, nilS, nilS, nilS, nilS, nilS, nilS, z0i, nilS]])], tok, nt⟩ ?_ ?_
              · by_cases e2 : c % 6 = 4
                · try (simp [e2])
                  repeat ((repeat (first | refine AL.seq ?_ | refine AL.block ?_ | refine AL.skip ?_ | refine AL.blk ?_)); (refine AL.region follows_Try (Nat.le_refl _) (by kernel_rfl) ?_); simp [e2])
                  repeat (first | refine AL.seq ?_ | refine AL.block ?_ | refine AL.skip ?_ | refine AL.blk ?_)
                  refine AL.cond ?_
                  simp
                  repeat (first | refine AL.seq ?_ | refine AL.block ?_ | refine AL.skip ?_ | refine AL.blk ?_)
                  refine AL.nil ?_
                  exact Weaks.mk' (Nat.le_refl _) (by simp [ToL, lk, e2]; exact to_ptr (by rw [lb_out kn, upd_same]; simp)) (by simp [BoxL, lk]) outM
                · have be2 : (c % 6 == 4) = false := by simp [e2]
                  try (simp [be2])
                  repeat ((repeat (first | refine AL.seq ?_ | refine AL.block ?_ | refine AL.skip ?_ | refine AL.blk ?_)); (refine AL.region follows_Try (Nat.le_refl _) (by kernel_rfl) ?_); simp [be2])
                  repeat (first | refine AL.seq ?_ | refine AL.block ?_ | refine AL.skip ?_ | refine AL.blk ?_)
                  refine AL.cond ?_
                  simp
                  by_cases e3 : c % 6 = 5
                  · try (simp [e3])
                    repeat ((repeat (first | refine AL.seq ?_ | refine AL.block ?_ | refine AL.skip ?_ | refine AL.blk ?_)); (refine AL.region follows_Try (Nat.le_refl _) (by kernel_rfl) ?_); simp [e3])
                    repeat (first | refine AL.seq ?_ | refine AL.block ?_ | refine AL.skip ?_ | refine AL.blk ?_)
                    refine AL.nil ?_
                    exact Weaks.mk' (Nat.le_refl _) (by simp [ToL, lk, e3]; exact to_ptr (by rw [lb_out kn, upd_same]; simp)) (by simp [BoxL, lk]) outM
                  · have be3 : (c % 6 == 5) = false := by simp [e3]
                    try (simp [be3])
                    repeat ((repeat (first | refine AL.seq ?_ | refine AL.block ?_ | refine AL.skip ?_ | refine AL.blk ?_)); (refine AL.region follows_Try (Nat.le_refl _) (by kernel_rfl) ?_); simp [be3])
                    repeat (first | refine AL.seq ?_ | refine AL.block ?_ | refine AL.skip ?_ | refine AL.blk ?_)
                    refine AL.nil ?_
                    exact Weaks.mk' (Nat.le_refl _) (by simp [ToL, lk, e2, e3]; exact to_ptr (by rw [lb_out kn, upd_same]; simp)) (by simp [BoxL, lk]) outM
              · by_cases e45 : c % 6 = 4 ∨ c % 6 = 5
                · rw [if_pos e45] at hM
                  have d45 : decide (c % 6 = 4 ∨ c % 6 = 5) = true := decide_eq_true e45
                  simp only [d45]
                  repeat (first | refine AL.seq ?_ | refine AL.block ?_ | refine AL.skip ?_ | refine AL.blk ?_)
                  refine AL.cond ?_
                  simp
                  try (simp)
                  repeat ((repeat (first | refine AL.seq ?_ | refine AL.block ?_ | refine AL.skip ?_ | refine AL.blk ?_)); (refine AL.region follows_Try (Nat.le_refl _) (by kernel_rfl) ?_); simp)
                  by_cases hd0 : d = 0
                  · rw [if_pos hd0] at hM
                    have bd0 : ((d : Int) == 0) = true := by simp [hd0]
                    simp only [bd0]
                    repeat (first | refine AL.seq ?_ | refine AL.block ?_ | refine AL.skip ?_ | refine AL.blk ?_)
                    refine AL.cond ?_
                    simp
                    try (simp)
                    repeat ((repeat (first | refine AL.seq ?_ | refine AL.block ?_ | refine AL.skip ?_ | refine AL.blk ?_)); (refine AL.region follows_Try (Nat.le_refl _) (by kernel_rfl) ?_); simp)
                    refine Stop.of_d (true33_c _ _) ?_
                    simp
                    repeat (first | refine AL.seq ?_ | refine AL.block ?_ | refine AL.skip ?_ | refine AL.blk ?_)
                    refine AL.ret ?_
                    try simp only [AU]
                    exact ⟨by simp, (Fin.gen (av := trueC.av) (tok' := tok) (nt' := nt) (by simp [resAs, resA, lk]; rfl) (by rw [← upd_lb_out kn, hbox]) (Nat.le_refl _) (Nat.le_refl _) (fun t ht => ⟨ht, .inl rfl⟩) outM (by simp [packA, cdOf, mkEx, idM, conds, ints, AM.edges, slots, tests, Cd.kind, Cd.kids, Cd.m, Cd.g, Cd.sl, Cd.vars, Cd.te, Cd.cells_eq])).mono fun v m hq => by rw [hM]; exact hq⟩
                  · rw [if_neg hd0] at hM
                    have bd0 : ((d : Int) == 0) = false := by simp [hd0]
                    simp only [bd0]
                    repeat (first | refine AL.seq ?_ | refine AL.block ?_ | refine AL.skip ?_ | refine AL.blk ?_)
                    refine AL.cond ?_
                    simp
                    have hfa : a.Fit := ⟨by omega, by omega⟩
                    have hcp := copied_c a hfa
                    repeat (first | refine AL.seq ?_ | refine AL.block ?_ | refine AL.skip ?_ | refine AL.blk ?_)
                    refine AL.region follows_Try (Nat.le_refl _) (by kernel_rfl) ?_
                    simp
                    refine Stop.of_d (hcp _ _) ?_
                    simp
                    refine AL.seq ?_
                    have CB := codeB c0 c1
                    have htk0 := (TK.start htok).full.app.full.app.swap
                    have hml := mkG_len a c
                    refine AL.midT (stM1 a cs (mkG a c).nodes c at1 (left - 1) d k nb box) (fun y => TK tok nt y.tok y.nt [y.o1, y.o2]) ?_ ?_
                    · have hn := mkG_nodes a c
                      by_cases z : a.nodes.length = 0
                      · have hn1 : (mkG a c).nodes = a.nodes ++ [c / 32 % 3] := by rw [hn, if_pos (.inl z)]
                        have bz : ((a.nodes.length : Int) == 0) = true := by simp [z]
                        try (simp [bz])
                        repeat ((repeat (first | refine AL.seq ?_ | refine AL.block ?_ | refine AL.skip ?_ | refine AL.blk ?_)); (refine AL.region follows_Try (Nat.le_refl _) (by kernel_rfl) ?_); simp [bz])
                        repeat (first | refine AL.seq ?_ | refine AL.block ?_ | refine AL.skip ?_ | refine AL.blk ?_)
                        refine AL.cond ?_
                        simp
                        try (simp [CB.d32, CB.t32])
                        repeat ((repeat (first | refine AL.seq ?_ | refine AL.block ?_ | refine AL.skip ?_ | refine AL.blk ?_)); (refine AL.region follows_Try (Nat.le_refl _) (by kernel_rfl) ?_); simp [CB.d32, CB.t32])
                        refine ⟨⟨by omega, htk0.live⟩, ?_⟩
                        try (simp)
                        repeat ((repeat (first | refine AL.seq ?_ | refine AL.block ?_ | refine AL.skip ?_ | refine AL.blk ?_)); (refine AL.region follows_Try (Nat.le_refl _) (by kernel_rfl) ?_); simp)
                        repeat (first | refine AL.seq ?_ | refine AL.block ?_ | refine AL.skip ?_ | refine AL.blk ?_)
                        refine AL.nil ?_
                        refine ⟨⟨0, .tok (nt + 2), .tok (nt + 1), _, _⟩, htk0.app, ?_⟩
                        simp only [stM1, hn1]
                        exact Weaks.mk' htk0.app.le (by simp [ToL, lk]; exact to_ptr (by rw [lb_out kn, upd_same]; simp)) (by simp [BoxL, lk]) outM
                      · have bz : ((a.nodes.length : Int) == 0) = false := by simp [z]
                        by_cases q : c / 8 % 3 = 2
                        · have hn1 : (mkG a c).nodes = a.nodes := by rw [hn, if_neg (by simp [z, q])]
                          try (simp [bz, CB.d8, CB.t8, q])
                          repeat ((repeat (first | refine AL.seq ?_ | refine AL.block ?_ | refine AL.skip ?_ | refine AL.blk ?_)); (refine AL.region follows_Try (Nat.le_refl _) (by kernel_rfl) ?_); simp [bz, CB.d8, CB.t8, q])
                          repeat (first | refine AL.seq ?_ | refine AL.block ?_ | refine AL.skip ?_ | refine AL.blk ?_)
                          refine AL.cond ?_
                          simp
                          repeat (first | refine AL.seq ?_ | refine AL.block ?_ | refine AL.skip ?_ | refine AL.blk ?_)
                          refine AL.nil ?_
                          refine ⟨⟨0, .tok nt, .tok (nt + 1), _, _⟩, htk0, ?_⟩
                          simp only [stM1, hn1]
                          exact Weaks.mk' htk0.le (by simp [ToL, lk]; exact to_ptr (by rw [lb_out kn, upd_same]; simp)) (by simp [BoxL, lk]) outM
                        · have bq : (c / 8 % 3 != 2) = true := by simp [q]
                          by_cases l4 : a.nodes.length < 4
                          · have hn1 : (mkG a c).nodes = a.nodes ++ [c / 32 % 3] := by rw [hn, if_pos (.inr ⟨q, l4⟩)]
                            have l4' : (a.nodes.length : Int) < 4 := by omega
                            try (simp [bz, CB.d8, CB.t8, bq, l4, l4'])
                            repeat ((repeat (first | refine AL.seq ?_ | refine AL.block ?_ | refine AL.skip ?_ | refine AL.blk ?_)); (refine AL.region follows_Try (Nat.le_refl _) (by kernel_rfl) ?_); simp [bz, CB.d8, CB.t8, bq, l4, l4'])
                            repeat (first | refine AL.seq ?_ | refine AL.block ?_ | refine AL.skip ?_ | refine AL.blk ?_)
                            refine AL.cond ?_
                            simp
                            try (simp [CB.d32, CB.t32])
                            repeat ((repeat (first | refine AL.seq ?_ | refine AL.block ?_ | refine AL.skip ?_ | refine AL.blk ?_)); (refine AL.region follows_Try (Nat.le_refl _) (by kernel_rfl) ?_); simp [CB.d32, CB.t32])
                            refine ⟨⟨by omega, htk0.live⟩, ?_⟩
                            try (simp)
                            repeat ((repeat (first | refine AL.seq ?_ | refine AL.block ?_ | refine AL.skip ?_ | refine AL.blk ?_)); (refine AL.region follows_Try (Nat.le_refl _) (by kernel_rfl) ?_); simp)
                            repeat (first | refine AL.seq ?_ | refine AL.block ?_ | refine AL.skip ?_ | refine AL.blk ?_)
                            refine AL.nil ?_
                            refine ⟨⟨0, .tok (nt + 2), .tok (nt + 1), _, _⟩, htk0.app, ?_⟩
                            simp only [stM1, hn1]
                            exact Weaks.mk' htk0.app.le (by simp [ToL, lk]; exact to_ptr (by rw [lb_out kn, upd_same]; simp)) (by simp [BoxL, lk]) outM
                          · have hn1 : (mkG a c).nodes = a.nodes := by rw [hn, if_neg (by simp [z, l4])]
                            have l4' : ¬ (a.nodes.length : Int) < 4 := by omega
                            try (simp [bz, CB.d8, CB.t8, bq, l4, l4'])
                            repeat ((repeat (first | refine AL.seq ?_ | refine AL.block ?_ | refine AL.skip ?_ | refine AL.blk ?_)); (refine AL.region follows_Try (Nat.le_refl _) (by kernel_rfl) ?_); simp [bz, CB.d8, CB.t8, bq, l4, l4'])
                            repeat (first | refine AL.seq ?_ | refine AL.block ?_ | refine AL.skip ?_ | refine AL.blk ?_)
                            refine AL.cond ?_
                            simp
                            repeat (first | refine AL.seq ?_ | refine AL.block ?_ | refine AL.skip ?_ | refine AL.blk ?_)
                            refine AL.nil ?_
                            refine ⟨⟨0, .tok nt, .tok (nt + 1), _, _⟩, htk0, ?_⟩
                            simp only [stM1, hn1]
                            exact Weaks.mk' htk0.le (by simp [ToL, lk]; exact to_ptr (by rw [lb_out kn, upd_same]; simp)) (by simp [BoxL, lk]) outM
                    · rintro ⟨_, o1, o2, tok1, nt1⟩ htk1
                      simp only at htk1
                      simp only [stM1]
                      refine AL.seq ?_
                      have ih3 := IH r (by omega) (mkG a c) (d - 1) (at1 + 1) (left - 1) (by omega) (by omega) (by omega) (by omega) (by omega) (by omega)
                      generalize hK3 : mkC cs r (mkG a c) (d - 1) (at1 + 1) (left - 1) = K3 at *
                      have hwd : IntKind.i64.wrap ((d : Int) - 1) = ((d - 1 : Nat) : Int) := by rw [wrap_in (by omega) (by omega)]; omega
                      have hnn : ((mkG a c).nodes.length : Int) ≠ 0 := by omega
                      have hwn : IntKind.i64.wrap (((mkG a c).nodes.length : Int) - 1) = ((mkG a c).nodes.length : Int) - 1 := wrap_in (by omega) (by omega)
                      have hn := mkG_edges a c
                      generalize hG : mkG a c = G at *
                      refine AL.midT (stM2 a cs G c at1 (left - 1) d k nb box) (fun y => (∀ t, tok t = true → y.tok t = true) ∧ nt ≤ y.nt) ?_ ?_
                      · by_cases q0 : c / 8 % 3 = 0
                        · have hn2 : G.edges = a.edges := by rw [hn, if_neg (by simp [q0])]
                          try (simp [CB.d8, CB.t8, q0])
                          repeat ((repeat (first | refine AL.seq ?_ | refine AL.block ?_ | refine AL.skip ?_ | refine AL.blk ?_)); (refine AL.region follows_Try (Nat.le_refl _) (by kernel_rfl) ?_); simp [CB.d8, CB.t8, q0])
                          repeat (first | refine AL.seq ?_ | refine AL.block ?_ | refine AL.skip ?_ | refine AL.blk ?_)
                          refine AL.cond ?_
                          simp
                          repeat (first | refine AL.seq ?_ | refine AL.block ?_ | refine AL.skip ?_ | refine AL.blk ?_)
                          refine AL.nil ?_
                          refine ⟨⟨0, .full, .full, _, _⟩, ⟨htk1.old, htk1.le⟩, ?_⟩
                          simp only [stM2, hn2]
                          exact Weaks.mk' htk1.le (by simp [ToL, lk]; exact to_ptr (by rw [lb_out kn, upd_same]; simp)) (by simp [BoxL, lk, AM.edges, hn2]) outM
                        · have bq0 : (c / 8 % 3 != 0) = true := by simp [q0]
                          by_cases l3 : a.edges.length < 3
                          · have hn2 : G.edges = a.edges ++ [⟨c / 64 % 2, c / 16 % G.nodes.length, G.nodes.length - 1⟩] := by rw [hn, if_pos ⟨q0, l3⟩]
                            have l3' : (a.edges.length : Int) < 3 := by omega
                            try (simp [CB.d8, CB.t8, bq0, l3, l3'])
                            repeat ((repeat (first | refine AL.seq ?_ | refine AL.block ?_ | refine AL.skip ?_ | refine AL.blk ?_)); (refine AL.region follows_Try (Nat.le_refl _) (by kernel_rfl) ?_); simp [CB.d8, CB.t8, bq0, l3, l3'])
                            repeat (first | refine AL.seq ?_ | refine AL.block ?_ | refine AL.skip ?_ | refine AL.blk ?_)
                            refine AL.cond ?_
                            simp
                            try (simp [CB.d64, CB.t64, CB.d16, CB.n16, hnn, hwn])
                            repeat ((repeat (first | refine AL.seq ?_ | refine AL.block ?_ | refine AL.skip ?_ | refine AL.blk ?_)); (refine AL.region follows_Try (Nat.le_refl _) (by kernel_rfl) ?_); simp [CB.d64, CB.t64, CB.d16, CB.n16, hnn, hwn])
                            refine ⟨by intro e; rw [e] at hml; simp at hml, ⟨by omega, htk1.swap.live⟩, ?_⟩
                            try (simp)
                            repeat ((repeat (first | refine AL.seq ?_ | refine AL.block ?_ | refine AL.skip ?_ | refine AL.blk ?_)); (refine AL.region follows_Try (Nat.le_refl _) (by kernel_rfl) ?_); simp)
                            repeat (first | refine AL.seq ?_ | refine AL.block ?_ | refine AL.skip ?_ | refine AL.blk ?_)
                            refine AL.nil ?_
                            refine ⟨⟨0, .full, .full, _, _⟩, ⟨htk1.swap.app.old, htk1.swap.app.le⟩, ?_⟩
                            simp only [stM2, hn2]
                            exact Weaks.mk' htk1.swap.app.le (by simp [ToL, lk]; exact to_ptr (by rw [lb_out kn, upd_same]; simp)) (by simp [BoxL, lk, AM.edges, hn2]) outM
                          · have hn2 : G.edges = a.edges := by rw [hn, if_neg (by simp [l3])]
                            have l3' : ¬ (a.edges.length : Int) < 3 := by omega
                            try (simp [CB.d8, CB.t8, bq0, l3, l3'])
                            repeat ((repeat (first | refine AL.seq ?_ | refine AL.block ?_ | refine AL.skip ?_ | refine AL.blk ?_)); (refine AL.region follows_Try (Nat.le_refl _) (by kernel_rfl) ?_); simp [CB.d8, CB.t8, bq0, l3, l3'])
                            repeat (first | refine AL.seq ?_ | refine AL.block ?_ | refine AL.skip ?_ | refine AL.blk ?_)
                            refine AL.cond ?_
                            simp
                            repeat (first | refine AL.seq ?_ | refine AL.block ?_ | refine AL.skip ?_ | refine AL.blk ?_)
                            refine AL.nil ?_
                            refine ⟨⟨0, .full, .full, _, _⟩, ⟨htk1.old, htk1.le⟩, ?_⟩
                            simp only [stM2, hn2]
                            exact Weaks.mk' htk1.le (by simp [ToL, lk]; exact to_ptr (by rw [lb_out kn, upd_same]; simp)) (by simp [BoxL, lk, AM.edges, hn2]) outM
                      · rintro ⟨_, _, _, tok2, nt2⟩ ⟨hold, hle2⟩
                        simp only at hold hle2
                        simp only [stM2]
                        have hof := of_c a hfa
                        have hne9 : nb + 9 ≠ k := by omega
                        repeat (first | refine AL.seq ?_ | refine AL.block ?_ | refine AL.skip ?_ | refine AL.blk ?_)
                        refine AL.region3 follows_Try (Nat.le_refl _) (by kernel_rfl) (Side.of (by simp)) [(Operand.tmp 114, Operand.tmp 9), (Operand.tmp 114, Operand.tmp 9), (Operand.tmp 9, Operand.tmp 118)] (by kernel_rfl) ?_
                        simp [lb_out kn, upd_lb_out kn, upd_same, hwd]
                        refine StopW.of_d (hof _ _) ?_
                        simp [lb_out kn, upd_lb_out kn, upd_same, hwd]
                        refine StopW.of_w rfl rfl (by simp only; rw [lb_out kn, upd_same]; simp) (fun box' nb' hb' => (ih3 box' nb' k tok2 nt2 (by rw [hb']; simp only; rw [lb_out kn, upd_same]; simp)).mono fun v m1 hq => ⟨hq.1, hq.2⟩) ?_
                        simp [lb_out kn, upd_lb_out kn, upd_same, upd_upd, NK, hne9]
                        repeat (first | refine AL.seq ?_ | refine AL.block ?_ | refine AL.skip ?_ | refine AL.blk ?_)
                        refine AL.ret ?_
                        try simp only [AU]
                        exact ⟨by simp, (Fin.gen (av := (mkEx a G K3.1).av) (tok' := tok) (nt' := nt) (by simp [resAs, resA, lk]; rfl) (by rw [← upd_lb_out kn, hbox]) (Nat.le_refl _) hle2 (fun t ht => ⟨hold t ht, .inr (htok t ht)⟩) outM (by simp [packA, cdOf, mkEx, idM, conds, ints, AM.edges, slots, tests, Cd.kind, Cd.kids, Cd.m, Cd.g, Cd.sl, Cd.vars, Cd.te, Cd.cells_eq])).mono fun v m hq => by rw [hM]; exact hq⟩
                · rw [if_neg e45] at hM
                  have d45 : decide (c % 6 = 4 ∨ c % 6 = 5) = false := decide_eq_false e45
                  simp only [d45]
                  repeat (first | refine AL.seq ?_ | refine AL.block ?_ | refine AL.skip ?_ | refine AL.blk ?_)
                  refine AL.cond ?_
                  simp
                  try (simp)
                  repeat ((repeat (first | refine AL.seq ?_ | refine AL.block ?_ | refine AL.skip ?_ | refine AL.blk ?_)); (refine AL.region follows_Try (Nat.le_refl _) (by kernel_rfl) ?_); simp)
                  refine Stop.of_d (true33_c _ _) ?_
                  simp
                  repeat (first | refine AL.seq ?_ | refine AL.block ?_ | refine AL.skip ?_ | refine AL.blk ?_)
                  refine AL.ret ?_
                  try simp only [AU]
                  exact ⟨by simp, (Fin.gen (av := trueC.av) (tok' := tok) (nt' := nt) (by simp [resAs, resA, lk]; rfl) (by rw [← upd_lb_out kn, hbox]) (Nat.le_refl _) (Nat.le_refl _) (fun t ht => ⟨ht, .inl rfl⟩) outM (by simp [packA, cdOf, mkEx, idM, conds, ints, AM.edges, slots, tests, Cd.kind, Cd.kids, Cd.m, Cd.g, Cd.sl, Cd.vars, Cd.te, Cd.cells_eq])).mono fun v m hq => by rw [hM]; exact hq⟩
end Go.AM
/-
  Shifting from another count; the error of shifting; morphisms behind the identity.
-/
namespace Go.AM
open Go Go.Proofs
set_option linter.unusedSimpArgs false
set_option linter.unusedVariables false

def E03 (e : Int) : Prop := e = 0 ∨ e = 3
theorem st1_err {st : St2} (h : E03 st.2) : E03 (st1 st).2 := by
  unfold st1
  simp only
  split
  · exact .inr rfl
  · exact h
theorem seqL_err {α : Type} {f : α → St2 → List Cd × St2} : ∀ (l : List α) (s : St2), (∀ x ∈ l, ∀ s : St2, E03 s.2 → E03 (f x s).2.2) → E03 s.2 → E03 (seqL f l s).2.2
  | [], s, _, h => h
  | x :: r, s, h, hs => seqL_err r (f x s).2 (fun y hy => h y (by simp [hy])) (h x (by simp) s hs)
theorem shf_err : ∀ (n : Nat) (c : Cd), SizeOf.sizeOf c < n → ∀ a, c.ovr a = 0 → ∀ b, validG b = 0 → ∀ m (st : St2), E03 st.2 → E03 (c.shf b m st).2.2
  | 0, c, hn, _, _, _, _, _, _, _ => absurd hn (Nat.not_lt_zero _)
  | n + 1, c, hn, a, hv, b, hb, m, st, hs => by
    have ih := fun x (hx : x ∈ c.kids) => shf_err n x (by have := Cd.kid_lt hx; omega) (c.inn a) ((Cd.ovr_zero hv).2.2 x hx)
    have h1 := st1_err hs
    rw [c.shf_eq]
    unfold shStep
    split
    · exact h1
    · split
      · exact seqL_err _ _ (fun x hx s hs => ih x hx b hb m s hs) h1
      · rename_i k5
        have k5' : c.kind = 5 := Decidable.not_not.1 k5
        obtain ⟨hx, x, hkx⟩ := ovr_ex hv k5'
        split
        · exact overlapsR_err hb hx.vm.vb
        · refine seqL_err _ _ (fun o ho s hs => ?_) h1
          by_cases ha : agrO m c.m o = true
          · rw [ovF, if_pos ha]
            simp only
            rw [hkx, Cd.shfH]
            exact ih x (by rw [hkx]; simp) o.g (ovs_emb ho).1.vm.vb o.r _ hs
          · rw [ovF, if_neg ha]; exact hs

def up (k : Int) (s : St2) : St2 := (s.1 + k, s.2)
/-! ### Behind the identity -/
theorem byK_iota {n : Nat} {l : List Int} (h : n ≤ l.length) : byK (iota n) l (iota n).length = l.take n := by
  refine ext_getD (by simp; omega) fun j hj => ?_
  rw [byK_all, iota_length] at hj
  rw [byK_getD (by simpa using hj), iota_getD hj, Int.toNat_natCast]
  simp only [List.getD_eq_getElem?_getD]
  rw [List.getElem?_take_of_lt hj]
theorem thenM_id {a : Gr} {n : Mo} (h1 : a.nodes.length ≤ n.nodes.length) (h2 : a.edges.length ≤ n.edges.length) : thenM (idM a) n = ⟨n.nodes.take a.nodes.length, n.edges.take a.edges.length⟩ := by
  simp only [thenM, idM, byK_iota h1, byK_iota h2]
theorem nodup_iota (n : Nat) : (iota n).Nodup := by
  rw [nodup_getD]
  intro i j hij hj
  rw [iota_length] at hj
  rw [iota_getD (by omega), iota_getD hj]
  omega
theorem mem_iota {x : Int} {n : Nat} (h : x ∈ iota n) : 0 ≤ x ∧ x < n := by
  obtain ⟨i, hi, rfl⟩ := List.mem_map.1 h
  have := List.mem_range.1 hi
  omega
/-- A graph that goes on. -/
structure Pre (a b : Gr) : Prop where
  va : validG a = 0
  vb : validG b = 0
  n : ∃ t, b.nodes = a.nodes ++ t
  e : ∃ t, b.edges = a.edges ++ t
theorem Pre.emb {a b : Gr} (h : Pre a b) : Emb a b (idM a) := by
  obtain ⟨t, ht⟩ := h.n
  obtain ⟨u, hu⟩ := h.e
  have ea := validG_edges h.va
  refine ⟨validM_of ⟨h.va, h.vb, by simp [idM], by simp [idM], fun x hx => ?_, fun x hx => ?_, fun i hi => ?_, fun i hi => ?_⟩, nodup_iota _, nodup_iota _⟩
  · have := mem_iota (show x ∈ iota a.nodes.length from hx)
    rw [ht]; simp only [List.length_append]; omega
  · have := mem_iota (show x ∈ iota a.edges.length from hx)
    rw [hu]; simp only [List.length_append]; omega
  · simp only [idM]
    rw [iota_getD hi, Int.toNat_natCast, ht, getD_pre hi]
  · simp only [idM]
    have hx := ea (a.edges.getD i default) (getD_mem hi)
    rw [iota_getD hi, Int.toNat_natCast, hu, getD_pre hi, iota_getD (by omega), iota_getD (by omega)]
    rw [Int.toNat_of_nonneg hx.1, Int.toNat_of_nonneg hx.2.2.1]
theorem Pre.refl {a : Gr} (h : validG a = 0) : Pre a a := ⟨h, h, ⟨[], by simp⟩, ⟨[], by simp⟩⟩
theorem emb_nil {b : Gr} (h : validG b = 0) : Emb ⟨[], []⟩ b ⟨[], []⟩ := (Pre.emb (a := ⟨[], []⟩) ⟨rfl, h, ⟨b.nodes, rfl⟩, ⟨b.edges, rfl⟩⟩)
end Go.AM
/-
  Graphs that go on, and conditions that codes describe, are valid and small.
-/
namespace Go.AM
open Go Go.Proofs
set_option linter.unusedSimpArgs false
set_option linter.unusedVariables false

theorem within_of {n m : Int} (h0 : 0 ≤ n) (h1 : n ≤ m) : withinB n m = true := by simp [withinB, h0, h1]
/-- One node more, or one edge more. -/
theorem pre_node {a : Gr} (h : validG a = 0) (hl : a.nodes.length < 40) {n : Int} (hn : 0 ≤ n ∧ n ≤ 99) : Pre a ⟨a.nodes ++ [n], a.edges⟩ := by
  obtain ⟨h0, h1, h2⟩ := validG_types h
  refine ⟨h, validG_of ⟨by simp; omega, h0.2⟩ (fun x hx => ?_) (fun e he => ?_), ⟨[n], rfl⟩, ⟨[], by simp⟩⟩
  · rcases List.mem_append.1 hx with hx | hx
    · exact h1 x hx
    · rw [List.mem_singleton] at hx; subst hx; exact within_of hn.1 hn.2
  · have := h2 e he
    rw [fitsB_iff] at this ⊢
    obtain ⟨t1, t2, t3⟩ := this
    simp only [List.length_append, List.length_cons, List.length_nil]
    exact ⟨t1, by omega, by omega⟩
theorem pre_edge {a : Gr} (h : validG a = 0) (hl : a.edges.length < 80) {e : E} (he : fitsB e a.nodes.length = true) : Pre a ⟨a.nodes, a.edges ++ [e]⟩ := by
  obtain ⟨h0, h1, h2⟩ := validG_types h
  refine ⟨h, validG_of ⟨h0.1, by simp; omega⟩ h1 (fun x hx => ?_), ⟨[], by simp⟩, ⟨[e], rfl⟩⟩
  rcases List.mem_append.1 hx with hx | hx
  · exact h2 x hx
  · rw [List.mem_singleton] at hx; subst hx; exact he
theorem Pre.trans {a b c : Gr} (h : Pre a b) (k : Pre b c) : Pre a c := by
  obtain ⟨t, ht⟩ := h.n
  obtain ⟨u, hu⟩ := h.e
  obtain ⟨t', ht'⟩ := k.n
  obtain ⟨u', hu'⟩ := k.e
  exact ⟨h.va, k.vb, ⟨t ++ t', by rw [ht', ht, List.append_assoc]⟩, ⟨u ++ u', by rw [hu', hu, List.append_assoc]⟩⟩

theorem growK_pre (g : Gr) (cs : List Int) (most : Nat) (hc : U8s cs) (hv : validG g = 0) : ∀ i, i ≤ cs.length → g.nodes.length + i ≤ 40 → g.edges.length + i ≤ 80 → Pre g ⟨(growK g cs most i).1, (growK g cs most i).2⟩
  | 0, _, _, _ => by simp only [growK, List.take_zero, List.foldl_nil]; exact Pre.refl hv
  | i + 1, hi, h1, h2 => by
    have ih := growK_pre g cs most hc hv i (by omega) (by omega) (by omega)
    by_cases hm : most ≤ i
    · rw [growK_no g cs hm]; exact ih
    · rw [growK_yes g cs hm (by omega)]
      have hlen := growK_len g cs most i
      obtain ⟨c0, c1⟩ := hc _ (List.getElem_mem (show i < cs.length by omega))
      generalize cs[i] = c at *
      generalize growK g cs most i = K at *
      unfold growS
      split
      · exact ih.trans (pre_node ih.vb (by simp only; omega) (n := c / 2 % 3) (by omega))
      · rename_i hn
        simp only [not_or] at hn
        have hp : 0 < (K.1.length : Int) := by omega
        refine ih.trans (pre_edge ih.vb (by simp only; omega) ?_)
        rw [fitsB_iff]
        have e1 := Int.emod_nonneg (c / 4) (show (K.1.length : Int) ≠ 0 by omega)
        have e2 := Int.emod_lt_of_pos (c / 4) hp
        have e3 := Int.emod_nonneg (c / 16) (show (K.1.length : Int) ≠ 0 by omega)
        have e4 := Int.emod_lt_of_pos (c / 16) hp
        exact ⟨within_of (by simp only; omega) (by simp only; omega), ⟨e1, e2⟩, ⟨e3, e4⟩⟩
theorem growK_most (g : Gr) (cs : List Int) (most : Nat) : ∀ i, (growK g cs most i).1.length ≤ g.nodes.length + most ∧ (growK g cs most i).2.length ≤ g.edges.length + most
  | 0 => by simp [growK]
  | i + 1 => by
    by_cases hm : most ≤ i
    · rw [growK_no g cs hm]; exact growK_most g cs most i
    · have := growK_len g cs most (i + 1); omega
theorem growR_pre (g : Gr) (cs : List Int) (most : Nat) (hc : U8s cs) (hv : validG g = 0) (h1 : g.nodes.length + cs.length ≤ 40) (h2 : g.edges.length + cs.length ≤ 80) : Pre g (growR g cs most) := growK_pre g cs most hc hv _ (Nat.le_refl _) h1 h2
theorem growR_len (g : Gr) (cs : List Int) (most : Nat) : (growR g cs most).nodes.length ≤ g.nodes.length + most ∧ (growR g cs most).edges.length ≤ g.edges.length + most := growK_most g cs most cs.length

theorem mkG_pre {a : Gr} (hv : validG a = 0) (h1 : a.nodes.length < 40) (h2 : a.edges.length < 80) {c : Int} (c0 : 0 ≤ c) (c1 : c < 256) : Pre a (mkG a c) := by
  have key : ∀ n1 : List Int, Pre a ⟨n1, a.edges⟩ → 0 < n1.length → Pre a ⟨n1, if c / 8 % 3 ≠ 0 ∧ a.edges.length < 3 then a.edges ++ [⟨c / 64 % 2, c / 16 % n1.length, n1.length - 1⟩] else a.edges⟩ := fun n1 hp hn => by
    split
    · have hpp : 0 < (n1.length : Int) := by omega
      refine hp.trans (pre_edge hp.vb (by simp only; omega) ?_)
      rw [fitsB_iff]
      have e1 := Int.emod_nonneg (c / 16) (show (n1.length : Int) ≠ 0 by omega)
      have e2 := Int.emod_lt_of_pos (c / 16) hpp
      exact ⟨within_of (by simp only; omega) (by simp only; omega), ⟨e1, e2⟩, by simp only; omega⟩
    · exact hp
  have hpos := (mkG_len a c).1
  refine key (mkG a c).nodes ?_ hpos
  rw [mkG_nodes]
  split
  · exact pre_node hv h1 (by omega)
  · exact ⟨hv, hv, ⟨[], by simp⟩, ⟨[], by simp⟩⟩

structure MkOk (a : Gr) (d n : Nat) (c : Cd) : Prop where
  ovr : c.ovr a = 0
  fit : c.Fit
  dep : c.dep ≤ d
  cnt : c.cnt ≤ n
  bare : c.Bare
theorem trueC_ok {a : Gr} {d n : Nat} (hn : 1 ≤ n) : MkOk a d n trueC := ⟨Cd.ovr_of rfl rfl (by simp [trueC, cdOf, Cd.kids]), cdOf_fit (by rw [kidN_eq]; simp) (by simp), by simp [trueC, cdOf, Cd.dep, Cd.depL], by simp [trueC, cdOf, Cd.cnt, Cd.cntL]; exact hn, bare_cdOf (by simp)⟩
theorem mkC_ok (cs : List Int) (hc : U8s cs) : ∀ (r : Nat) (a : Gr) (d at1 : Nat) (left : Int), validG a = 0 → a.nodes.length + r ≤ 40 → a.edges.length + r ≤ 80 → MkOk a d (2 ^ (r + 1) - 1) (mkC cs r a d at1 left).1
  | 0, a, d, at1, left, _, _, _ => trueC_ok (by decide)
  | r + 1, a, d, at1, left, hv, h1, h2 => by
    have p0 : 1 ≤ 2 ^ r := Nat.one_le_two_pow
    have p : 2 ^ (r + 1) = 2 * 2 ^ r := by rw [Nat.pow_succ]; omega
    have e : 2 ^ (r + 1 + 1) = 2 * 2 ^ (r + 1) := by rw [Nat.pow_succ]; omega
    obtain ⟨c0, c1⟩ := code_in hc at1
    simp only [mkC]
    split
    · exact trueC_ok (by omega)
    · split
      · have ih := mkC_ok cs hc r a d (at1 + 1) (left - 1) hv (by omega) (by omega)
        generalize mkC cs r a d (at1 + 1) (left - 1) = K at *
        refine ⟨Cd.ovr_of rfl rfl fun x hx => ?_, cdOf_fit (by rw [kidN_eq]; simp) (by simpa using ih.fit), ?_, ?_, bare_cdOf (by simpa using ih.bare)⟩
        · have : x = K.1 := by simpa [cdOf, Cd.kids] using hx
          subst this; exact ih.ovr
        · have := ih.dep; simp [cdOf, Cd.dep, Cd.depL]; exact this
        · have := ih.cnt; simp [cdOf, Cd.cnt, Cd.cntL]; omega
      · split
        · rename_i h23
          have i1 := mkC_ok cs hc r a d (at1 + 1) (left - 1) hv (by omega) (by omega)
          generalize mkC cs r a d (at1 + 1) (left - 1) = K at *
          have i2 := mkC_ok cs hc r a d K.2.1 K.2.2 hv (by omega) (by omega)
          generalize mkC cs r a d K.2.1 K.2.2 = L at *
          have hk : ∀ q : Int, q = 3 ∨ q = 4 → MkOk a d (2 ^ (r + 1 + 1) - 1) (cdOf q [K.1, L.1]) := fun q hq => by
            refine ⟨Cd.ovr_of ?_ ?_ fun x hx => ?_, cdOf_fit (by rw [kidN_eq]; simp) (by simp; exact ⟨i1.fit, i2.fit⟩), ?_, ?_, bare_cdOf (by simp; exact ⟨i1.bare, i2.bare⟩)⟩
            · rcases hq with rfl | rfl <;> rfl
            · rcases hq with rfl | rfl <;> rfl
            · have h3 : x = K.1 ∨ x = L.1 := by simpa [cdOf, Cd.kids] using hx
              have h4 : (cdOf q [K.1, L.1]).inn a = a := if_neg (by rcases hq with rfl | rfl <;> simp [cdOf, Cd.kind])
              rw [h4]
              rcases h3 with rfl | rfl
              · exact i1.ovr
              · exact i2.ovr
            · have := i1.dep; have := i2.dep
              have h5 : ¬ q = 5 := by rcases hq with rfl | rfl <;> decide
              simp only [cdOf, Cd.dep, Cd.depL, if_neg h5]; omega
            · have := i1.cnt; have := i2.cnt
              have h3 : (cdOf q [K.1, L.1]).cnt = 1 + (K.1.cnt + (L.1.cnt + 0)) := by simp only [cdOf, Cd.cnt, Cd.cntL]
              omega
          exact hk _ (by omega)
        · split
          · split
            · exact trueC_ok (by omega)
            · rename_i hd
              have hp := mkG_pre hv (by omega) (by omega) c0 c1
              have hl := mkG_len a (codeAt cs at1)
              have ih := mkC_ok cs hc r (mkG a (codeAt cs at1)) (d - 1) (at1 + 1) (left - 1) hp.vb (by omega) (by omega)
              generalize mkC cs r (mkG a (codeAt cs at1)) (d - 1) (at1 + 1) (left - 1) = K at *
              generalize mkG a (codeAt cs at1) = G at *
              have hE := hp.emb
              refine ⟨Cd.ovr_of rfl ?_ fun x hx => ?_, .mk (by rw [kidN_eq]; simp [mkEx, Cd.kids]) ?_ ?_ (by rw [bigN_eq]; simp [mkEx, Cd.sl]) (by rw [bigN_eq]; simp [mkEx, Cd.te]) fun x hx => ?_, ?_, ?_, .mk rfl rfl fun x hx => ?_⟩
              · show ovrStep a 5 (idM a) G = 0
                rw [ovrStep, if_pos rfl, if_neg (by simp [hE.v]), if_pos hE.inj]
              · have : x = K.1 := by simpa [mkEx, Cd.kids] using hx
                subst this; exact ih.ovr
              · exact ⟨by simp [mkEx, Cd.m, idM]; omega, by simp [mkEx, Cd.m, idM]; omega⟩
              · exact ⟨by simp only [mkEx, Cd.g]; omega, by simp only [mkEx, Cd.g]; omega⟩
              · have : x = K.1 := by simpa [mkEx, Cd.kids] using hx
                subst this; exact ih.fit
              · have := ih.dep; simp [mkEx, Cd.dep, Cd.depL]; omega
              · have := ih.cnt; simp [mkEx, Cd.cnt, Cd.cntL]; omega
              · have : x = K.1 := by simpa [mkEx, Cd.kids] using hx
                subst this; exact ih.bare
          · exact trueC_ok (by omega)
/-! ### The condition that codes describe -/
def madeR (a : Gr) (cs : List Int) : Cd := let c := (mkC cs 6 a 2 0 8).1; if 8 < c.meas.1 then trueC else c
theorem madeR_ok {a : Gr} {cs : List Int} (hc : U8s cs) (hv : validG a = 0) (h1 : a.nodes.length ≤ 10) (h2 : a.edges.length ≤ 10) : MkOk a 2 8 (madeR a cs) := by
  have h := mkC_ok cs hc 6 a 2 0 8 hv (by omega) (by omega)
  unfold madeR
  simp only
  split
  · exact trueC_ok (by decide)
  · rename_i hn
    have := h.cnt
    rw [Cd.meas_cnt _ (by omega)] at hn
    simp only at hn
    exact ⟨h.ovr, h.fit, h.dep, by omega, h.bare⟩
theorem MkOk.valid {a : Gr} {c : Cd} {d n : Nat} (h : MkOk a d n c) (hv : validG a = 0) (hd : d ≤ 3) (hn : n ≤ 2000) : validC a c = 0 := by
  have h1 := h.cnt
  have h2 := h.dep
  rw [validC, if_neg (by simp [hv]), if_neg (by simp [h.ovr]), smallC, Cd.meas_cnt c (by omega)]
  simp only
  rw [if_neg (by omega)]

/-! ### Shifting it -/
theorem shd_ok {a b : Gr} {m : Mo} {c : Cd} (hv : c.ovr a = 0) (hf : c.Fit) (hd : c.dep ≤ 3) (hm : Emb a b m) (hb : b.Fit) (he : (shdR b m c).2 = 0) : (shdR b m c).1.Fit ∧ (shdR b m c).1.Bare ∧ validC b (shdR b m c).1 = 0 ∧ (shdR b m c).1.ovr b = 0 ∧ (shdR b m c).1.dep ≤ 3 ∧
    (∀ g n, Emb b g n → (shdR b m c).1.hol g n = c.hol g (thenM m n)) ∧ (shdR b m c).1 = (c.shf b m (0, 0)).1 ∧ (c.shf b m (0, 0)).2.2 = 0 := by
  by_cases h0 : (c.shf b m (0, 0)).2.2 = 0
  · have e : shdR b m c = ((c.shf b m (0, 0)).1, 0) := if_pos h0
    rw [e]
    have M := shf_made _ c (Nat.lt_succ_self _) a hv b m hm (0, 0) (by decide) (by decide) h0
    have h1 := M.cnt
    have h2 := M.le
    have h3 := M.dep
    simp only at h1
    refine ⟨shf_fit _ c (Nat.lt_succ_self _) hf b hb hm.vm.vb m _, shf_bare _ c (Nat.lt_succ_self _) b m _, ?_, M.ovr, by simp only; omega, fun g n hn => shf_hol _ c (Nat.lt_succ_self _) a hv b m hm (0, 0) h0 g n hn, rfl, h0⟩
    have hmc := Cd.meas_cnt (c.shf b m (0, 0)).1 (by omega)
    simp only
    rw [validC, if_neg (by simp [hm.vm.vb]), if_neg (by simp [M.ovr]), smallC, hmc]
    simp only
    rw [if_neg (by omega)]
  · have e : (shdR b m c).2 = (c.shf b m (0, 0)).2.2 := by rw [shdR, if_neg h0]
    rw [e] at he
    exact absurd he h0
theorem shd_err {a b : Gr} {m : Mo} {c : Cd} (hv : c.ovr a = 0) (hm : Emb a b m) : (shdR b m c).2 = 0 ∨ (shdR b m c).2 = 3 := by
  have := shf_err _ c (Nat.lt_succ_self _) a hv b hm.vm.vb m (0, 0) (.inl rfl)
  unfold shdR
  split
  · exact .inl rfl
  · exact this
theorem arr_emb {a b : Gr} {m : Mo} (h : Emb a b m) : arrR a b m = 0 := by
  rw [arrR, if_neg (by simp [h.v]), if_pos h.inj]
theorem shift_emb {a b : Gr} {m : Mo} {c : Cd} (hm : Emb a b m) (hv : validC a c = 0) : shiftR a b m c = shdR b m c := by
  rw [shiftR, if_neg (by simp [arr_emb hm]), if_neg (by simp [hv])]
theorem sat_emb {a g : Gr} {m : Mo} {c : Cd} (hm : Emb a g m) (hv : validC a c = 0) : satR a c g m = (c.hol g m, 0) := by
  rw [satR, if_neg (by simp [arr_emb hm]), if_neg (by simp [hv])]
end Go.AM
/-
  The reference's Made; the law's parts.
-/
namespace Go.AM
open Go Go.Proofs
set_option linter.unusedSimpArgs false
set_option linter.unusedVariables false

theorem made33_c (a : Gr) (cs : List Int) (hc : U8s cs) (hl : cs.length ≤ 1000) (hv : validG a = 0) (h1 : a.nodes.length ≤ 10) (h2 : a.edges.length ≤ 10) (tok : Nat → Bool) (nt : Nat) :
    DCall Try.prog 38 [a.av, .d (bytes cs)] tok nt (madeR a cs).av tok nt := by
  intro box nb
  have hm := make61_c cs hc hl 7 6 (by decide) a 2 0 8 (by omega) (by omega) (by decide) (by decide) (by decide) (by decide)
  have hok := (mkC_ok cs hc 6 a 2 0 8 hv (by omega) (by omega)).fit.big
  have hR : madeR a cs = if 8 < (mkC cs 6 a 2 0 8).1.meas.1 then trueC else (mkC cs 6 a 2 0 8).1 := rfl
  generalize mkC cs 6 a 2 0 8 = K at *
  have hs := size25_c _ K.1 (Nat.lt_succ_self _) hok
  refine ACalls.of_body Try.func38 rfl (by kernel_rfl) follows_Try (by kernel_rfl) (by simp [Try.ntmps38]) ?_
  intro hbox htok
  simp only at hbox htok
  apply AL.start
  try (simp)
  repeat ((repeat (first | refine AL.seq ?_ | refine AL.block ?_ | refine AL.skip ?_ | refine AL.blk ?_)); (refine AL.region follows_Try (Nat.le_refl _) (by kernel_rfl) ?_); simp)
  refine Stop.of_a (hm _ _ (nb + 11) _ _ (by simp [lb_at])) ?_
  rintro v m' ⟨rfl, rfl⟩
  simp
  try (simp)
  repeat ((repeat (first | refine AL.seq ?_ | refine AL.block ?_ | refine AL.skip ?_ | refine AL.blk ?_)); (refine AL.region follows_Try (Nat.le_refl _) (by kernel_rfl) ?_); simp)
  refine Stop.of_d (hs _ _) ?_
  simp
  try (simp)
  repeat ((repeat (first | refine AL.seq ?_ | refine AL.block ?_ | refine AL.skip ?_ | refine AL.blk ?_)); (refine AL.region follows_Try (Nat.le_refl _) (by kernel_rfl) ?_); simp)
  by_cases h8 : 8 < K.1.meas.1
  · rw [if_pos h8] at hR
    try (simp [h8])
    repeat ((repeat (first | refine AL.seq ?_ | refine AL.block ?_ | refine AL.skip ?_ | refine AL.blk ?_)); (refine AL.region follows_Try (Nat.le_refl _) (by kernel_rfl) ?_); simp [h8])
    repeat (first | refine AL.seq ?_ | refine AL.block ?_ | refine AL.skip ?_ | refine AL.blk ?_)
    refine AL.cond ?_
    simp
    try (simp)
    repeat ((repeat (first | refine AL.seq ?_ | refine AL.block ?_ | refine AL.skip ?_ | refine AL.blk ?_)); (refine AL.region follows_Try (Nat.le_refl _) (by kernel_rfl) ?_); simp)
    refine Stop.of_d (true33_c _ _) ?_
    simp
    try (simp)
    repeat ((repeat (first | refine AL.seq ?_ | refine AL.block ?_ | refine AL.skip ?_ | refine AL.blk ?_)); (refine AL.region follows_Try (Nat.le_refl _) (by kernel_rfl) ?_); simp)
    repeat (first | refine AL.seq ?_ | refine AL.block ?_ | refine AL.skip ?_ | refine AL.blk ?_)
    refine AL.ret ?_
    try simp only [AU]
    refine ⟨by simp, Fin.data (by simp [resAs, resA]; rfl) hbox rfl htok (fun _ h => h) (Nat.le_refl _) ?_⟩
    simp [packA, hR]
  · rw [if_neg h8] at hR
    try (simp [h8])
    repeat ((repeat (first | refine AL.seq ?_ | refine AL.block ?_ | refine AL.skip ?_ | refine AL.blk ?_)); (refine AL.region follows_Try (Nat.le_refl _) (by kernel_rfl) ?_); simp [h8])
    repeat (first | refine AL.seq ?_ | refine AL.block ?_ | refine AL.skip ?_ | refine AL.blk ?_)
    refine AL.cond ?_
    simp
    try (simp)
    repeat ((repeat (first | refine AL.seq ?_ | refine AL.block ?_ | refine AL.skip ?_ | refine AL.blk ?_)); (refine AL.region follows_Try (Nat.le_refl _) (by kernel_rfl) ?_); simp)
    repeat (first | refine AL.seq ?_ | refine AL.block ?_ | refine AL.skip ?_ | refine AL.blk ?_)
    refine AL.ret ?_
    try simp only [AU]
    refine ⟨by simp, Fin.data (by simp [resAs, resA]; rfl) hbox rfl htok (fun _ h => h) (Nat.le_refl _) ?_⟩
    simp [packA, hR]

structure Ch where
  a : Dr
  b : List Int
  g : List Int
  c : List Int
structure Ch.U8 (x : Ch) : Prop where
  a : x.a.U8
  b : U8s x.b
  g : U8s x.g
  c : U8s x.c
abbrev Ch.av (x : Ch) : AV := .agg [.d (.sl 1 (x.a.nodes.map fun n => [u8 n])), .d (.sl 3 (x.a.edges.map fun e => [u8 e.1, u8 e.2.1, u8 e.2.2])), .d (bytes x.b), .d (bytes x.g), .d (bytes x.c)]
def Ch.ok (x : Ch) : Bool := decide (x.a.nodes.length ≤ 1 ∧ x.a.edges.length ≤ 1 ∧ x.c.length ≤ 12 ∧ x.b.length ≤ 10 ∧ x.g.length ≤ 10)
def Ch.A (x : Ch) : Gr := madeG x.a
def Ch.B (x : Ch) : Gr := growR x.A x.b 2
def Ch.G (x : Ch) : Gr := growR x.B x.g 4
def Ch.C (x : Ch) : Cd := madeR x.A x.c
def gNil : Gr := ⟨[], []⟩
theorem parts_c (x : Ch) (hx : x.U8) (tok : Nat → Bool) (nt : Nat) :
    DCall Try.prog 15 [x.av] tok nt (if x.ok = true then .tup [x.A.av, x.B.av, x.G.av, x.C.av, B true] else .tup [gNil.av, gNil.av, gNil.av, (cdOf 0 []).av, B false]) tok nt := by
  intro box nb
  refine ACalls.of_body Try.func15 rfl (by kernel_rfl) follows_Try (by kernel_rfl) (by simp [Try.ntmps15]) ?_
  intro hbox htok
  simp only at hbox htok
  apply AL.start
  try (simp)
  repeat ((repeat (first | refine AL.seq ?_ | refine AL.block ?_ | refine AL.skip ?_ | refine AL.blk ?_)); (refine AL.region follows_Try (Nat.le_refl _) (by kernel_rfl) ?_); simp)
  by_cases h1 : 1 < x.a.nodes.length
  · have i1 : 1 < (x.a.nodes.length : Int) := by omega
    try (simp [h1, i1])
    repeat ((repeat (first | refine AL.seq ?_ | refine AL.block ?_ | refine AL.skip ?_ | refine AL.blk ?_)); (refine AL.region follows_Try (Nat.le_refl _) (by kernel_rfl) ?_); simp [h1, i1])
    repeat (first | refine AL.seq ?_ | refine AL.block ?_ | refine AL.skip ?_ | refine AL.blk ?_)
    refine AL.cond ?_
    simp
    try (simp)
    repeat ((repeat (first | refine AL.seq ?_ | refine AL.block ?_ | refine AL.skip ?_ | refine AL.blk ?_)); (refine AL.region follows_Try (Nat.le_refl _) (by kernel_rfl) ?_); simp)
    have hno : x.ok = false := by simp [Ch.ok]; omega
    repeat (first | refine AL.seq ?_ | refine AL.block ?_ | refine AL.skip ?_ | refine AL.blk ?_)
    refine AL.ret ?_
    try simp only [AU]
    refine ⟨by simp, Fin.data (by simp [resAs, resA]; rfl) hbox rfl htok (fun _ h => h) (Nat.le_refl _) ?_⟩
    simp [packA, hno, gNil, cdOf, conds, ints, AM.edges, slots, tests, Cd.kind, Cd.kids, Cd.m, Cd.g, Cd.sl, Cd.vars, Cd.te]
  · have i1 : ¬ 1 < (x.a.nodes.length : Int) := by omega
    by_cases h2 : 1 < x.a.edges.length
    · have i2 : 1 < (x.a.edges.length : Int) := by omega
      try (simp [h1, i1, h2, i2])
      repeat ((repeat (first | refine AL.seq ?_ | refine AL.block ?_ | refine AL.skip ?_ | refine AL.blk ?_)); (refine AL.region follows_Try (Nat.le_refl _) (by kernel_rfl) ?_); simp [h1, i1, h2, i2])
      repeat (first | refine AL.seq ?_ | refine AL.block ?_ | refine AL.skip ?_ | refine AL.blk ?_)
      refine AL.cond ?_
      simp
      try (simp)
      repeat ((repeat (first | refine AL.seq ?_ | refine AL.block ?_ | refine AL.skip ?_ | refine AL.blk ?_)); (refine AL.region follows_Try (Nat.le_refl _) (by kernel_rfl) ?_); simp)
      have hno : x.ok = false := by simp [Ch.ok]; omega
      repeat (first | refine AL.seq ?_ | refine AL.block ?_ | refine AL.skip ?_ | refine AL.blk ?_)
      refine AL.ret ?_
      try simp only [AU]
      refine ⟨by simp, Fin.data (by simp [resAs, resA]; rfl) hbox rfl htok (fun _ h => h) (Nat.le_refl _) ?_⟩
      simp [packA, hno, gNil, cdOf, conds, ints, AM.edges, slots, tests, Cd.kind, Cd.kids, Cd.m, Cd.g, Cd.sl, Cd.vars, Cd.te]
    · have i2 : ¬ 1 < (x.a.edges.length : Int) := by omega
      by_cases h3 : 12 < x.c.length
      · have i3 : 12 < (x.c.length : Int) := by omega
        try (simp [h1, i1, h2, i2, h3, i3])
        repeat ((repeat (first | refine AL.seq ?_ | refine AL.block ?_ | refine AL.skip ?_ | refine AL.blk ?_)); (refine AL.region follows_Try (Nat.le_refl _) (by kernel_rfl) ?_); simp [h1, i1, h2, i2, h3, i3])
        repeat (first | refine AL.seq ?_ | refine AL.block ?_ | refine AL.skip ?_ | refine AL.blk ?_)
        refine AL.cond ?_
        simp
        try (simp)
        repeat ((repeat (first | refine AL.seq ?_ | refine AL.block ?_ | refine AL.skip ?_ | refine AL.blk ?_)); (refine AL.region follows_Try (Nat.le_refl _) (by kernel_rfl) ?_); simp)
        have hno : x.ok = false := by simp [Ch.ok]; omega
        repeat (first | refine AL.seq ?_ | refine AL.block ?_ | refine AL.skip ?_ | refine AL.blk ?_)
        refine AL.ret ?_
        try simp only [AU]
        refine ⟨by simp, Fin.data (by simp [resAs, resA]; rfl) hbox rfl htok (fun _ h => h) (Nat.le_refl _) ?_⟩
        simp [packA, hno, gNil, cdOf, conds, ints, AM.edges, slots, tests, Cd.kind, Cd.kids, Cd.m, Cd.g, Cd.sl, Cd.vars, Cd.te]
      · have i3 : ¬ 12 < (x.c.length : Int) := by omega
        by_cases h4 : 10 < x.b.length
        · have i4 : 10 < (x.b.length : Int) := by omega
          try (simp [h1, i1, h2, i2, h3, i3, h4, i4])
          repeat ((repeat (first | refine AL.seq ?_ | refine AL.block ?_ | refine AL.skip ?_ | refine AL.blk ?_)); (refine AL.region follows_Try (Nat.le_refl _) (by kernel_rfl) ?_); simp [h1, i1, h2, i2, h3, i3, h4, i4])
          repeat (first | refine AL.seq ?_ | refine AL.block ?_ | refine AL.skip ?_ | refine AL.blk ?_)
          refine AL.cond ?_
          simp
          try (simp)
          repeat ((repeat (first | refine AL.seq ?_ | refine AL.block ?_ | refine AL.skip ?_ | refine AL.blk ?_)); (refine AL.region follows_Try (Nat.le_refl _) (by kernel_rfl) ?_); simp)
          have hno : x.ok = false := by simp [Ch.ok]; omega
          repeat (first | refine AL.seq ?_ | refine AL.block ?_ | refine AL.skip ?_ | refine AL.blk ?_)
          refine AL.ret ?_
          try simp only [AU]
          refine ⟨by simp, Fin.data (by simp [resAs, resA]; rfl) hbox rfl htok (fun _ h => h) (Nat.le_refl _) ?_⟩
          simp [packA, hno, gNil, cdOf, conds, ints, AM.edges, slots, tests, Cd.kind, Cd.kids, Cd.m, Cd.g, Cd.sl, Cd.vars, Cd.te]
        · have i4 : ¬ 10 < (x.b.length : Int) := by omega
          by_cases h5 : 10 < x.g.length
          · have i5 : 10 < (x.g.length : Int) := by omega
            try (simp [h1, i1, h2, i2, h3, i3, h4, i4, h5, i5])
            repeat ((repeat (first | refine AL.seq ?_ | refine AL.block ?_ | refine AL.skip ?_ | refine AL.blk ?_)); (refine AL.region follows_Try (Nat.le_refl _) (by kernel_rfl) ?_); simp [h1, i1, h2, i2, h3, i3, h4, i4, h5, i5])
            repeat (first | refine AL.seq ?_ | refine AL.block ?_ | refine AL.skip ?_ | refine AL.blk ?_)
            refine AL.cond ?_
            simp
            try (simp)
            repeat ((repeat (first | refine AL.seq ?_ | refine AL.block ?_ | refine AL.skip ?_ | refine AL.blk ?_)); (refine AL.region follows_Try (Nat.le_refl _) (by kernel_rfl) ?_); simp)
            have hno : x.ok = false := by simp [Ch.ok]; omega
            repeat (first | refine AL.seq ?_ | refine AL.block ?_ | refine AL.skip ?_ | refine AL.blk ?_)
            refine AL.ret ?_
            try simp only [AU]
            refine ⟨by simp, Fin.data (by simp [resAs, resA]; rfl) hbox rfl htok (fun _ h => h) (Nat.le_refl _) ?_⟩
            simp [packA, hno, gNil, cdOf, conds, ints, AM.edges, slots, tests, Cd.kind, Cd.kids, Cd.m, Cd.g, Cd.sl, Cd.vars, Cd.te]
          · have i5 : ¬ 10 < (x.g.length : Int) := by omega
            have hok : x.ok = true := by simp [Ch.ok]; omega
            have hva : validG x.A = 0 := madeG_valid hx.a
            have hla : x.A.nodes.length ≤ 10 ∧ x.A.edges.length ≤ 10 := by have := madeG_len x.a; unfold Ch.A; omega
            have hgb := growR_len x.A x.b 2
            have ma := made25_c x.a hx.a
            have gb := grown_c x.A x.b 2 ⟨by omega, by omega⟩ hx.b (by omega) (by omega)
            have gg := grown_c x.B x.g 4 ⟨by unfold Ch.B; omega, by unfold Ch.B; omega⟩ hx.g (by omega) (by omega)
            have mc := made33_c x.A x.c hx.c (by omega) hva hla.1 hla.2
            rw [show growR x.A x.b 2 = x.B from rfl] at gb
            rw [show growR x.B x.g 4 = x.G from rfl] at gg
            rw [show madeR x.A x.c = x.C from rfl] at mc
            rw [show madeG x.a = x.A from rfl] at ma
            generalize x.A = A at *
            generalize x.B = Bb at *
            generalize x.G = Gg at *
            generalize x.C = Cc at *
            try (simp [h1, i1, h2, i2, h3, i3, h4, i4, h5, i5])
            repeat ((repeat (first | refine AL.seq ?_ | refine AL.block ?_ | refine AL.skip ?_ | refine AL.blk ?_)); (refine AL.region follows_Try (Nat.le_refl _) (by kernel_rfl) ?_); simp [h1, i1, h2, i2, h3, i3, h4, i4, h5, i5])
            repeat (first | refine AL.seq ?_ | refine AL.block ?_ | refine AL.skip ?_ | refine AL.blk ?_)
            refine AL.cond ?_
            simp
            try (simp)
            repeat ((repeat (first | refine AL.seq ?_ | refine AL.block ?_ | refine AL.skip ?_ | refine AL.blk ?_)); (refine AL.region follows_Try (Nat.le_refl _) (by kernel_rfl) ?_); simp)
            refine Stop.of_d (ma _ _) ?_
            simp
            try (simp)
            repeat ((repeat (first | refine AL.seq ?_ | refine AL.block ?_ | refine AL.skip ?_ | refine AL.blk ?_)); (refine AL.region follows_Try (Nat.le_refl _) (by kernel_rfl) ?_); simp)
            refine Stop.of_d (gb _ _) ?_
            simp
            repeat (first | refine AL.seq ?_ | refine AL.block ?_ | refine AL.skip ?_ | refine AL.blk ?_)
            refine AL.region2 follows_Try (Nat.le_refl _) (by kernel_rfl) (Side.of (by simp)) ?_
            simp
            refine Stop.of_d (gg _ _) ?_
            simp
            refine Stop.of_d (mc _ _) ?_
            simp
            try (simp)
            repeat ((repeat (first | refine AL.seq ?_ | refine AL.block ?_ | refine AL.skip ?_ | refine AL.blk ?_)); (refine AL.region follows_Try (Nat.le_refl _) (by kernel_rfl) ?_); simp)
            repeat (first | refine AL.seq ?_ | refine AL.block ?_ | refine AL.skip ?_ | refine AL.blk ?_)
            refine AL.ret ?_
            try simp only [AU]
            refine ⟨by simp, Fin.data (by simp [resAs, resA]; rfl) hbox rfl htok (fun _ h => h) (Nat.le_refl _) ?_⟩
            simp [packA, hok]
end Go.AM
/-
  The law about the meaning of shifting.
-/
namespace Go.AM
open Go Go.Proofs
set_option linter.unusedSimpArgs false
set_option linter.unusedVariables false

structure ChOk (x : Ch) : Prop where
  va : validG x.A = 0
  ab : Pre x.A x.B
  bg : Pre x.B x.G
  c : MkOk x.A 2 8 x.C
  an : x.A.nodes.length ≤ 1 ∧ x.A.edges.length ≤ 1
  bn : x.B.nodes.length ≤ 3 ∧ x.B.edges.length ≤ 3
  gn : x.G.nodes.length ≤ 7 ∧ x.G.edges.length ≤ 7
theorem madeG_le (x : Dr) : (madeG x).nodes.length ≤ x.nodes.length ∧ (madeG x).edges.length ≤ x.edges.length := by
  refine ⟨by simp [madeG, mN]; omega, ?_⟩
  simp only [madeG]
  split
  · simp
  · simp [mE]; omega
theorem ch_ok {x : Ch} (hx : x.U8) (h : x.ok = true) : ChOk x := by
  simp only [Ch.ok, decide_eq_true_eq] at h
  have h1 := madeG_le x.a
  have hva : validG x.A = 0 := madeG_valid hx.a
  have hA : x.A = madeG x.a := rfl
  rw [← hA] at h1
  have hab : Pre x.A x.B := growR_pre _ _ _ hx.b hva (by omega) (by omega)
  have hb : x.B.nodes.length ≤ x.A.nodes.length + 2 ∧ x.B.edges.length ≤ x.A.edges.length + 2 := growR_len _ _ _
  have hbg : Pre x.B x.G := growR_pre _ _ _ hx.g hab.vb (by omega) (by omega)
  have hg : x.G.nodes.length ≤ x.B.nodes.length + 4 ∧ x.G.edges.length ≤ x.B.edges.length + 4 := growR_len _ _ _
  exact ⟨hva, hab, hbg, madeR_ok hx.c hva (by omega) (by omega), by omega, by omega, by omega⟩
theorem pow_small {a n : Nat} (ha : a ≤ 7) (hn : n ≤ 4) : a ^ n ≤ 2401 :=
  Nat.le_trans (Nat.pow_le_pow_left ha n) (Nat.le_trans (Nat.pow_le_pow_right (by decide) hn) (by decide))
abbrev mNil : Mo := ⟨[], []⟩
theorem exts_few {p g : Gr} {x m : Mo} (hp : p.nodes.length ≤ 4 ∧ p.edges.length ≤ 4) (hg : g.nodes.length ≤ 7 ∧ g.edges.length ≤ 7) : (exts p g x m).length ≤ 10000000 := by
  have h := exN_len p g x m p.nodes.length []
  have h1 := pow_small hg.1 hp.1
  have h2 := pow_small hg.2 hp.2
  have h3 := Nat.mul_le_mul h1 h2
  have h4 : (exts p g x m).length = (exN p g x m p.nodes.length []).length := rfl
  omega
theorem exts_emb {p g : Gr} (hp : validG p = 0) (hg : validG g = 0) {q : Mo} (h : q ∈ exts p g mNil mNil) : Emb p g q := ((exts_iff (emb_nil hp) (emb_nil hg) q).1 h).1
theorem extNil_c {p g : Gr} (hp : validG p = 0) (hg : validG g = 0) (h1 : p.nodes.length ≤ 4 ∧ p.edges.length ≤ 4) (h2 : g.nodes.length ≤ 7 ∧ g.edges.length ≤ 7) (tok : Nat → Bool) (nt : Nat) :
    DCall Try.prog 18 [p.av, g.av, mNil.av, mNil.av] tok nt (.d (mos (exts p g mNil mNil))) tok nt :=
  extensions_c p g mNil mNil ⟨⟨by omega, by omega⟩, ⟨by omega, by omega⟩, fit_nilM, validG_edges hp, Nat.zero_le _, Nat.zero_le _⟩ (by have := exts_few (x := mNil) (m := mNil) h1 h2; omega) tok nt
theorem emb_fit {a g : Gr} {q : Mo} (h : Emb a g q) (h1 : a.nodes.length ≤ 1000) (h2 : a.edges.length ≤ 1000) : q.Fit := ⟨by rw [h.vm.ln]; omega, by rw [h.vm.le]; omega⟩
abbrev takeM (a : Gr) (n : Mo) : Mo := ⟨n.nodes.take a.nodes.length, n.edges.take a.edges.length⟩

theorem Pre.le {a b : Gr} (h : Pre a b) : a.nodes.length ≤ b.nodes.length ∧ a.edges.length ≤ b.edges.length := by
  obtain ⟨t, ht⟩ := h.n
  obtain ⟨u, hu⟩ := h.e
  rw [ht, hu]; simp
theorem takeM_eq {a b g : Gr} {n : Mo} (h : Pre a b) (hn : Emb b g n) : thenM (idM a) n = takeM a n := thenM_id (by rw [hn.vm.ln]; exact h.le.1) (by rw [hn.vm.le]; exact h.le.2)
theorem takeM_emb {a b g : Gr} {n : Mo} (h : Pre a b) (hn : Emb b g n) : Emb a g (takeM a n) := by rw [← takeM_eq h hn]; exact h.emb.comp hn
end Go.AM
/-
  Plain facts for the laws about the identity and about shifting twice.
-/
namespace Go.AM
open Go Go.Proofs
set_option linter.unusedSimpArgs false
set_option linter.unusedVariables false

theorem takeM_takeM {a b : Gr} (n : Mo) (h1 : a.nodes.length ≤ b.nodes.length) (h2 : a.edges.length ≤ b.edges.length) : takeM a (takeM b n) = takeM a n := by
  simp only [takeM, List.take_take, Nat.min_eq_left h1, Nat.min_eq_left h2]
end Go.AM
/-
  The laws about Local, about the identity, and about shifting twice.
-/
namespace Go.AM
open Go Go.Proofs
set_option linter.unusedSimpArgs false
set_option linter.unusedVariables false

end Go.AM
/-
  The law about shifting twice.
-/
namespace Go.AM
open Go Go.Proofs
set_option linter.unusedSimpArgs false
set_option linter.unusedVariables false
def stTw (b2 g : Gr) (d2 t : Cd) (L : List Mo) (nb : Nat) (box : Nat → Option (List (List AV))) (tok : Nat → Bool) (nt i : Nat) : AState :=
  ⟨tl [(114, I i), (113, I L.length), (112, .d (mos L)), (7, .ptr (nb + 7) 0 0), (13, .ptr (nb + 13) 0 0), (16, .ptr (nb + 16) 0 0), (18, .ptr (nb + 18) 0 0)],
    lb nb box [(18, [t.row]), (16, [d2.row]), (13, [b2.cells2]), (7, [g.cells2])], tok, nt⟩
set_option maxRecDepth 100000 in
theorem lawTwice_c (x : Ch) (hx : x.U8) (q : Int) (hq : 0 ≤ q ∧ q < 256) (tok : Nat → Bool) (nt : Nat) : ∃ tok' nt', DCall Try.prog 5 [x.av, .d (u8 q)] tok nt (B true) tok' nt' := by
  refine ⟨tok, nt, ?_⟩
  intro box nb
  have hp := parts_c x hx
  have hch := fun h => ch_ok hx h
  cases hok : x.ok
  · rw [hok] at hp
    simp only [Bool.false_eq_true, if_false] at hp
    refine ACalls.of_body Try.func5 rfl (by kernel_rfl) follows_Try (by kernel_rfl) (by simp [Try.ntmps5]) ?_
    intro hbox htok
    simp only at hbox htok
    apply AL.start
    try (simp)
    repeat ((repeat (first | refine AL.seq ?_ | refine AL.block ?_ | refine AL.skip ?_ | refine AL.blk ?_)); (refine AL.region follows_Try (Nat.le_refl _) (by kernel_rfl) ?_); simp)
    refine Stop.of_d (hp _ _) ?_
    simp
    try (simp)
    repeat ((repeat (first | refine AL.seq ?_ | refine AL.block ?_ | refine AL.skip ?_ | refine AL.blk ?_)); (refine AL.region follows_Try (Nat.le_refl _) (by kernel_rfl) ?_); simp)
    refine Stop.of_d (awake33_c _ _) ?_
    simp
    try (simp)
    repeat ((repeat (first | refine AL.seq ?_ | refine AL.block ?_ | refine AL.skip ?_ | refine AL.blk ?_)); (refine AL.region follows_Try (Nat.le_refl _) (by kernel_rfl) ?_); simp)
    repeat (first | refine AL.seq ?_ | refine AL.block ?_ | refine AL.skip ?_ | refine AL.blk ?_)
    refine AL.cond ?_
    simp
    try (simp)
    repeat ((repeat (first | refine AL.seq ?_ | refine AL.block ?_ | refine AL.skip ?_ | refine AL.blk ?_)); (refine AL.region follows_Try (Nat.le_refl _) (by kernel_rfl) ?_); simp)
    refine Stop.of_d (awake33_c _ _) ?_
    simp
    try (simp)
    repeat ((repeat (first | refine AL.seq ?_ | refine AL.block ?_ | refine AL.skip ?_ | refine AL.blk ?_)); (refine AL.region follows_Try (Nat.le_refl _) (by kernel_rfl) ?_); simp)
    repeat (first | refine AL.seq ?_ | refine AL.block ?_ | refine AL.skip ?_ | refine AL.blk ?_)
    refine AL.ret ?_
    try simp only [AU]
    refine ⟨by simp, Fin.data (by simp [resAs, resA]; rfl) hbox rfl htok (fun _ h => h) (Nat.le_refl _) ?_⟩
    simp [packA]
  · have h := hch hok
    rw [hok] at hp
    simp only [if_true] at hp
    obtain ⟨hva, hab, hbg, hcc, han, hbn, hgn⟩ := h
    generalize x.A = a at *
    generalize x.B = b at *
    generalize x.G = g at *
    generalize x.C = c at *
    have hqs : U8s [q] := fun k hk => by rw [List.mem_singleton] at hk; subst hk; exact hq
    have hbe : Pre b (growR b [q] 1) := growR_pre _ _ _ hqs hab.vb (by simp; omega) (by simp; omega)
    have hel := growR_len b [q] 1
    have haf : a.Fit := ⟨by omega, by omega⟩
    have hbf : b.Fit := ⟨by omega, by omega⟩
    have hgf : g.Fit := ⟨by omega, by omega⟩
    have hgr := grown_c b [q] 1 hbf hqs (by simp) (by decide)
    generalize growR b [q] 1 = b2 at *
    have hb2f : b2.Fit := ⟨by omega, by omega⟩
    have hae := hab.trans hbe
    have hvc := hcc.valid hva (by decide) (by decide)
    have hE := hab.emb
    have hE2 := hae.emb
    have hEb := hbe.emb
    have hif : (idM a).Fit := emb_fit hE (by omega) (by omega)
    have hib : (idM b).Fit := emb_fit hEb (by omega) (by omega)
    have hof := of_c a haf
    have hofb := of_c b hbf
    have hsz := size11_c c hcc.fit.big
    have hsh := cdShift_c a b (idM a) c haf hbf hif hcc.fit
    have hs2 := cdShift_c a b2 (idM a) c haf hb2f hif hcc.fit
    rw [shift_emb hE hvc] at hsh
    rw [shift_emb hE2 hvc] at hs2
    have herr := shd_err hcc.ovr hE
    have her2 := shd_err hcc.ovr hE2
    have hd := fun h => shd_ok hcc.ovr hcc.fit (Nat.le_trans hcc.dep (by decide)) hE hbf h
    have hd2 := fun h => shd_ok hcc.ovr hcc.fit (Nat.le_trans hcc.dep (by decide)) hE2 hb2f h
    have hex := extNil_c hbe.vb hbg.vb ⟨by omega, by omega⟩ hgn
    have hem := fun q (hq : q ∈ exts b2 g mNil mNil) => exts_emb hbe.vb hbg.vb hq
    have hfew := exts_few (p := b2) (g := g) (x := mNil) (m := mNil) ⟨by omega, by omega⟩ hgn
    generalize exts b2 g mNil mNil = L at *
    generalize shdR b (idM a) c = D at *
    generalize shdR b2 (idM a) c = D2 at *
    refine ACalls.of_body Try.func5 rfl (by kernel_rfl) follows_Try (by kernel_rfl) (by simp [Try.ntmps5]) ?_
    intro hbox htok
    simp only at hbox htok
    apply AL.start
    try (simp)
    repeat ((repeat (first | refine AL.seq ?_ | refine AL.block ?_ | refine AL.skip ?_ | refine AL.blk ?_)); (refine AL.region follows_Try (Nat.le_refl _) (by kernel_rfl) ?_); simp)
    refine Stop.of_d (hp _ _) ?_
    simp
    try (simp)
    repeat ((repeat (first | refine AL.seq ?_ | refine AL.block ?_ | refine AL.skip ?_ | refine AL.blk ?_)); (refine AL.region follows_Try (Nat.le_refl _) (by kernel_rfl) ?_); simp)
    refine Stop.of_d (awake33_c _ _) ?_
    simp
    try (simp)
    repeat ((repeat (first | refine AL.seq ?_ | refine AL.block ?_ | refine AL.skip ?_ | refine AL.blk ?_)); (refine AL.region follows_Try (Nat.le_refl _) (by kernel_rfl) ?_); simp)
    repeat (first | refine AL.seq ?_ | refine AL.block ?_ | refine AL.skip ?_ | refine AL.blk ?_)
    refine AL.cond ?_
    simp
    try (simp)
    repeat ((repeat (first | refine AL.seq ?_ | refine AL.block ?_ | refine AL.skip ?_ | refine AL.blk ?_)); (refine AL.region follows_Try (Nat.le_refl _) (by kernel_rfl) ?_); simp)
    refine Stop.of_d (hsz _ _) ?_
    simp
    try (simp)
    repeat ((repeat (first | refine AL.seq ?_ | refine AL.block ?_ | refine AL.skip ?_ | refine AL.blk ?_)); (refine AL.region follows_Try (Nat.le_refl _) (by kernel_rfl) ?_); simp)
    by_cases hs0 : (sizeR c).2.2 = 0
    · by_cases hs1 : 1 < (sizeR c).2.1
      · have b0 : ((sizeR c).2.2 != 0) = false := by simp [hs0]
        try (simp [b0, hs1])
        repeat ((repeat (first | refine AL.seq ?_ | refine AL.block ?_ | refine AL.skip ?_ | refine AL.blk ?_)); (refine AL.region follows_Try (Nat.le_refl _) (by kernel_rfl) ?_); simp [b0, hs1])
        repeat (first | refine AL.seq ?_ | refine AL.block ?_ | refine AL.skip ?_ | refine AL.blk ?_)
        refine AL.cond ?_
        simp
        try (simp)
        repeat ((repeat (first | refine AL.seq ?_ | refine AL.block ?_ | refine AL.skip ?_ | refine AL.blk ?_)); (refine AL.region follows_Try (Nat.le_refl _) (by kernel_rfl) ?_); simp)
        repeat (first | refine AL.seq ?_ | refine AL.block ?_ | refine AL.skip ?_ | refine AL.blk ?_)
        refine AL.ret ?_
        try simp only [AU]
        refine ⟨by simp, Fin.data (by simp [resAs, resA]; rfl) hbox rfl htok (fun _ h => h) (Nat.le_refl _) ?_⟩
        simp [packA]
      · have b0 : ((sizeR c).2.2 != 0) = false := by simp [hs0]
        try (simp [b0, hs1])
        repeat ((repeat (first | refine AL.seq ?_ | refine AL.block ?_ | refine AL.skip ?_ | refine AL.blk ?_)); (refine AL.region follows_Try (Nat.le_refl _) (by kernel_rfl) ?_); simp [b0, hs1])
        repeat (first | refine AL.seq ?_ | refine AL.block ?_ | refine AL.skip ?_ | refine AL.blk ?_)
        refine AL.cond ?_
        simp
        try (simp)
        repeat ((repeat (first | refine AL.seq ?_ | refine AL.block ?_ | refine AL.skip ?_ | refine AL.blk ?_)); (refine AL.region follows_Try (Nat.le_refl _) (by kernel_rfl) ?_); simp)
        refine Stop.sub (args' := [b.av, .d (bytes [q]), I (1 : Nat)]) ⟨Sub.refl _, Sub.data _ _ _, Sub.refl _, trivial⟩ ?_
        refine Stop.of_d (hgr _ _) ?_
        simp
        try (simp)
        repeat ((repeat (first | refine AL.seq ?_ | refine AL.block ?_ | refine AL.skip ?_ | refine AL.blk ?_)); (refine AL.region follows_Try (Nat.le_refl _) (by kernel_rfl) ?_); simp)
        refine Stop.of_d (hof _ _) ?_
        simp
        try (simp)
        repeat ((repeat (first | refine AL.seq ?_ | refine AL.block ?_ | refine AL.skip ?_ | refine AL.blk ?_)); (refine AL.region follows_Try (Nat.le_refl _) (by kernel_rfl) ?_); simp)
        refine Stop.of_d (hsh _ _) ?_
        simp
        try (simp)
        repeat ((repeat (first | refine AL.seq ?_ | refine AL.block ?_ | refine AL.skip ?_ | refine AL.blk ?_)); (refine AL.region follows_Try (Nat.le_refl _) (by kernel_rfl) ?_); simp)
        by_cases he : D.2 = 0
        · have be : (D.2 != 0) = false := by simp [he]
          try (simp [be])
          repeat ((repeat (first | refine AL.seq ?_ | refine AL.block ?_ | refine AL.skip ?_ | refine AL.blk ?_)); (refine AL.region follows_Try (Nat.le_refl _) (by kernel_rfl) ?_); simp [be])
          repeat (first | refine AL.seq ?_ | refine AL.block ?_ | refine AL.skip ?_ | refine AL.blk ?_)
          refine AL.cond ?_
          simp
          try (simp)
          repeat ((repeat (first | refine AL.seq ?_ | refine AL.block ?_ | refine AL.skip ?_ | refine AL.blk ?_)); (refine AL.region follows_Try (Nat.le_refl _) (by kernel_rfl) ?_); simp)
          obtain ⟨hdf, hdb, hdv, hdo, hdd, hdh, _⟩ := hd he
          generalize D.1 = d at *
          have hst := cdShift_c b b2 (idM b) d hbf hb2f hib hdf
          rw [shift_emb hEb hdv] at hst
          have hert := shd_err hdo hEb
          have hdt := fun h => shd_ok hdo hdf hdd hEb hb2f h
          generalize shdR b2 (idM b) d = T at *
          refine Stop.of_d (hof _ _) ?_
          simp
          try (simp)
          repeat ((repeat (first | refine AL.seq ?_ | refine AL.block ?_ | refine AL.skip ?_ | refine AL.blk ?_)); (refine AL.region follows_Try (Nat.le_refl _) (by kernel_rfl) ?_); simp)
          refine Stop.of_d (hs2 _ _) ?_
          simp
          try (simp)
          repeat ((repeat (first | refine AL.seq ?_ | refine AL.block ?_ | refine AL.skip ?_ | refine AL.blk ?_)); (refine AL.region follows_Try (Nat.le_refl _) (by kernel_rfl) ?_); simp)
          refine Stop.of_d (hofb _ _) ?_
          simp
          try (simp)
          repeat ((repeat (first | refine AL.seq ?_ | refine AL.block ?_ | refine AL.skip ?_ | refine AL.blk ?_)); (refine AL.region follows_Try (Nat.le_refl _) (by kernel_rfl) ?_); simp)
          refine Stop.of_d (hst _ _) ?_
          simp
          try (simp)
          repeat ((repeat (first | refine AL.seq ?_ | refine AL.block ?_ | refine AL.skip ?_ | refine AL.blk ?_)); (refine AL.region follows_Try (Nat.le_refl _) (by kernel_rfl) ?_); simp)
          by_cases hf : D2.2 = 0
          · by_cases ht : T.2 = 0
            · have bf : (D2.2 != 0) = false := by simp [hf]
              have bt : (T.2 != 0) = false := by simp [ht]
              try (simp [bf, bt])
              repeat ((repeat (first | refine AL.seq ?_ | refine AL.block ?_ | refine AL.skip ?_ | refine AL.blk ?_)); (refine AL.region follows_Try (Nat.le_refl _) (by kernel_rfl) ?_); simp [bf, bt])
              repeat (first | refine AL.seq ?_ | refine AL.block ?_ | refine AL.skip ?_ | refine AL.blk ?_)
              refine AL.cond ?_
              simp
              try (simp [bf, bt])
              repeat ((repeat (first | refine AL.seq ?_ | refine AL.block ?_ | refine AL.skip ?_ | refine AL.blk ?_)); (refine AL.region follows_Try (Nat.le_refl _) (by kernel_rfl) ?_); simp [bf, bt])
              obtain ⟨h2f, h2b, h2v, h2o, h2d, h2h, _⟩ := hd2 hf
              obtain ⟨htf, htb, htv, hto, htd, hth, _⟩ := hdt ht
              generalize D2.1 = d2 at *
              generalize T.1 = t at *
              refine Stop.sub (args' := [b2.av, g.av, mNil.av, mNil.av]) ⟨Sub.refl _, Sub.refl _, Sub.agg ⟨Sub.nil _ _ _, Sub.nil _ _ _, trivial⟩, Sub.agg ⟨Sub.nil _ _ _, Sub.nil _ _ _, trivial⟩, trivial⟩ ?_
              refine Stop.of_d (hex _ _) ?_
              simp
              try (simp)
              repeat ((repeat (first | refine AL.seq ?_ | refine AL.block ?_ | refine AL.skip ?_ | refine AL.blk ?_)); (refine AL.region follows_Try (Nat.le_refl _) (by kernel_rfl) ?_); simp)
              repeat (first | refine AL.seq ?_ | refine AL.block ?_ | refine AL.skip ?_ | refine AL.blk ?_)
              refine AL.loopT (stTw b2 g d2 t L nb box tok nt) (fun i => i ≤ L.length) (fun i => L.length - i) 0 (Nat.zero_le _) (Weaks.mk (Nat.le_refl _) rfl (by simp [ToL, lk]) (by simp [BoxL, lk])) ?_
              rintro i S hi hS
              simp only [stTw] at hS
              subst hS
              have hw : IntKind.i64.wrap (↑i + 1) = ((i + 1 : Nat) : Int) := by rw [wrap_in (by omega) (by omega)]; rfl
              try (simp)
              repeat ((repeat (first | refine AL.seq ?_ | refine AL.block ?_ | refine AL.skip ?_ | refine AL.blk ?_)); (refine AL.region follows_Try (Nat.le_refl _) (by kernel_rfl) ?_); simp)
              repeat (first | refine AL.seq ?_ | refine AL.block ?_ | refine AL.skip ?_ | refine AL.blk ?_)
              refine AL.cond ?_
              simp
              refine ⟨fun hlt => ?_, fun hge => ?_⟩
              · have hn := hem _ (List.getElem_mem hlt)
                generalize hLn : L[i] = n at *
                have hnf : n.Fit := emb_fit hn (by omega) (by omega)
                have hme := takeM_emb hbe hn
                have s1 := satisfies_c b2 d2 g n hb2f h2f hgf hnf
                have s2 := satisfies_c b2 t g n hb2f htf hgf hnf
                rw [sat_emb hn h2v, h2h g n hn, takeM_eq hae hn] at s1
                rw [sat_emb hn htv, hth g n hn, takeM_eq hbe hn, hdh g _ hme, takeM_eq hab hme, takeM_takeM _ hab.le.1 hab.le.2] at s2
                generalize c.hol g (takeM a n) = v at *
                try (simp [hlt, hLn])
                repeat ((repeat (first | refine AL.seq ?_ | refine AL.block ?_ | refine AL.skip ?_ | refine AL.blk ?_)); (refine AL.region follows_Try (Nat.le_refl _) (by kernel_rfl) ?_); simp [hlt, hLn])
                repeat (first | refine AL.seq ?_ | refine AL.block ?_ | refine AL.skip ?_ | refine AL.blk ?_)
                refine AL.cond ?_
                simp
                refine ⟨fun h4 => ?_, fun h4 => ?_⟩
                · repeat (first | refine AL.seq ?_ | refine AL.block ?_ | refine AL.skip ?_ | refine AL.blk ?_)
                  refine AL.exit ?_
                  simp only [AU, ↓reduceIte]
                  try (simp)
                  repeat ((repeat (first | refine AL.seq ?_ | refine AL.block ?_ | refine AL.skip ?_ | refine AL.blk ?_)); (refine AL.region follows_Try (Nat.le_refl _) (by kernel_rfl) ?_); simp)
                  repeat (first | refine AL.seq ?_ | refine AL.block ?_ | refine AL.skip ?_ | refine AL.blk ?_)
                  refine AL.ret ?_
                  try simp only [AU]
                  refine ⟨by simp, Fin.data (by simp [resAs, resA]; rfl) hbox rfl htok (fun _ h => h) (Nat.le_refl _) ?_⟩
                  simp [packA]
                · try (simp)
                  repeat ((repeat (first | refine AL.seq ?_ | refine AL.block ?_ | refine AL.skip ?_ | refine AL.blk ?_)); (refine AL.region follows_Try (Nat.le_refl _) (by kernel_rfl) ?_); simp)
                  refine Stop.of_d (s1 _ _) ?_
                  simp
                  try (simp)
                  repeat ((repeat (first | refine AL.seq ?_ | refine AL.block ?_ | refine AL.skip ?_ | refine AL.blk ?_)); (refine AL.region follows_Try (Nat.le_refl _) (by kernel_rfl) ?_); simp)
                  refine Stop.of_d (s2 _ _) ?_
                  simp
                  try (simp)
                  repeat ((repeat (first | refine AL.seq ?_ | refine AL.block ?_ | refine AL.skip ?_ | refine AL.blk ?_)); (refine AL.region follows_Try (Nat.le_refl _) (by kernel_rfl) ?_); simp)
                  cases v
                  · try (simp)
                    repeat ((repeat (first | refine AL.seq ?_ | refine AL.block ?_ | refine AL.skip ?_ | refine AL.blk ?_)); (refine AL.region follows_Try (Nat.le_refl _) (by kernel_rfl) ?_); simp)
                    repeat (first | refine AL.seq ?_ | refine AL.block ?_ | refine AL.skip ?_ | refine AL.blk ?_)
                    refine AL.cond ?_
                    simp
                    try (simp [hw])
                    repeat ((repeat (first | refine AL.seq ?_ | refine AL.block ?_ | refine AL.skip ?_ | refine AL.blk ?_)); (refine AL.region follows_Try (Nat.le_refl _) (by kernel_rfl) ?_); simp [hw])
                    repeat (first | refine AL.seq ?_ | refine AL.block ?_ | refine AL.skip ?_ | refine AL.blk ?_)
                    refine AL.nil ?_
                    exact ⟨i + 1, hlt, by omega, Weaks.mk (Nat.le_refl _) rfl (by simp [ToL, lk]) (by simp [BoxL, lk])⟩
                  · try (simp)
                    repeat ((repeat (first | refine AL.seq ?_ | refine AL.block ?_ | refine AL.skip ?_ | refine AL.blk ?_)); (refine AL.region follows_Try (Nat.le_refl _) (by kernel_rfl) ?_); simp)
                    repeat (first | refine AL.seq ?_ | refine AL.block ?_ | refine AL.skip ?_ | refine AL.blk ?_)
                    refine AL.cond ?_
                    simp
                    try (simp [hw])
                    repeat ((repeat (first | refine AL.seq ?_ | refine AL.block ?_ | refine AL.skip ?_ | refine AL.blk ?_)); (refine AL.region follows_Try (Nat.le_refl _) (by kernel_rfl) ?_); simp [hw])
                    repeat (first | refine AL.seq ?_ | refine AL.block ?_ | refine AL.skip ?_ | refine AL.blk ?_)
                    refine AL.nil ?_
                    exact ⟨i + 1, hlt, by omega, Weaks.mk (Nat.le_refl _) rfl (by simp [ToL, lk]) (by simp [BoxL, lk])⟩
              · repeat (first | refine AL.seq ?_ | refine AL.block ?_ | refine AL.skip ?_ | refine AL.blk ?_)
                refine AL.exit ?_
                simp only [AU, ↓reduceIte]
                try (simp)
                repeat ((repeat (first | refine AL.seq ?_ | refine AL.block ?_ | refine AL.skip ?_ | refine AL.blk ?_)); (refine AL.region follows_Try (Nat.le_refl _) (by kernel_rfl) ?_); simp)
                repeat (first | refine AL.seq ?_ | refine AL.block ?_ | refine AL.skip ?_ | refine AL.blk ?_)
                refine AL.ret ?_
                try simp only [AU]
                refine ⟨by simp, Fin.data (by simp [resAs, resA]; rfl) hbox rfl htok (fun _ h => h) (Nat.le_refl _) ?_⟩
                simp [packA]
            · have bf : (D2.2 != 0) = false := by simp [hf]
              have bt : (T.2 != 0) = true := by simp [ht]
              have ht3 : T.2 = 3 := by rcases hert with h | h; exact absurd h ht; exact h
              try (simp [hf, ht3])
              repeat ((repeat (first | refine AL.seq ?_ | refine AL.block ?_ | refine AL.skip ?_ | refine AL.blk ?_)); (refine AL.region follows_Try (Nat.le_refl _) (by kernel_rfl) ?_); simp [hf, ht3])
              repeat (first | refine AL.seq ?_ | refine AL.block ?_ | refine AL.skip ?_ | refine AL.blk ?_)
              refine AL.cond ?_
              simp
              try (simp [hf, ht3])
              repeat ((repeat (first | refine AL.seq ?_ | refine AL.block ?_ | refine AL.skip ?_ | refine AL.blk ?_)); (refine AL.region follows_Try (Nat.le_refl _) (by kernel_rfl) ?_); simp [hf, ht3])
              repeat (first | refine AL.seq ?_ | refine AL.block ?_ | refine AL.skip ?_ | refine AL.blk ?_)
              refine AL.ret ?_
              try simp only [AU]
              refine ⟨by simp, Fin.data (by simp [resAs, resA]; rfl) hbox rfl htok (fun _ h => h) (Nat.le_refl _) ?_⟩
              simp [packA]
          · have hf3 : D2.2 = 3 := by rcases her2 with h | h; exact absurd h hf; exact h
            rcases hert with ht | ht
            · try (simp [hf3, ht])
              repeat ((repeat (first | refine AL.seq ?_ | refine AL.block ?_ | refine AL.skip ?_ | refine AL.blk ?_)); (refine AL.region follows_Try (Nat.le_refl _) (by kernel_rfl) ?_); simp [hf3, ht])
              repeat (first | refine AL.seq ?_ | refine AL.block ?_ | refine AL.skip ?_ | refine AL.blk ?_)
              refine AL.cond ?_
              simp
              try (simp [hf3, ht])
              repeat ((repeat (first | refine AL.seq ?_ | refine AL.block ?_ | refine AL.skip ?_ | refine AL.blk ?_)); (refine AL.region follows_Try (Nat.le_refl _) (by kernel_rfl) ?_); simp [hf3, ht])
              repeat (first | refine AL.seq ?_ | refine AL.block ?_ | refine AL.skip ?_ | refine AL.blk ?_)
              refine AL.ret ?_
              try simp only [AU]
              refine ⟨by simp, Fin.data (by simp [resAs, resA]; rfl) hbox rfl htok (fun _ h => h) (Nat.le_refl _) ?_⟩
              simp [packA]
            · try (simp [hf3, ht])
              repeat ((repeat (first | refine AL.seq ?_ | refine AL.block ?_ | refine AL.skip ?_ | refine AL.blk ?_)); (refine AL.region follows_Try (Nat.le_refl _) (by kernel_rfl) ?_); simp [hf3, ht])
              repeat (first | refine AL.seq ?_ | refine AL.block ?_ | refine AL.skip ?_ | refine AL.blk ?_)
              refine AL.cond ?_
              simp
              try (simp [hf3, ht])
              repeat ((repeat (first | refine AL.seq ?_ | refine AL.block ?_ | refine AL.skip ?_ | refine AL.blk ?_)); (refine AL.region follows_Try (Nat.le_refl _) (by kernel_rfl) ?_); simp [hf3, ht])
              repeat (first | refine AL.seq ?_ | refine AL.block ?_ | refine AL.skip ?_ | refine AL.blk ?_)
              refine AL.ret ?_
              try simp only [AU]
              refine ⟨by simp, Fin.data (by simp [resAs, resA]; rfl) hbox rfl htok (fun _ h => h) (Nat.le_refl _) ?_⟩
              simp [packA]
        · have be : (D.2 != 0) = true := by simp [he]
          have he3 : D.2 = 3 := by rcases herr with h | h; exact absurd h he; exact h
          try (simp [be])
          repeat ((repeat (first | refine AL.seq ?_ | refine AL.block ?_ | refine AL.skip ?_ | refine AL.blk ?_)); (refine AL.region follows_Try (Nat.le_refl _) (by kernel_rfl) ?_); simp [be])
          repeat (first | refine AL.seq ?_ | refine AL.block ?_ | refine AL.skip ?_ | refine AL.blk ?_)
          refine AL.cond ?_
          simp
          try (simp [he3])
          repeat ((repeat (first | refine AL.seq ?_ | refine AL.block ?_ | refine AL.skip ?_ | refine AL.blk ?_)); (refine AL.region follows_Try (Nat.le_refl _) (by kernel_rfl) ?_); simp [he3])
          repeat (first | refine AL.seq ?_ | refine AL.block ?_ | refine AL.skip ?_ | refine AL.blk ?_)
          refine AL.ret ?_
          try simp only [AU]
          refine ⟨by simp, Fin.data (by simp [resAs, resA]; rfl) hbox rfl htok (fun _ h => h) (Nat.le_refl _) ?_⟩
          simp [packA]
    · have b0 : ((sizeR c).2.2 != 0) = true := by simp [hs0]
      try (simp [b0])
      repeat ((repeat (first | refine AL.seq ?_ | refine AL.block ?_ | refine AL.skip ?_ | refine AL.blk ?_)); (refine AL.region follows_Try (Nat.le_refl _) (by kernel_rfl) ?_); simp [b0])
      repeat (first | refine AL.seq ?_ | refine AL.block ?_ | refine AL.skip ?_ | refine AL.blk ?_)
      refine AL.cond ?_
      simp
      try (simp)
      repeat ((repeat (first | refine AL.seq ?_ | refine AL.block ?_ | refine AL.skip ?_ | refine AL.blk ?_)); (refine AL.region follows_Try (Nat.le_refl _) (by kernel_rfl) ?_); simp)
      repeat (first | refine AL.seq ?_ | refine AL.block ?_ | refine AL.skip ?_ | refine AL.blk ?_)
      refine AL.ret ?_
      try simp only [AU]
      refine ⟨by simp, Fin.data (by simp [resAs, resA]; rfl) hbox rfl htok (fun _ h => h) (Nat.le_refl _) ?_⟩
      simp [packA]
end Go.AM
/-
  The abstract machine, twenty-second part: from a statement's reading of the arguments to slots, and from a contract to the statement.
-/
namespace Go.AM
open Go Go.ChangeShapes
set_option linter.unusedSimpArgs false
set_option linter.unusedVariables false

variable {P : Program}

/-- Cells that read as data. -/
def Rd (w : World) (cs : List Value) (ds : List D) : Prop := cs.length = ds.length ∧ ∀ i (h1 : i < cs.length) (h2 : i < ds.length), RVd w.cell? (fun _ => True) ds[i] cs[i]

theorem Rd.append {w : World} {cs cs' : List Value} {ds ds' : List D} (h : Rd w cs ds) (k : Rd w cs' ds') : Rd w (cs ++ cs') (ds ++ ds') := by
  refine ⟨by simp [h.1, k.1], fun i h1 h2 => ?_⟩
  by_cases hi : i < cs.length
  · rw [List.getElem_append_left hi, List.getElem_append_left (by rw [← h.1]; exact hi)]
    exact h.2 i hi _
  · have hl := h.1
    rw [List.getElem_append_right (by omega), List.getElem_append_right (by omega)]
    have := k.2 (i - cs.length) (by simp at h1; omega) (by have := k.1; simp at h1; omega)
    simpa [hl] using this
theorem Rd.one {w : World} {c : Value} {d : D} (h : RVd w.cell? (fun _ => True) d c) : Rd w [c] [d] := ⟨rfl, fun i h1 h2 => by
  have : i = 0 := by simpa using h1
  subst this
  exact h⟩

/-- What it takes is within reach. -/
def Light {H : Type} (P : Program) (T : TypeId) (d : DataW H) : Prop := (d.weights P T).all (· ≤ reachBytes) = true

/-- How the cells of a type read as data: as the images of values of a Lean type. -/
structure Rdr (P : Program) (T : TypeId) (α : Type) where
  enc : α → List D
  ok : α → Prop
  len : ∀ x, (enc x).length = P.cellsOf T
  sound : ∀ {H : Type} (e : TypeId × Value → H) (w : World) (base : Nat) (spare : Nat → Bool) (held : Bool) (fuel : Nat) (cs : List Value) (x : DataW H × List MemPlace),
    DataW.trod e P w base spare held fuel T cs = some x → ∃ y, Rd w cs (enc y) ∧ (Light P T x.1 → ok y)

def Rdr.int {T : TypeId} {k : IntKind} (h : P.underlying T = some (.int k)) (hc : P.cellsOf T = 1) : Rdr P T Int where
  enc n := [.raw (.int k n)]
  ok n := (Lit.int k n).wf = true
  len _ := by simp [hc]
  sound e w base spare held fuel cs x hx := by
    cases fuel with
    | zero => simp [DataW.trod] at hx
    | succ n =>
      unfold DataW.trod at hx
      rw [h] at hx
      split at hx <;> simp_all
      rename_i k' n' _
      exact ⟨n', Rd.one (.raw rfl), fun _ => hx.1.2⟩

theorem cells_spec {w : World} {base : Nat} {a : Addr} {n : Nat} {l : List Value} (h : w.cells? base a n = some l) : l.length = n ∧ ∀ i (hi : i < l.length), w.cell? (a.add i) = some l[i] := by
  unfold World.cells? at h
  split at h
  · have h1 : l.length = n := by have := mapM_some_length h; simpa using this
    refine ⟨h1, fun i hi => ?_⟩
    have hin : i < n := by omega
    have := mapM_some_get h i i (by simp [hin])
    rw [this]
    exact List.getElem?_eq_getElem hi
  · cases h

theorem light_slice {H : Type} {T E : TypeId} (h : P.underlying T = some (.slice E)) {elems rest : List (DataW H)} (hl : Light P T (.slice elems rest)) : elems.length * P.bytesOf E ≤ reachBytes ∧ ∀ d ∈ elems, Light P E d := by
  unfold Light at hl ⊢
  simp only [DataW.weights, h, List.all_cons, List.all_append, Bool.and_eq_true, decide_eq_true_eq] at hl
  refine ⟨Nat.le_trans (Nat.mul_le_mul_right _ (Nat.le_add_right _ _)) hl.1, ?_⟩
  have key : ∀ l : List (DataW H), (DataW.weightsAll P E l).all (· ≤ reachBytes) = true → ∀ d ∈ l, (d.weights P E).all (· ≤ reachBytes) = true := by
    intro l
    induction l with
    | nil => intro _ d hd; simp at hd
    | cons x l ih =>
      intro hx d hd
      simp only [DataW.weightsAll, List.all_append, Bool.and_eq_true] at hx
      rcases List.mem_cons.1 hd with rfl | hd
      · exact hx.1
      · exact ih hx.2 d hd
  exact key elems hl.2.1

def Rdr.slice {T E : TypeId} {α : Type} (r : Rdr P E α) (h : P.underlying T = some (.slice E)) (hc : P.cellsOf T = 1) : Rdr P T (List α) where
  enc l := [.sl (P.cellsOf E) (l.map r.enc)]
  ok l := (∀ x ∈ l, r.ok x) ∧ l.length * P.bytesOf E ≤ reachBytes
  len _ := by simp [hc]
  sound e w base spare held fuel cs x hx := by
    rcases DataW.trod_slice h hx with ⟨rfl, rfl⟩ | ⟨a, len, cap, elems, rest, n, rfl, rfl, rfl, hb, hl, hm, hel, hat, _⟩
    · exact ⟨[], Rd.one (.sl (es := []) (fun _ _ => default) (Nat.le_refl _) (by decide) (by simp) (by simp) (by simp) (by simp)), fun _ => ⟨by simp, by simp⟩⟩
    · have key : ∀ i (hi : i < elems.length), ∃ cs y, cs.length = P.cellsOf E ∧ (∀ j (hj : j < cs.length), w.cell? (a.add (i * P.cellsOf E + j)) = some cs[j]) ∧ Rd w cs (r.enc y) ∧ (Light P E elems[i].1 → r.ok y) := by
        intro i hi
        have h1 := hat i (by omega)
        have h2 : elems[i]? = some elems[i] := List.getElem?_eq_getElem hi
        rw [h2, Option.bind_eq_some_iff] at h1
        obtain ⟨cs, hcs, htr⟩ := h1
        obtain ⟨hcl, hcc⟩ := cells_spec hcs
        obtain ⟨y, hy, hok⟩ := r.sound e w base spare held n cs _ htr
        refine ⟨cs, y, hcl, fun j hj => ?_, hy, hok⟩
        rw [← Addr.add_add]
        exact hcc j hj
      have pick : ∀ m, m ≤ elems.length → ∃ ys : List α, ys.length = m ∧ (∀ i (hi : i < ys.length) (hi2 : i < elems.length), ∃ cs, cs.length = P.cellsOf E ∧ (∀ j (hj : j < cs.length), w.cell? (a.add (i * P.cellsOf E + j)) = some cs[j]) ∧ Rd w cs (r.enc ys[i]) ∧ (Light P E elems[i].1 → r.ok ys[i])) := by
        intro m
        induction m with
        | zero => intro _; exact ⟨[], rfl, fun i hi => by simp at hi⟩
        | succ m ih =>
          intro hm'
          obtain ⟨ys, hys, hall⟩ := ih (by omega)
          obtain ⟨cs, y, g1, g2, g3, g4⟩ := key m (by omega)
          refine ⟨ys ++ [y], by simp [hys], fun i hi hi2 => ?_⟩
          by_cases him : i < ys.length
          · rw [List.getElem_append_left him]
            exact hall i him hi2
          · have : i = m := by simp at hi; omega
            subst this
            have e1 : (ys ++ [y])[i] = y := by
              rw [List.getElem_append_right (by omega)]
              simp
            rw [e1]
            exact ⟨cs, g1, g2, g3, g4⟩
      obtain ⟨ys, hys, hall⟩ := pick elems.length (Nat.le_refl _)
      refine ⟨ys, Rd.one ?_, fun hli => ?_⟩
      · have hlen : len = ys.length := by omega
        subst hlen
        have hml : ys.length = (ys.map r.enc).length := by simp
        rw [hml]
        refine .sl (fun i j => (w.cell? (a.add (i * P.cellsOf E + j))).getD default) (by simpa using hl) hm (fun e he => ?_) (fun _ => ⟨a, rfl⟩) (fun a' ha' i j hi hj => ?_) (fun i j hi hj => ?_)
        · obtain ⟨y, _, rfl⟩ := List.mem_map.1 he
          exact r.len y
        · cases ha'
          obtain ⟨cs, g1, g2, _⟩ := hall i (by simpa using hi) (by simp at hi; omega)
          rw [g2 j (by omega)]
          exact ⟨trivial, rfl⟩
        · obtain ⟨cs, g1, g2, g3, _⟩ := hall i (by simpa using hi) (by simp at hi; omega)
          simp only [List.getElem_map] at hj ⊢
          have hjc : j < cs.length := by rw [g3.1]; exact hj
          rw [g2 j hjc]
          exact g3.2 j hjc hj
      · obtain ⟨w1, w2⟩ := light_slice h hli
        refine ⟨fun y hy => ?_, by simpa [hys] using w1⟩
        obtain ⟨i, hi, rfl⟩ := List.getElem_of_mem hy
        obtain ⟨_, _, _, _, h4⟩ := hall i hi (by omega)
        exact h4 (w2 _ (List.mem_map.2 ⟨_, List.getElem_mem _, rfl⟩))

def Rdr.map {T : TypeId} {α β : Type} (r : Rdr P T α) (f : α → β) (enc : β → List D) (ok : β → Prop) (he : ∀ x, enc (f x) = r.enc x) (hok : ∀ x, r.ok x → ok (f x)) (hl : ∀ y, (enc y).length = P.cellsOf T) : Rdr P T β where
  enc := enc
  ok := ok
  len := hl
  sound e w base spare held fuel cs x hx := by
    obtain ⟨y, h1, h2⟩ := r.sound e w base spare held fuel cs x hx
    exact ⟨f y, by rw [he]; exact h1, fun hl => hok y (h2 hl)⟩

/-- A slice, its elements' size named. -/
def Rdr.sliceN {T E : TypeId} {α : Type} (r : Rdr P E α) (n : Nat) (h : P.underlying T = some (.slice E)) (hc : P.cellsOf T = 1) (hn : P.cellsOf E = n) : Rdr P T (List α) where
  enc l := [.sl n (l.map r.enc)]
  ok l := (∀ x ∈ l, r.ok x) ∧ l.length * P.bytesOf E ≤ reachBytes
  len _ := by simp [hc]
  sound := by
    subst hn
    exact (Rdr.slice r h hc).sound

theorem list2 {α : Type} {l : List α} (h : l.length = 2) : l = [l[0]'(by omega), l[1]'(by omega)] := by
  match l, h with
  | [p, q], _ => rfl
theorem list3 {α : Type} {l : List α} (h : l.length = 3) : l = [l[0]'(by omega), l[1]'(by omega), l[2]'(by omega)] := by
  match l, h with
  | [p, q, r], _ => rfl

def Rdr.struct2 {T A B : TypeId} {α β : Type} (r : Rdr P A α) (s : Rdr P B β) {f0 f1 : Field} (h : P.underlying T = some (.struct #[f0, f1])) (hA : f0.type = A) (hB : f1.type = B) (h0 : f0.offset = 0) (h1 : f1.offset = P.cellsOf A)
    (hc : P.cellsOf T = P.cellsOf A + P.cellsOf B) : Rdr P T (α × β) where
  enc x := r.enc x.1 ++ s.enc x.2
  ok x := r.ok x.1 ∧ s.ok x.2
  len x := by simp [r.len, s.len, hc]
  sound e w base spare held fuel cs x hx := by
    obtain ⟨xs, n, rfl, rfl, hl, hxs, hat⟩ := DataW.trod_struct h hx
    have hxs' : xs.length = 2 := hxs
    have g0 := hat 0 f0 rfl
    have g1 := hat 1 f1 rfl
    have e0 : xs[0]? = some (xs[0]'(by omega)) := List.getElem?_eq_getElem (by omega)
    have e1 : xs[1]? = some (xs[1]'(by omega)) := List.getElem?_eq_getElem (by omega)
    rw [e0, h0, hA] at g0
    rw [e1, h1, hB] at g1
    obtain ⟨y, k1, k2⟩ := r.sound e w base spare held n _ _ g0
    obtain ⟨z, m1, m2⟩ := s.sound e w base spare held n _ _ g1
    refine ⟨(y, z), ?_, fun hli => ?_⟩
    rotate_left
    · unfold Light at hli k2 m2
      have e2 : xs = [xs[0]'(by omega), xs[1]'(by omega)] := list2 hxs'
      rw [e2] at hli
      simp only [List.map_cons, List.map_nil, DataW.weights, h, DataW.weightsEach, hA, hB, List.all_append, Bool.and_eq_true] at hli
      exact ⟨k2 hli.1, m2 hli.2.1⟩
    have hcs : cs = (cs.drop 0).take (P.cellsOf A) ++ (cs.drop (P.cellsOf A)).take (P.cellsOf B) := by
      have : (cs.drop (P.cellsOf A)).take (P.cellsOf B) = cs.drop (P.cellsOf A) := List.take_of_length_le (by simp; omega)
      rw [this, List.drop_zero, List.take_append_drop]
    rw [hcs]
    exact k1.append m1

/-! ### The start -/
def G0 : Gh := ⟨fun _ => none, fun _ => none, fun _ => .whole, 0⟩
def m0 : AMem := ⟨fun _ => none, 0, fun _ => false, 0⟩
theorem G0_ps (a : Addr) : G0.ps a := trivial
theorem relM_start (W : World) : RelM G0 m0 W := by
  constructor
  case box => intro k rows b sz h; cases h
  case nobox => intro k _; rfl
  case inj => intro k k' b sz sz' h; cases h
  case nb => intro k _; rfl
  case nt => rfl
  case toks => intro t h; cases h
  case tokb => intro t g h; cases h
  case tinj => intro t t' g h; cases h
  case tnt => intro t x h; cases h
  case fresh => intro b _; rfl

theorem RVd.start {W : World} {d : D} {v : Value} (h : RVd W.cell? (fun _ => True) d v) : RVd W.cell? G0.ps d v := h.mono fun a u _ hc => ⟨G0_ps a, hc⟩

/-- A struct that came in. -/
theorem Rdr.agg {T : TypeId} {α : Type} (r : Rdr P T α) {W : World} {base base' : Nat} {sp : Nat → Bool} {held : Bool} {H : Type} {enc : TypeId × Value → H} {v : Value} {d : DataW H} {p : List MemPlace}
    (hs : aggT P T = some true) (hv : Value.okWide P W .any base T v) (h : DataW.Trod enc P W base' sp held T v d p) (hli : Light P T d) : ∃ y, r.ok y ∧ RV G0 W (.agg ((r.enc y).map .d)) v := by
  have hcs : ∃ cs, v = .agg cs := by
    unfold aggT at hs
    unfold Value.okWide at hv
    cases hu : P.underlying T with
    | none => rw [hu] at hs; simp at hs
    | some u =>
      rw [hu] at hs hv
      cases u <;> simp at hs hv <;> exact ⟨_, hv.choose_spec.1⟩
  obtain ⟨cs, rfl⟩ := hcs
  obtain ⟨fuel, h⟩ := h
  obtain ⟨y, ⟨h1, h2⟩, hok⟩ := r.sound enc W base' sp held fuel _ _ h
  refine ⟨y, hok hli, ?_⟩
  simp only [Value.cells] at h1 h2
  have := RV.agg (G := G0) (w := W) (cs := (r.enc y).map .d) (vs := cs.toList) (by simp [h1]) (fun i g1 g2 => by
    simp only [List.getElem_map]
    exact .d (h2 i g2 (by simpa using g1)).start) (fun v hv => by
    obtain ⟨i, hi, rfl⟩ := List.getElem_of_mem hv
    exact (h2 i hi (by omega)).one)
  simpa using this

/-- A number or a slice that came in. -/
theorem Rdr.cell {T : TypeId} {α : Type} (r : Rdr P T α) {W : World} {base base' : Nat} {sp : Nat → Bool} {held : Bool} {H : Type} {enc : TypeId × Value → H} {v : Value} {d : DataW H} {p : List MemPlace} (f : α → D)
    (hs : aggT P T = some false) (hf : ∀ y, r.enc y = [f y]) (hv : Value.okWide P W .any base T v) (h : DataW.Trod enc P W base' sp held T v d p) (hli : Light P T d) : ∃ y, r.ok y ∧ RV G0 W (.d (f y)) v := by
  obtain ⟨fuel, h⟩ := h
  obtain ⟨y, ⟨h1, h2⟩, hok⟩ := r.sound enc W base' sp held fuel _ _ h
  refine ⟨y, hok hli, ?_⟩
  rw [hf] at h1
  have hcs : v.cells.toList = [v] := by
    cases v with
    | agg cs =>
      exfalso
      unfold aggT at hs
      unfold Value.okWide Cell.okWide Cell.ok at hv
      cases hu : P.underlying T with
      | none => rw [hu] at hs; simp at hs
      | some u =>
        rw [hu] at hs hv
        cases u <;> simp_all
    | _ => rfl
  have := h2 0 (by rw [h1]; simp) (by rw [hf]; simp)
  simp only [hf, List.getElem_cons_zero] at this
  have e : v.cells.toList[0]'(by rw [h1]; simp) = v := by simp [hcs]
  rw [e] at this
  exact .d this.start

theorem light_arg {H : Type} {ts : List TypeId} {ds : List (DataW H)} (hz : (DataW.weightsEach P ts ds).all (· ≤ reachBytes) = true) {j : Nat} {T : TypeId} {d : DataW H} (ht : ts[j]? = some T) (hd : ds[j]? = some d) : Light P T d :=
  List.all_eq_true.2 fun x hx => List.all_eq_true.1 hz x (DataW.weights_mem_each ht hd x hx)

theorem arg_agg {ps : Array TypeId} {args : Array Value} {W : World} {base base' : Nat} {sp : Nat → Bool} {held : Bool} {H : Type} {enc : TypeId × Value → H} (hval : ∀ (j : Nat) t v, ps[j]? = some t → args[j]? = some v → Value.okWide P W .any base t v)
    (j : Nat) (T : TypeId) (v : Value) (hp : ps[j]? = some T) (ha : args[j]? = some v) {α : Type} (r : Rdr P T α) {d : DataW H} {p : List MemPlace} (hs : aggT P T = some true) (h : DataW.Trod enc P W base' sp held T v d p) (hli : Light P T d) :
    ∃ y, r.ok y ∧ RV G0 W (.agg ((r.enc y).map .d)) v := r.agg hs (hval j T v hp ha) h hli
theorem arg_cell {ps : Array TypeId} {args : Array Value} {W : World} {base base' : Nat} {sp : Nat → Bool} {held : Bool} {H : Type} {enc : TypeId × Value → H} (hval : ∀ (j : Nat) t v, ps[j]? = some t → args[j]? = some v → Value.okWide P W .any base t v)
    (j : Nat) (T : TypeId) (v : Value) (hp : ps[j]? = some T) (ha : args[j]? = some v) {α : Type} (r : Rdr P T α) (f : α → D) {d : DataW H} {p : List MemPlace} (hs : aggT P T = some false) (hf : ∀ y, r.enc y = [f y]) (h : DataW.Trod enc P W base' sp held T v d p) (hli : Light P T d) :
    ∃ y, r.ok y ∧ RV G0 W (.d (f y)) v := r.cell f hs hf (hval j T v hp ha) h hli

/-! ### The end -/
theorem le_old {W W' : World} {G' : Gh} (h : Le G0 W G' W') (b : Nat) (hb : b < W.heap.size) : W'.heap[b]? = W.heap[b]? := (h.whole b hb rfl).2
theorem le_kept {W W' : World} {G' : Gh} (h : Le G0 W G' W') (may : MemPlace → Prop) : W.keptBut W' may := by
  refine ⟨h.os, h.output, fun i hi => ?_⟩
  rw [le_old h i hi]
  split
  · rename_i c t fr c' t' fr' e1 e2
    rw [e1] at e2
    cases e2
    exact ⟨rfl, rfl, rfl, fun _ _ => rfl⟩
  · rename_i e1 e2
    rw [e1] at e2
    cases e2
    exact .inr ⟨rfl, rfl⟩
  · rfl
theorem le_same {W W' : World} {G' : Gh} (h : Le G0 W G' W') {p : MemPlace} (hp : p.block < W.heap.size) : W.sameAt W' p := by
  cases p with
  | cell b off => exact World.cell?_of_block (w := W) (a := ⟨b, off, none⟩) (le_old h b hp)
  | map b => exact le_old h b hp
theorem trodAll_stays {H : Type} {enc : TypeId × Value → H} {W W' : World} {T : TypeId → Prop} {sp' : Nat → Bool} (K : Kids P T) (hsz : ∀ {t e : TypeId}, T t → P.underlying t = some (.slice e) → 0 < P.cellsOf e) :
    ∀ {ts : List TypeId} {vs : List Value} {ds : List (DataW H)} {ps : List MemPlace}, (∀ t ∈ ts, T t) → DataW.TrodAll enc P W 0 (fun _ => true) true ts vs ds ps → (∀ p ∈ ps, W.sameAt W' p) → (∀ p ∈ ps, sp' p.block = true) →
    DataW.TrodAll enc P W' 0 sp' true ts vs ds ps
  | [], [], [], _, _, h, _, _ => h
  | t :: ts, v :: vs, d :: ds, _, hT, ⟨p, q, ⟨n, hn⟩, h2, e⟩, h3, h4 => by
    subst e
    exact ⟨p, q, ⟨n, DataW.trod_stays K hsz (fun h => by cases h) (hT t (by simp)) hn (fun x hx => h3 x (by simp [hx])) (fun x hx => h4 x (by simp [hx]))⟩,
      trodAll_stays K hsz (fun t ht => hT t (by simp [ht])) h2 (fun x hx => h3 x (by simp [hx])) (fun x hx => h4 x (by simp [hx])), rfl⟩

/-- A law: its contract says that it returns true. -/
theorem law_of {f : FuncId} {fn : Func} {s : ChangeSpec} {H : Type} {enc : TypeId × Value → H} {W : World} {args : Array Value} {ds : List (DataW H)} {before : List MemPlace} {avs : List AV} {tok' : Nat → Bool} {nt' : Nat}
    (hl : laidOutB P = true) (hm : mapsRowed P = true) (hz : ((List.range P.types.size).all fun t => match P.underlying t with | some (.slice e) => decide (0 < P.cellsOf e) | _ => true) = true)
    (hpar : fn.params.all (· < P.types.size) = true) {tb : TypeId} (hres : fn.resultTypes = #[tb]) (hb : P.underlying tb = some .bool)
    (hvars : s.vars = []) (hfn : s.fn H ds = { results := [.lit (.bool true)], args := ds })
    (hW : DataW.Whole enc P fn.params.toList s.vars false W args.toList ds [] before) (hr : RVs G0 W avs args.toList) (hc : DCall P f avs (fun _ => false) 0 (B true) tok' nt') :
    Calls P f args W fun e W' => ∃ v, e = .returned v ∧ s.post enc P fn false true false false W args v W' := by
  have hcall := (hc (fun _ => none) 0).2 G0 W args.toList (relM_start W) hr
  simp only [Array.toArray_toList] at hcall
  refine hcall.mono ?_
  rintro e W' ⟨v, av, m', G', rfl, ⟨rfl, rfl⟩, _, _, hv, hle, _⟩
  cases hv with
  | d hv =>
    cases hv with
    | raw =>
      refine ⟨_, rfl, ?_⟩
      have hlt := hW.lt
      have hWW := hW
      obtain ⟨p, q, hA, hV, rfl, hfz, hnd⟩ := hW
      rw [hvars] at hV
      obtain ⟨_, rfl⟩ := trodVars_none hV
      simp only [List.append_nil] at hlt hfz hWW ⊢
      have hT : ∀ t ∈ fn.params.toList, t < P.types.size := fun t ht => by
        have := Array.all_eq_true_iff_forall_mem.1 hpar t (by simpa using ht)
        simpa using this
      have hsz : ∀ {t e : TypeId}, t < P.types.size → P.underlying t = some (.slice e) → 0 < P.cellsOf e := by
        intro t e ht hu
        have := List.all_eq_true.1 hz t (List.mem_range.2 ht)
        rw [hu] at this
        simpa using this
      have hargs : ∀ sp : Nat → Bool, (∀ x ∈ p, sp x.block = true) → DataW.TrodAll enc P W' 0 sp true fn.params.toList args.toList ds p := fun sp hsp =>
        trodAll_stays (kids_rows hl hm) hsz hT hA (fun x hx => le_same hle (hlt x hx)) hsp
      have hnat : (Value.bool true).resultList fn.resultTypes.size = [.bool true] := by rw [hres]; rfl
      have hresb : ∀ (b : Nat) (sp : Nat → Bool) (hd : Bool), DataW.TrodAll enc P W' b sp hd fn.resultTypes.toList ((Value.bool true).resultList fn.resultTypes.size) [.lit (.bool true)] [] := fun b sp hd => by
        rw [hnat, hres]
        exact trodAll_mk1 ⟨1, by simp [DataW.trod, hb, Value.cells]⟩
      have hfn' : s.fn H (ds ++ []) = { results := [.lit (.bool true)], args := ds } := by rw [List.append_nil]; exact hfn
      refine ⟨ds, [], p, [], p, [], hWW, ?_, ?_, ?_, World.keptBut_mono (fun _ f => f.elim) (le_kept hle fun _ => False), fun h => by cases h⟩
      · rw [hfn']; exact hresb _ _ _
      · rw [hfn']; exact hargs _ fun x hx => by simpa using hlt x hx
      · rw [hfn', hvars]; exact rfl
end Go.AM
/-
  What the arguments of this chapter's statements read as: graphs, morphisms, overlaps.
-/
namespace Go.AM
open Go Go.Proofs

theorem own0 : ownKnob Try.prog.godebug = none := by kernel_rfl
theorem laidOut0 : laidOutB Try.prog = true := by kernel_rfl
theorem mapsRowed0 : mapsRowed Try.prog = true := by kernel_rfl
theorem slices0 : ((List.range Try.prog.types.size).all fun t => match Try.prog.underlying t with | some (.slice e) => decide (0 < Try.prog.cellsOf e) | _ => true) = true := by kernel_rfl

end Go.AM
