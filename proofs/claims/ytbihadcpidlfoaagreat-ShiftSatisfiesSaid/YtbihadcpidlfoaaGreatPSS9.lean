import Derived.Test.YtbihadcpidlfoaaGreatPSS8
import Derived.WalkKit
import Derived.ProofKit
import Derived.OpenShut
import Derived.ChangeStays
import Derived.SizedLaws
/-
  The reference's finder: nodes, Extensions.
-/
namespace Go.AM
open Go Go.Proofs
set_option linter.unusedSimpArgs false
set_option linter.unusedVariables false

def candN33 (p g : Gr) (x m : Mo) (r : Nat) (L : List Int) (k : Nat) : List Mo := if (!decide ((k : Int) ∈ L) && okXN p g x m L.length k) = true then exN p g x m r (L ++ [(k : Int)]) else []
theorem exN_succ (p g : Gr) (x m : Mo) (r : Nat) (L : List Int) : exN p g x m (r + 1) L = (List.range g.nodes.length).flatMap (candN33 p g x m r L) := rfl
theorem exN_zero (p g : Gr) (x m : Mo) (L : List Int) : exN p g x m 0 L = exE p g x m L p.edges.length [] := rfl
def stFn (p g : Gr) (x m : Mo) (L : List Int) (nb k : Nat) (box : Nat → Option (List (List AV))) (y : AccM) : AState :=
  ⟨tl [(0, .ptr k 0 0), (1, .d (ints L)), (4, I L.length), (5, I (indexI x.nodes L.length)), (6, I y.i)],
    lb nb (upd box k (some [fiRow p g x m y.out y.own])) [], y.tok, y.nt⟩

set_option maxRecDepth 100000 in
theorem nodes33_c (p g : Gr) (x m : Mo) (h : FiH p g x m) : ∀ (r : Nat) (L : List Int) (out : List Mo) (own : Own) (box : Nat → Option (List (List AV))) (nb k : Nat) (tok : Nat → Bool) (nt : Nat), L.length + r = p.nodes.length →
    out.length + (exN p g x m r L).length ≤ 1000000000000 → box k = some [fiRow p g x m out own] → own.liveP tok →
    ACalls Tryz.prog 75 [.ptr k 0 0, .d (ints L)] ⟨box, nb, tok, nt⟩ (QFi p g x m box nb k tok nt own (out ++ exN p g x m r L)) := by
  intro r
  induction r with
  | zero =>
    intro L out own box nb k tok nt hL hroom hk hlive
    have hpe := h.fp.n
    rw [exN_zero] at hroom ⊢
    refine ACalls.of_body Tryz.func75 rfl (by kernel_rfl) follows_Tryz (by kernel_rfl) (by simp [Tryz.ntmps75]) ?_
    intro hbox htok
    simp only at hbox htok
    apply AL.start
    have hkn := key_lt hbox hk
    have hLe : (L.length : Int) = (p.nodes.length : Int) := by omega
    try (simp [lb_out hkn, hk])
    repeat ((repeat (first | refine AL.seq ?_ | refine AL.block ?_ | refine AL.skip ?_ | refine AL.blk ?_)); (refine AL.region follows_Tryz (Nat.le_refl _) (by kernel_rfl) ?_); simp [lb_out hkn, hk])
    have hb : ((L.length : Int) == (p.nodes.length : Int)) = true := by simp [hLe]
    simp only [hb]
    repeat (first | refine AL.seq ?_ | refine AL.block ?_ | refine AL.skip ?_ | refine AL.blk ?_)
    refine AL.cond ?_
    simp
    try (simp [lb_out hkn, hk])
    repeat ((repeat (first | refine AL.seq ?_ | refine AL.block ?_ | refine AL.skip ?_ | refine AL.blk ?_)); (refine AL.region follows_Tryz (Nat.le_refl _) (by kernel_rfl) ?_); simp [lb_out hkn, hk])
    refine Stop.sub (args' := [.ptr k 0 0, .d (ints L), .d (ints [])]) ⟨Sub.refl _, Sub.refl _, Sub.nil _ _ _, trivial⟩ ?_
    refine Stop.of_a (edges33_c p g x m L h (by omega) p.edges.length [] out own _ _ k _ _ (by simp) hroom (by simp only [lb_out hkn, hk]) hlive) ?_
    rintro v M ⟨rfl, own3, tok3, nt3, rfl, hadv⟩
    simp [upd_lb_out hkn]
    try (simp)
    repeat ((repeat (first | refine AL.seq ?_ | refine AL.block ?_ | refine AL.skip ?_ | refine AL.blk ?_)); (refine AL.region follows_Tryz (Nat.le_refl _) (by kernel_rfl) ?_); simp)
    repeat (first | refine AL.seq ?_ | refine AL.block ?_ | refine AL.skip ?_ | refine AL.blk ?_)
    refine AL.ret ?_
    try simp only [AU]
    refine ⟨by simp, (Fin.gen (vs := []) (av := .tup []) (tok' := tok3) (nt' := nt3) (by simp [resAs, resA]) ?_ hadv.le (Nat.le_refl _) (fun t h => ⟨h, .inl rfl⟩) (fiOk (by simp)) (by simp [packA])).mono fun v M hq => ⟨hq.1, own3, tok3, nt3, hq.2, hadv⟩⟩
    rw [← upd_lb_out hkn, hbox]
  | succ r ih =>
    intro L out own box nb k tok nt hL hroom hk hlive
    have hself : box = upd box k (some [fiRow p g x m out own]) := (upd_self box k _ hk).symm
    have hpe := h.fp.n
    have hge := h.fg.n
    have hlt : L.length < p.nodes.length := by omega
    refine ACalls.of_body Tryz.func75 rfl (by kernel_rfl) follows_Tryz (by kernel_rfl) (by simp [Tryz.ntmps75]) ?_
    intro hbox htok
    simp only at hbox htok
    apply AL.start
    have hkn := key_lt hbox hk
    try (simp [lb_out hkn, hk])
    repeat ((repeat (first | refine AL.seq ?_ | refine AL.block ?_ | refine AL.skip ?_ | refine AL.blk ?_)); (refine AL.region follows_Tryz (Nat.le_refl _) (by kernel_rfl) ?_); simp [lb_out hkn, hk])
    have hb : ((L.length : Int) == (p.nodes.length : Int)) = false := by simp; omega
    simp only [hb]
    repeat (first | refine AL.seq ?_ | refine AL.block ?_ | refine AL.skip ?_ | refine AL.blk ?_)
    refine AL.cond ?_
    simp
    try (simp [lb_out hkn, hk, hlt])
    repeat ((repeat (first | refine AL.seq ?_ | refine AL.block ?_ | refine AL.skip ?_ | refine AL.blk ?_)); (refine AL.region follows_Tryz (Nat.le_refl _) (by kernel_rfl) ?_); simp [lb_out hkn, hk, hlt])
    refine Stop.of_d (index33_c x.nodes L.length h.fx.n _ _) ?_
    simp
    try (simp [lb_out hkn, hk, hlt])
    repeat ((repeat (first | refine AL.seq ?_ | refine AL.block ?_ | refine AL.skip ?_ | refine AL.blk ?_)); (refine AL.region follows_Tryz (Nat.le_refl _) (by kernel_rfl) ?_); simp [lb_out hkn, hk, hlt])
    repeat (first | refine AL.seq ?_ | refine AL.block ?_ | refine AL.skip ?_ | refine AL.blk ?_)
    have hcand : ∀ i : Nat, candN33 p g x m r L i = if (!decide ((i : Int) ∈ L) && (decide (g.nodes.getD i 0 = p.nodes.getD L.length 0) && atB x.nodes m.nodes L.length i)) = true then exN p g x m r (L ++ [(i : Int)]) else [] := fun i => rfl
    have hpi : p.nodes.getD L.length 0 = p.nodes[L.length] := by simp [hlt]
    rw [hpi] at hcand
    have hlb : ∀ loc, lb nb box loc = lb nb (upd box k (some [fiRow p g x m out own])) loc := fun loc => by rw [← hself]
    rw [hlb]
    rw [exN_succ] at hroom ⊢
    refine AL.loopT (stFn p g x m L nb k box) (fun y => y.i ≤ g.nodes.length ∧ y.out = out ++ (List.range y.i).flatMap (candN33 p g x m r L) ∧ Adv tok nt own y.tok y.nt y.own) (fun y => g.nodes.length - y.i)
      ⟨0, out, own, tok, nt⟩ ⟨Nat.zero_le _, by simp, Adv.refl hlive htok⟩ (Weaks.mk' (Nat.le_refl _) (by simp [ToL, lk]; exact to_ptr (by rw [lb_out hkn, upd_same]; simp)) (by simp [BoxL, lk]) (fiOk rfl)) ?_
    rintro ⟨i, out2, own2, tok2, nt2⟩ S ⟨hi, hout, hadv2⟩ hS
    simp only [stFn] at hS hi hout hadv2
    subst hS
    have hw : IntKind.i64.wrap (↑i + 1) = ((i + 1 : Nat) : Int) := by rw [wrap_in (by omega) (by omega)]; rfl
    have hsucc : (List.range (i + 1)).flatMap (candN33 p g x m r L) = (List.range i).flatMap (candN33 p g x m r L) ++ candN33 p g x m r L i := by rw [List.range_succ, List.flatMap_append]; simp
    try (simp [lb_out hkn, upd_same])
    repeat ((repeat (first | refine AL.seq ?_ | refine AL.block ?_ | refine AL.skip ?_ | refine AL.blk ?_)); (refine AL.region follows_Tryz (Nat.le_refl _) (by kernel_rfl) ?_); simp [lb_out hkn, upd_same])
    repeat (first | refine AL.seq ?_ | refine AL.block ?_ | refine AL.skip ?_ | refine AL.blk ?_)
    refine AL.cond ?_
    simp
    refine ⟨fun hli => ?_, fun hge => ?_⟩
    · have hcand' := hcand i
      try (simp [lb_out hkn, upd_same])
      repeat ((repeat (first | refine AL.seq ?_ | refine AL.block ?_ | refine AL.skip ?_ | refine AL.blk ?_)); (refine AL.region follows_Tryz (Nat.le_refl _) (by kernel_rfl) ?_); simp [lb_out hkn, upd_same])
      refine Stop.of_d (used33_c L i (by omega) _ _) ?_
      simp [lb_out hkn, upd_same]
      have hgi : g.nodes.getD i 0 = g.nodes[i] := by simp [hli]
      rw [hgi] at hcand'
      by_cases hin : (i : Int) ∈ L
      · have hc0 : candN33 p g x m r L i = [] := by rw [hcand', if_neg (by simp [hin])]
        simp [hin]
        try (simp [lb_out hkn, upd_same])
        repeat ((repeat (first | refine AL.seq ?_ | refine AL.block ?_ | refine AL.skip ?_ | refine AL.blk ?_)); (refine AL.region follows_Tryz (Nat.le_refl _) (by kernel_rfl) ?_); simp [lb_out hkn, upd_same])
        repeat (first | refine AL.seq ?_ | refine AL.block ?_ | refine AL.skip ?_ | refine AL.blk ?_)
        refine AL.cond ?_
        simp
        try (simp [hw])
        repeat ((repeat (first | refine AL.seq ?_ | refine AL.block ?_ | refine AL.skip ?_ | refine AL.blk ?_)); (refine AL.region follows_Tryz (Nat.le_refl _) (by kernel_rfl) ?_); simp [hw])
        repeat (first | refine AL.seq ?_ | refine AL.block ?_ | refine AL.skip ?_ | refine AL.blk ?_)
        refine AL.nil ?_
        refine ⟨⟨i + 1, out2, own2, tok2, nt2⟩, ⟨hli, by simp only; rw [hsucc, hc0, List.append_nil]; exact hout, hadv2⟩, by simp only; omega, Weaks.mk' hadv2.le (by simp [ToL, lk]; exact to_ptr (by rw [lb_out hkn, upd_same]; simp)) (by simp [BoxL, lk]) (fiOk rfl)⟩
      · by_cases hE : g.nodes[i] = p.nodes[L.length]
        · have hat : atB x.nodes m.nodes L.length i = (decide (indexI x.nodes L.length < 0) || decide (m.nodes.getD (indexI x.nodes L.length).toNat 0 = i)) := rfl
          have hidx : indexI x.nodes L.length < 0 ∨ (0 ≤ indexI x.nodes L.length ∧ (indexI x.nodes L.length).toNat < m.nodes.length ∧ indexI x.nodes L.length < m.nodes.length) := by
            rcases indexI_cases x.nodes L.length with ⟨_, h1⟩ | ⟨j, hj, h1, _⟩
            · left; omega
            · right; have := h.ln; rw [h1]; omega
          generalize hqe : indexI x.nodes ↑L.length = q at *
          rcases hidx with hq | ⟨hq0, hq1, hq2⟩
          · simp [hin, lb_out hkn, upd_same, hli, hlt, hE, hq]
            try (simp [lb_out hkn, upd_same, hq])
            repeat ((repeat (first | refine AL.seq ?_ | refine AL.block ?_ | refine AL.skip ?_ | refine AL.blk ?_)); (refine AL.region follows_Tryz (Nat.le_refl _) (by kernel_rfl) ?_); simp [lb_out hkn, upd_same, hq])
            have hc1 : candN33 p g x m r L i = exN p g x m r (L ++ [(i : Int)]) := by rw [hcand', if_pos (by simp [hin, hE, hat, hq])]
            repeat (first | refine AL.seq ?_ | refine AL.block ?_ | refine AL.skip ?_ | refine AL.blk ?_)
            refine AL.cond ?_
            simp
            try (simp [lb_out hkn, upd_same])
            repeat ((repeat (first | refine AL.seq ?_ | refine AL.block ?_ | refine AL.skip ?_ | refine AL.blk ?_)); (refine AL.region follows_Tryz (Nat.le_refl _) (by kernel_rfl) ?_); simp [lb_out hkn, upd_same])
            refine ⟨by omega, by omega, ?_⟩
            refine Stop.data ?_
            simp only [List.map, AV.asD]
            rw [rI_snoc]
            have had := Adv.fresh hadv2.live hadv2.lt
            have hlen := flat_le (candN33 p g x m r L) (show i + 1 ≤ g.nodes.length from hli)
            rw [hsucc, hc1, List.length_append] at hlen
            refine Stop.of_a (ih (L ++ [(i : Int)]) out2 own2 _ _ k _ _ (by simp; omega) (by rw [hout, List.length_append]; omega) (by simp only [lb_out hkn, upd_same]) had.live) ?_
            rintro v M ⟨rfl, own3, tok3, nt3, rfl, hadv⟩
            simp [upd_lb_out hkn, upd_upd]
            have had3 : Adv tok nt own tok3 nt3 own3 := hadv2.trans htok (had.trans hadv2.lt hadv)
            clear hadv had
            try (simp [hw])
            repeat ((repeat (first | refine AL.seq ?_ | refine AL.block ?_ | refine AL.skip ?_ | refine AL.blk ?_)); (refine AL.region follows_Tryz (Nat.le_refl _) (by kernel_rfl) ?_); simp [hw])
            repeat (first | refine AL.seq ?_ | refine AL.block ?_ | refine AL.skip ?_ | refine AL.blk ?_)
            refine AL.nil ?_
            refine ⟨⟨i + 1, out2 ++ exN p g x m r (L ++ [(i : Int)]), own3, tok3, nt3⟩, ⟨hli, by simp only; rw [hsucc, hc1, hout, List.append_assoc], had3⟩, by simp only; omega, ?_⟩
            simp only [stFn]
            refine Weaks.mk' had3.le ?_ ?_ (fiOk rfl)
            · simp [ToL, lk, hqe]
              exact to_ptr (by rw [lb_out hkn, upd_same]; simp)
            · simp [BoxL, lk]
          · have hq : ¬ q < 0 := by omega
            have hmf : m.nodes.getD q.toNat 0 = m.nodes[q.toNat] := by simp [hq1]
            rw [hmf] at hat
            by_cases hm : m.nodes[q.toNat] = (i : Int)
            · simp [hin, hq, lb_out hkn, upd_same, hli, hlt, hE, hq0, hq1, hq2, hm]
              try (simp [lb_out hkn, upd_same, hq])
              repeat ((repeat (first | refine AL.seq ?_ | refine AL.block ?_ | refine AL.skip ?_ | refine AL.blk ?_)); (refine AL.region follows_Tryz (Nat.le_refl _) (by kernel_rfl) ?_); simp [lb_out hkn, upd_same, hq])
              have hc1 : candN33 p g x m r L i = exN p g x m r (L ++ [(i : Int)]) := by rw [hcand', if_pos (by simp [hin, hE, hat, hq, hm])]
              repeat (first | refine AL.seq ?_ | refine AL.block ?_ | refine AL.skip ?_ | refine AL.blk ?_)
              refine AL.cond ?_
              simp
              try (simp [lb_out hkn, upd_same])
              repeat ((repeat (first | refine AL.seq ?_ | refine AL.block ?_ | refine AL.skip ?_ | refine AL.blk ?_)); (refine AL.region follows_Tryz (Nat.le_refl _) (by kernel_rfl) ?_); simp [lb_out hkn, upd_same])
              refine ⟨by omega, by omega, ?_⟩
              refine Stop.data ?_
              simp only [List.map, AV.asD]
              rw [rI_snoc]
              have had := Adv.fresh hadv2.live hadv2.lt
              have hlen := flat_le (candN33 p g x m r L) (show i + 1 ≤ g.nodes.length from hli)
              rw [hsucc, hc1, List.length_append] at hlen
              refine Stop.of_a (ih (L ++ [(i : Int)]) out2 own2 _ _ k _ _ (by simp; omega) (by rw [hout, List.length_append]; omega) (by simp only [lb_out hkn, upd_same]) had.live) ?_
              rintro v M ⟨rfl, own3, tok3, nt3, rfl, hadv⟩
              simp [upd_lb_out hkn, upd_upd]
              have had3 : Adv tok nt own tok3 nt3 own3 := hadv2.trans htok (had.trans hadv2.lt hadv)
              clear hadv had
              try (simp [hw])
              repeat ((repeat (first | refine AL.seq ?_ | refine AL.block ?_ | refine AL.skip ?_ | refine AL.blk ?_)); (refine AL.region follows_Tryz (Nat.le_refl _) (by kernel_rfl) ?_); simp [hw])
              repeat (first | refine AL.seq ?_ | refine AL.block ?_ | refine AL.skip ?_ | refine AL.blk ?_)
              refine AL.nil ?_
              refine ⟨⟨i + 1, out2 ++ exN p g x m r (L ++ [(i : Int)]), own3, tok3, nt3⟩, ⟨hli, by simp only; rw [hsucc, hc1, hout, List.append_assoc], had3⟩, by simp only; omega, ?_⟩
              simp only [stFn]
              refine Weaks.mk' had3.le ?_ ?_ (fiOk rfl)
              · simp [ToL, lk, hqe]
                exact to_ptr (by rw [lb_out hkn, upd_same]; simp)
              · simp [BoxL, lk]
            · have hc0 : candN33 p g x m r L i = [] := by rw [hcand', if_neg (by simp [hat, hq, hm])]
              have hbm : (m.nodes[q.toNat] == (i : Int)) = false := by simp [hm]
              simp [hin, hq, lb_out hkn, upd_same, hli, hlt, hE, hq0, hq1, hq2, hbm]
              try (simp [lb_out hkn, upd_same, hq])
              repeat ((repeat (first | refine AL.seq ?_ | refine AL.block ?_ | refine AL.skip ?_ | refine AL.blk ?_)); (refine AL.region follows_Tryz (Nat.le_refl _) (by kernel_rfl) ?_); simp [lb_out hkn, upd_same, hq])
              repeat (first | refine AL.seq ?_ | refine AL.block ?_ | refine AL.skip ?_ | refine AL.blk ?_)
              refine AL.cond ?_
              simp
              try (simp [hw])
              repeat ((repeat (first | refine AL.seq ?_ | refine AL.block ?_ | refine AL.skip ?_ | refine AL.blk ?_)); (refine AL.region follows_Tryz (Nat.le_refl _) (by kernel_rfl) ?_); simp [hw])
              repeat (first | refine AL.seq ?_ | refine AL.block ?_ | refine AL.skip ?_ | refine AL.blk ?_)
              refine AL.nil ?_
              refine ⟨⟨i + 1, out2, own2, tok2, nt2⟩, ⟨hli, by simp only; rw [hsucc, hc0, List.append_nil]; exact hout, hadv2⟩, by simp only; omega, Weaks.mk' hadv2.le (by simp [ToL, lk, hqe]; exact to_ptr (by rw [lb_out hkn, upd_same]; simp)) (by simp [BoxL, lk]) (fiOk rfl)⟩
        · have hc0 : candN33 p g x m r L i = [] := by rw [hcand', if_neg (by simp [hE])]
          have hbE : (g.nodes[i] == p.nodes[L.length]) = false := by simp [hE]
          simp [hin, lb_out hkn, upd_same, hli, hlt, hbE]
          try (simp [lb_out hkn, upd_same])
          repeat ((repeat (first | refine AL.seq ?_ | refine AL.block ?_ | refine AL.skip ?_ | refine AL.blk ?_)); (refine AL.region follows_Tryz (Nat.le_refl _) (by kernel_rfl) ?_); simp [lb_out hkn, upd_same])
          repeat (first | refine AL.seq ?_ | refine AL.block ?_ | refine AL.skip ?_ | refine AL.blk ?_)
          refine AL.cond ?_
          simp
          try (simp [hw])
          repeat ((repeat (first | refine AL.seq ?_ | refine AL.block ?_ | refine AL.skip ?_ | refine AL.blk ?_)); (refine AL.region follows_Tryz (Nat.le_refl _) (by kernel_rfl) ?_); simp [hw])
          repeat (first | refine AL.seq ?_ | refine AL.block ?_ | refine AL.skip ?_ | refine AL.blk ?_)
          refine AL.nil ?_
          refine ⟨⟨i + 1, out2, own2, tok2, nt2⟩, ⟨hli, by simp only; rw [hsucc, hc0, List.append_nil]; exact hout, hadv2⟩, by simp only; omega, Weaks.mk' hadv2.le (by simp [ToL, lk]; exact to_ptr (by rw [lb_out hkn, upd_same]; simp)) (by simp [BoxL, lk]) (fiOk rfl)⟩
    · repeat (first | refine AL.seq ?_ | refine AL.block ?_ | refine AL.skip ?_ | refine AL.blk ?_)
      refine AL.exit ?_
      simp only [AU, ↓reduceIte]
      have hin : i = g.nodes.length := by omega
      subst hin
      repeat (first | refine AL.seq ?_ | refine AL.block ?_ | refine AL.skip ?_ | refine AL.blk ?_)
      refine AL.nil ?_
      refine ⟨by simp, (Fin.gen (vs := []) (av := .tup []) (tok' := tok2) (nt' := nt2) (by simp [resAs, resA]) ?_ hadv2.le (Nat.le_refl _) (fun t h => ⟨h, .inl rfl⟩) (fiOk (by simp)) (by simp [packA])).mono fun v M hq => ⟨hq.1, own2, tok2, nt2, ?_, hadv2⟩⟩
      · rw [← upd_lb_out hkn, hbox]
      · rw [hq.2, hout]

/-! ### Extensions -/
abbrev mos (l : List Mo) : D := .sl 2 (l.map Mo.cells)
theorem extensions_c (p g : Gr) (x m : Mo) (h : FiH p g x m) (hroom : (exts p g x m).length ≤ 1000000000000) (tok : Nat → Bool) (nt : Nat) : DCall Tryz.prog 55 [p.av, g.av, x.av, m.av] tok nt (.d (mos (exts p g x m))) tok nt := by
  intro box nb
  have hn := nodes33_c p g x m h p.nodes.length [] [] .full
  rw [show exN p g x m p.nodes.length [] = exts p g x m from rfl, List.nil_append] at hn
  have main : ACalls Tryz.prog 55 [p.av, g.av, x.av, m.av] ⟨box, nb, tok, nt⟩ fun v M => v = .d (mos (exts p g x m)) ∧ M = ⟨box, nb, tok, nt⟩ := by
    refine ACalls.of_body Tryz.func55 rfl (by kernel_rfl) follows_Tryz (by kernel_rfl) (by simp [Tryz.ntmps55]) ?_
    intro hbox htok
    simp only at hbox htok
    apply AL.start
    repeat (first | refine AL.seq ?_ | refine AL.block ?_ | refine AL.skip ?_ | refine AL.blk ?_)
    refine AL.region follows_Tryz (Nat.le_refl _) (by kernel_rfl) ?_
    simp
    repeat (first | refine AL.seq ?_ | refine AL.block ?_ | refine AL.skip ?_ | refine AL.blk ?_)
    refine AL.region follows_Tryz (Nat.le_refl _) (by kernel_rfl) ?_
    simp
    refine AL.weak (Weaks.mk (l' := [(9, .ptr (nb + 15) 0 0)]) (loc' := [(15, [fiRow p g x m [] .full])]) (Nat.le_refl _) rfl (by simp [ToL, lk]) (by simp [BoxL, lk])) ?_
    try (simp)
    repeat ((repeat (first | refine AL.seq ?_ | refine AL.block ?_ | refine AL.skip ?_ | refine AL.blk ?_)); (refine AL.region follows_Tryz (Nat.le_refl _) (by kernel_rfl) ?_); simp)
    refine Stop.sub (args' := [.ptr (nb + 15) 0 0, .d (ints [])]) ⟨Sub.refl _, Sub.nil _ _ _, trivial⟩ ?_
    refine Stop.of_a (hn _ _ (nb + 15) _ _ (by simp) (by simpa using hroom) (by simp [lb_at]) trivial) ?_
    rintro v M ⟨rfl, own3, tok3, nt3, rfl, hadv⟩
    simp
    try (simp)
    repeat ((repeat (first | refine AL.seq ?_ | refine AL.block ?_ | refine AL.skip ?_ | refine AL.blk ?_)); (refine AL.region follows_Tryz (Nat.le_refl _) (by kernel_rfl) ?_); simp)
    repeat (first | refine AL.seq ?_ | refine AL.block ?_ | refine AL.skip ?_ | refine AL.blk ?_)
    refine AL.ret ?_
    try simp only [AU]
    refine ⟨by simp, Fin.data (by simp [resAs, resA]; rfl) hbox rfl htok (fun t ht => hadv.keep t ht (by simp)) hadv.le ?_⟩
    simp [packA]
  exact main
end Go.AM
/-
  The reference's Holds.
-/
namespace Go.AM
open Go Go.Proofs
set_option linter.unusedSimpArgs false
set_option linter.unusedVariables false

theorem hol_exts {c : Cd} {a g : Gr} {m : Mo} (k5 : c.kind = 5) {x : Cd} (hx : c.kids = [x]) (hc : Emb a c.g c.m) (hm : Emb a g m) : c.hol g m = (exts c.g g c.m m).any fun q => x.hol g q := by
  rw [Bool.eq_iff_iff, ex_hol k5 hx hc hm, List.any_eq_true]
  constructor
  · rintro ⟨q, h1, h2, h3⟩
    exact ⟨q, (exts_iff hc hm q).2 ⟨h1, h2⟩, h3⟩
  · rintro ⟨q, h1, h3⟩
    obtain ⟨h1, h2⟩ := (exts_iff hc hm q).1 h1
    exact ⟨q, h1, h2, h3⟩
theorem pow_less {a n : Nat} (ha : a ≤ 8) (hn : n ≤ 4) : a ^ n ≤ 4096 :=
  Nat.le_trans (Nat.pow_le_pow_left ha n) (Nat.le_trans (Nat.pow_le_pow_right (by decide) hn) (by decide))
theorem exts_less {p g : Gr} {x m : Mo} (hp : p.nodes.length ≤ 4 ∧ p.edges.length ≤ 4) (hg : g.nodes.length ≤ 8 ∧ g.edges.length ≤ 8) : (exts p g x m).length ≤ 100000000 := by
  have h := exN_len p g x m p.nodes.length []
  have h1 := pow_less hg.1 hp.1
  have h2 := pow_less hg.2 hp.2
  have h3 := Nat.mul_le_mul h1 h2
  have h4 : (exts p g x m).length = (exN p g x m p.nodes.length []).length := rfl
  omega
theorem fits_here {c : Cd} (h : c.fits 4 4 = true) : (c.g.nodes.length ≤ 4 ∧ c.g.edges.length ≤ 4) ∧ ∀ x ∈ c.kids, Cd.fits x 4 4 = true := by
  rw [c.fits_eq, Bool.and_eq_true, List.all_eq_true] at h
  obtain ⟨h1, h2⟩ := h
  simp only [fitHere, Bool.and_eq_true, Bool.not_eq_true', decide_eq_false_iff_not, decide_eq_true_eq] at h1
  exact ⟨⟨by omega, by omega⟩, h2⟩
theorem hol_one {c : Cd} {g : Gr} {m : Mo} (h : c.kind = 1) : c.hol g m = true := by
  rw [Cd.hol_eq, h]; rfl
theorem hol_w1 {c : Cd} {g : Gr} {m : Mo} (h : c.kind = 3 ∨ c.kind = 4) {x : Cd} (hx : x ∈ c.kids) (e : x.hol g m = (c.kind == 4)) : c.hol g m = (c.kind == 4) := by
  rw [Cd.hol_eq]
  rcases h with h | h
  · rw [h] at e ⊢
    have : (c.kids.map fun x => x.hol g m).all id = false := List.all_eq_false.2 ⟨_, List.mem_map_of_mem hx, by simp [e]⟩
    exact this
  · rw [h] at e ⊢
    have : (c.kids.map fun x => x.hol g m).any id = true := List.any_eq_true.2 ⟨_, List.mem_map_of_mem hx, by simp [e]⟩
    exact this
theorem hol_w2 {c : Cd} {g : Gr} {m : Mo} (h : c.kind = 3 ∨ c.kind = 4) (e : ∀ x ∈ c.kids, x.hol g m = !(c.kind == 4)) : c.hol g m = (c.kind == 3) := by
  rw [Cd.hol_eq]
  rcases h with h | h
  · rw [h] at e ⊢
    have : (c.kids.map fun x => x.hol g m).all id = true := List.all_eq_true.2 fun y hy => by
      obtain ⟨x, hx, rfl⟩ := List.mem_map.1 hy
      simp [e x hx]
    exact this
  · rw [h] at e ⊢
    have : (c.kids.map fun x => x.hol g m).any id = false := List.any_eq_false.2 fun y hy => by
      obtain ⟨x, hx, rfl⟩ := List.mem_map.1 hy
      simp [e x hx]
    exact this
def stRe (c : Cd) (g : Gr) (L : List Mo) (nb : Nat) (box : Nat → Option (List (List AV))) (tok : Nat → Bool) (nt i : Nat) : AState :=
  ⟨tl [(8, I i), (7, .d (mos L)), (4, .ptr (nb + 4) 0 0), (3, .ptr (nb + 3) 0 0)], lb nb box [(4, [g.cells2]), (3, [c.row])], tok, nt⟩
def stRk (c : Cd) (g : Gr) (m : Mo) (nb : Nat) (box : Nat → Option (List (List AV))) (tok : Nat → Bool) (nt i : Nat) : AState :=
  ⟨tl [(9, I i), (5, .ptr (nb + 5) 0 0), (4, .ptr (nb + 4) 0 0), (3, .ptr (nb + 3) 0 0)], lb nb box [(5, [m.cells2]), (4, [g.cells2]), (3, [c.row])], tok, nt⟩
set_option maxRecDepth 100000 in
theorem refHolds_c : ∀ (k : Nat) (c : Cd), SizeOf.sizeOf c < k → c.Fit → c.fits 4 4 = true → ∀ a, c.ovr a = 0 → ∀ g : Gr, g.nodes.length ≤ 8 ∧ g.edges.length ≤ 8 → ∀ m, Emb a g m → m.Fit → ∀ (tok : Nat → Bool) (nt : Nat),
    DCall Tryz.prog 32 [c.av, g.av, m.av] tok nt (B (c.hol g m)) tok nt
  | 0, c, hn, _, _, _, _, _, _, _, _, _, tok, nt => absurd hn (Nat.not_lt_zero _)
  | k + 1, c, hn, hb, hf, a, hv, g, hg, m, hm, hmf, tok, nt => by
    intro box nb
    have ih := fun x (hx : x ∈ c.kids) => refHolds_c k x (by have := Cd.kid_lt hx; omega) (hb.kid x hx) ((fits_here hf).2 x hx) (c.inn a) ((Cd.ovr_zero hv).2.2 x hx) g hg
    have hc4 := (fits_here hf).1
    have hgf : g.Fit := ⟨by omega, by omega⟩
    have hkb := hb.kids
    rw [kidN_eq] at hkb
    have hR := c.hol_eq g m
    have hsk := shape_one (Cd.ovr_zero hv).1
    refine ACalls.of_body Tryz.func32 rfl (by kernel_rfl) follows_Tryz (by kernel_rfl) (by simp [Tryz.ntmps32]) ?_
    intro hbox htok
    simp only at hbox htok
    apply AL.start
    try (simp)
    repeat ((repeat (first | refine AL.seq ?_ | refine AL.block ?_ | refine AL.skip ?_ | refine AL.blk ?_)); (refine AL.region follows_Tryz (Nat.le_refl _) (by kernel_rfl) ?_); simp)
    by_cases k1 : c.kind = 1
    · have b1 : (c.kind == 1) = true := by simp [k1]
      have hR1 := hol_one (g := g) (m := m) k1
      simp only [b1]
      repeat (first | refine AL.seq ?_ | refine AL.block ?_ | refine AL.skip ?_ | refine AL.blk ?_)
      refine AL.cond ?_
      simp
      try (simp)
      repeat ((repeat (first | refine AL.seq ?_ | refine AL.block ?_ | refine AL.skip ?_ | refine AL.blk ?_)); (refine AL.region follows_Tryz (Nat.le_refl _) (by kernel_rfl) ?_); simp)
      repeat (first | refine AL.seq ?_ | refine AL.block ?_ | refine AL.skip ?_ | refine AL.blk ?_)
      refine AL.ret ?_
      try simp only [AU]
      refine ⟨by simp, Fin.data (by simp [resAs, resA]; rfl) hbox rfl htok (fun _ h => h) (Nat.le_refl _) ?_⟩
      simp [packA, hR1]
    · have b1 : (c.kind == 1) = false := by simp [k1]
      simp only [b1]
      repeat (first | refine AL.seq ?_ | refine AL.block ?_ | refine AL.skip ?_ | refine AL.blk ?_)
      refine AL.cond ?_
      simp
      try (simp)
      repeat ((repeat (first | refine AL.seq ?_ | refine AL.block ?_ | refine AL.skip ?_ | refine AL.blk ?_)); (refine AL.region follows_Tryz (Nat.le_refl _) (by kernel_rfl) ?_); simp)
      by_cases k2 : c.kind = 2
      · have b2 : (c.kind == 2) = true := by simp [k2]
        have hlt : 0 < c.kids.length := hsk (.inl k2)
        have hii : c.inn a = a := if_neg (by rw [k2]; decide)
        rw [hii] at ih
        have ihx := ih _ (List.getElem_mem hlt) m hm hmf
        have hR2 : c.hol g m = !(Cd.hol c.kids[0] g m) := by
          rw [hR, holStep, if_pos k2]
          congr 1
          match c.kids, hlt with
          | y :: r, _ => rfl
        simp only [b2]
        repeat (first | refine AL.seq ?_ | refine AL.block ?_ | refine AL.skip ?_ | refine AL.blk ?_)
        refine AL.cond ?_
        simp
        try (simp [hlt, Cd.cells_eq])
        repeat ((repeat (first | refine AL.seq ?_ | refine AL.block ?_ | refine AL.skip ?_ | refine AL.blk ?_)); (refine AL.region follows_Tryz (Nat.le_refl _) (by kernel_rfl) ?_); simp [hlt, Cd.cells_eq])
        generalize c.kids[0] = x at *
        refine Stop.of_d (ihx _ _) ?_
        simp
        try (simp)
        repeat ((repeat (first | refine AL.seq ?_ | refine AL.block ?_ | refine AL.skip ?_ | refine AL.blk ?_)); (refine AL.region follows_Tryz (Nat.le_refl _) (by kernel_rfl) ?_); simp)
        repeat (first | refine AL.seq ?_ | refine AL.block ?_ | refine AL.skip ?_ | refine AL.blk ?_)
        refine AL.ret ?_
        try simp only [AU]
        refine ⟨by simp, Fin.data (by simp [resAs, resA]; rfl) hbox rfl htok (fun _ h => h) (Nat.le_refl _) ?_⟩
        simp [packA, hR2]
      · have b2 : (c.kind == 2) = false := by simp [k2]
        simp only [b2]
        repeat (first | refine AL.seq ?_ | refine AL.block ?_ | refine AL.skip ?_ | refine AL.blk ?_)
        refine AL.cond ?_
        simp
        try (simp)
        repeat ((repeat (first | refine AL.seq ?_ | refine AL.block ?_ | refine AL.skip ?_ | refine AL.blk ?_)); (refine AL.region follows_Tryz (Nat.le_refl _) (by kernel_rfl) ?_); simp)
        by_cases k5 : c.kind = 5
        · have b5 : (c.kind == 5) = true := by simp [k5]
          simp only [b5]
          repeat (first | refine AL.seq ?_ | refine AL.block ?_ | refine AL.skip ?_ | refine AL.blk ?_)
          refine AL.cond ?_
          simp
          obtain ⟨hX, x, hkx⟩ := ovr_ex hv k5
          have hR5 := hol_exts k5 hkx hX hm
          have h0lt : 0 < c.kids.length := by rw [hkx]; exact Nat.one_pos
          have hk0 : c.kids[0] = x := by simp [hkx]
          have hii : c.inn a = c.g := if_pos k5
          rw [hii] at ih
          have ihx := ih x (by rw [hkx]; simp)
          have hl1 := hX.vm.ln
          have hl2 := hX.vm.le
          have hl3 := hm.vm.ln
          have hl4 := hm.vm.le
          have hfew := exts_less (x := c.m) (m := m) hc4 hg
          have hex := extensions_c c.g g c.m m ⟨hb.g, hgf, hb.m, validG_edges hX.vm.vb, by omega, by omega⟩ (by omega)
          have hem : ∀ q ∈ exts c.g g c.m m, Emb c.g g q := fun q hq => ((exts_iff hX hm q).1 hq).1
          generalize exts c.g g c.m m = L at *
          try (simp)
          repeat ((repeat (first | refine AL.seq ?_ | refine AL.block ?_ | refine AL.skip ?_ | refine AL.blk ?_)); (refine AL.region follows_Tryz (Nat.le_refl _) (by kernel_rfl) ?_); simp)
          refine Stop.of_d (hex _ _) ?_
          simp
          try (simp)
          repeat ((repeat (first | refine AL.seq ?_ | refine AL.block ?_ | refine AL.skip ?_ | refine AL.blk ?_)); (refine AL.region follows_Tryz (Nat.le_refl _) (by kernel_rfl) ?_); simp)
          repeat (first | refine AL.seq ?_ | refine AL.block ?_ | refine AL.skip ?_ | refine AL.blk ?_)
          refine AL.loopT (stRe c g L nb box tok nt) (fun i => i ≤ L.length ∧ ∀ q ∈ L.take i, x.hol g q = false) (fun i => L.length - i) 0 ⟨Nat.zero_le _, by simp⟩ (Weaks.mk (Nat.le_refl _) rfl (by simp [ToL, lk]) (by simp [BoxL, lk])) ?_
          rintro i S ⟨hi, hz⟩ hS
          simp only [stRe] at hS
          subst hS
          have hw : IntKind.i64.wrap (↑i + 1) = ((i + 1 : Nat) : Int) := by rw [wrap_in (by omega) (by omega)]; rfl
          try (simp)
          repeat ((repeat (first | refine AL.seq ?_ | refine AL.block ?_ | refine AL.skip ?_ | refine AL.blk ?_)); (refine AL.region follows_Tryz (Nat.le_refl _) (by kernel_rfl) ?_); simp)
          repeat (first | refine AL.seq ?_ | refine AL.block ?_ | refine AL.skip ?_ | refine AL.blk ?_)
          refine AL.cond ?_
          simp
          refine ⟨fun hlt => ?_, fun hge => ?_⟩
          · have hn := hem _ (List.getElem_mem hlt)
            have hyes : x.hol g L[i] = true → L.any (fun q => x.hol g q) = true := fun h => List.any_eq_true.2 ⟨_, List.getElem_mem hlt, h⟩
            have hno : x.hol g L[i] = false → ∀ q ∈ L.take (i + 1), x.hol g q = false := fun h q hq => by
              rw [List.take_succ_eq_append_getElem hlt] at hq
              rcases List.mem_append.1 hq with hq | hq
              · exact hz q hq
              · rw [List.mem_singleton] at hq; subst hq; exact h
            try (simp [hlt, h0lt, hk0, Cd.cells_eq])
            repeat ((repeat (first | refine AL.seq ?_ | refine AL.block ?_ | refine AL.skip ?_ | refine AL.blk ?_)); (refine AL.region follows_Tryz (Nat.le_refl _) (by kernel_rfl) ?_); simp [hlt, h0lt, hk0, Cd.cells_eq])
            generalize L[i] = n at *
            have hnf : n.Fit := ⟨by rw [hn.vm.ln]; omega, by rw [hn.vm.le]; omega⟩
            have s1 := ihx n hn hnf
            refine Stop.of_d (s1 _ _) ?_
            simp
            cases h7 : x.hol g n
            · repeat (first | refine AL.seq ?_ | refine AL.block ?_ | refine AL.skip ?_ | refine AL.blk ?_)
              refine AL.cond ?_
              simp
              try (simp [hw])
              repeat ((repeat (first | refine AL.seq ?_ | refine AL.block ?_ | refine AL.skip ?_ | refine AL.blk ?_)); (refine AL.region follows_Tryz (Nat.le_refl _) (by kernel_rfl) ?_); simp [hw])
              repeat (first | refine AL.seq ?_ | refine AL.block ?_ | refine AL.skip ?_ | refine AL.blk ?_)
              refine AL.nil ?_
              exact ⟨i + 1, ⟨hlt, hno h7⟩, by omega, Weaks.mk (Nat.le_refl _) rfl (by simp [ToL, lk]) (by simp [BoxL, lk])⟩
            · have hy := hyes h7
              repeat (first | refine AL.seq ?_ | refine AL.block ?_ | refine AL.skip ?_ | refine AL.blk ?_)
              refine AL.cond ?_
              simp
              try (simp)
              repeat ((repeat (first | refine AL.seq ?_ | refine AL.block ?_ | refine AL.skip ?_ | refine AL.blk ?_)); (refine AL.region follows_Tryz (Nat.le_refl _) (by kernel_rfl) ?_); simp)
              repeat (first | refine AL.seq ?_ | refine AL.block ?_ | refine AL.skip ?_ | refine AL.blk ?_)
              refine AL.ret ?_
              try simp only [AU]
              refine ⟨by simp, Fin.data (by simp [resAs, resA]; rfl) hbox rfl htok (fun _ h => h) (Nat.le_refl _) ?_⟩
              simp [packA, hR5, hy]
          · repeat (first | refine AL.seq ?_ | refine AL.block ?_ | refine AL.skip ?_ | refine AL.blk ?_)
            refine AL.exit ?_
            simp only [AU, ↓reduceIte]
            rw [List.take_of_length_le hge] at hz
            have hal : L.any (fun q => x.hol g q) = false := List.any_eq_false.2 fun q hq => by simp [hz q hq]
            try (simp)
            repeat ((repeat (first | refine AL.seq ?_ | refine AL.block ?_ | refine AL.skip ?_ | refine AL.blk ?_)); (refine AL.region follows_Tryz (Nat.le_refl _) (by kernel_rfl) ?_); simp)
            repeat (first | refine AL.seq ?_ | refine AL.block ?_ | refine AL.skip ?_ | refine AL.blk ?_)
            refine AL.ret ?_
            try simp only [AU]
            refine ⟨by simp, Fin.data (by simp [resAs, resA]; rfl) hbox rfl htok (fun _ h => h) (Nat.le_refl _) ?_⟩
            simp [packA, hR5, hal]
        · have b5 : (c.kind == 5) = false := by simp [k5]
          simp only [b5]
          repeat (first | refine AL.seq ?_ | refine AL.block ?_ | refine AL.skip ?_ | refine AL.blk ?_)
          refine AL.cond ?_
          simp
          try (simp)
          repeat ((repeat (first | refine AL.seq ?_ | refine AL.block ?_ | refine AL.skip ?_ | refine AL.blk ?_)); (refine AL.region follows_Tryz (Nat.le_refl _) (by kernel_rfl) ?_); simp)
          repeat (first | refine AL.seq ?_ | refine AL.block ?_ | refine AL.skip ?_ | refine AL.blk ?_)
          have h34 : c.kind = 3 ∨ c.kind = 4 := by
            have h0 := (Cd.ovr_zero hv).1
            unfold shapeC at h0
            split at h0
            · rename_i hk
              simp only [okC, if_neg k1, if_neg k2, if_neg k5] at hk
              split at hk
              · assumption
              · cases hk
            · cases h0
          have hii : c.inn a = a := if_neg k5
          rw [hii] at ih
          refine AL.loopT (stRk c g m nb box tok nt) (fun i => i ≤ c.kids.length ∧ ∀ x ∈ c.kids.take i, x.hol g m = !(c.kind == 4)) (fun i => c.kids.length - i) 0 ⟨Nat.zero_le _, by simp⟩ (Weaks.mk (Nat.le_refl _) rfl (by simp [ToL, lk]) (by simp [BoxL, lk])) ?_
          rintro i S ⟨hi, hz⟩ hS
          simp only [stRk] at hS
          subst hS
          have hw : IntKind.i64.wrap (↑i + 1) = ((i + 1 : Nat) : Int) := by rw [wrap_in (by omega) (by omega)]; rfl
          try (simp)
          repeat ((repeat (first | refine AL.seq ?_ | refine AL.block ?_ | refine AL.skip ?_ | refine AL.blk ?_)); (refine AL.region follows_Tryz (Nat.le_refl _) (by kernel_rfl) ?_); simp)
          repeat (first | refine AL.seq ?_ | refine AL.block ?_ | refine AL.skip ?_ | refine AL.blk ?_)
          refine AL.cond ?_
          simp
          refine ⟨fun hlt => ?_, fun hge => ?_⟩
          · have ihx := ih _ (List.getElem_mem hlt) m hm hmf
            have hyes : c.kids[i].hol g m = (c.kind == 4) → c.hol g m = (c.kind == 4) := fun h => hol_w1 h34 (List.getElem_mem hlt) h
            have hno : c.kids[i].hol g m = !(c.kind == 4) → ∀ x ∈ c.kids.take (i + 1), x.hol g m = !(c.kind == 4) := fun h x hx => by
              rw [List.take_succ_eq_append_getElem hlt] at hx
              rcases List.mem_append.1 hx with hx | hx
              · exact hz x hx
              · rw [List.mem_singleton] at hx; subst hx; exact h
            try (simp [hlt, Cd.cells_eq])
            repeat ((repeat (first | refine AL.seq ?_ | refine AL.block ?_ | refine AL.skip ?_ | refine AL.blk ?_)); (refine AL.region follows_Tryz (Nat.le_refl _) (by kernel_rfl) ?_); simp [hlt, Cd.cells_eq])
            generalize c.kids[i] = x at *
            refine Stop.of_d (ihx _ _) ?_
            simp
            try (simp)
            repeat ((repeat (first | refine AL.seq ?_ | refine AL.block ?_ | refine AL.skip ?_ | refine AL.blk ?_)); (refine AL.region follows_Tryz (Nat.le_refl _) (by kernel_rfl) ?_); simp)
            cases h7 : x.hol g m <;> cases h8 : (c.kind == 4)
            · have hy := hyes (by rw [h7, h8])
              rw [h8] at hy
              repeat (first | refine AL.seq ?_ | refine AL.block ?_ | refine AL.skip ?_ | refine AL.blk ?_)
              refine AL.cond ?_
              simp
              try (simp [h8])
              repeat ((repeat (first | refine AL.seq ?_ | refine AL.block ?_ | refine AL.skip ?_ | refine AL.blk ?_)); (refine AL.region follows_Tryz (Nat.le_refl _) (by kernel_rfl) ?_); simp [h8])
              repeat (first | refine AL.seq ?_ | refine AL.block ?_ | refine AL.skip ?_ | refine AL.blk ?_)
              refine AL.ret ?_
              try simp only [AU]
              refine ⟨by simp, Fin.data (by simp [resAs, resA]; rfl) hbox rfl htok (fun _ h => h) (Nat.le_refl _) ?_⟩
              simp [packA, hy]
            · have hn := hno (by rw [h7, h8]; rfl)
              repeat (first | refine AL.seq ?_ | refine AL.block ?_ | refine AL.skip ?_ | refine AL.blk ?_)
              refine AL.cond ?_
              simp
              try (simp [hw])
              repeat ((repeat (first | refine AL.seq ?_ | refine AL.block ?_ | refine AL.skip ?_ | refine AL.blk ?_)); (refine AL.region follows_Tryz (Nat.le_refl _) (by kernel_rfl) ?_); simp [hw])
              repeat (first | refine AL.seq ?_ | refine AL.block ?_ | refine AL.skip ?_ | refine AL.blk ?_)
              refine AL.nil ?_
              exact ⟨i + 1, ⟨hlt, by simpa [h8] using hn⟩, by omega, Weaks.mk (Nat.le_refl _) rfl (by simp [ToL, lk]) (by simp [BoxL, lk])⟩
            · have hn := hno (by rw [h7, h8]; rfl)
              repeat (first | refine AL.seq ?_ | refine AL.block ?_ | refine AL.skip ?_ | refine AL.blk ?_)
              refine AL.cond ?_
              simp
              try (simp [hw])
              repeat ((repeat (first | refine AL.seq ?_ | refine AL.block ?_ | refine AL.skip ?_ | refine AL.blk ?_)); (refine AL.region follows_Tryz (Nat.le_refl _) (by kernel_rfl) ?_); simp [hw])
              repeat (first | refine AL.seq ?_ | refine AL.block ?_ | refine AL.skip ?_ | refine AL.blk ?_)
              refine AL.nil ?_
              exact ⟨i + 1, ⟨hlt, by simpa [h8] using hn⟩, by omega, Weaks.mk (Nat.le_refl _) rfl (by simp [ToL, lk]) (by simp [BoxL, lk])⟩
            · have hy := hyes (by rw [h7, h8])
              rw [h8] at hy
              repeat (first | refine AL.seq ?_ | refine AL.block ?_ | refine AL.skip ?_ | refine AL.blk ?_)
              refine AL.cond ?_
              simp
              try (simp [h8])
              repeat ((repeat (first | refine AL.seq ?_ | refine AL.block ?_ | refine AL.skip ?_ | refine AL.blk ?_)); (refine AL.region follows_Tryz (Nat.le_refl _) (by kernel_rfl) ?_); simp [h8])
              repeat (first | refine AL.seq ?_ | refine AL.block ?_ | refine AL.skip ?_ | refine AL.blk ?_)
              refine AL.ret ?_
              try simp only [AU]
              refine ⟨by simp, Fin.data (by simp [resAs, resA]; rfl) hbox rfl htok (fun _ h => h) (Nat.le_refl _) ?_⟩
              simp [packA, hy]
          · repeat (first | refine AL.seq ?_ | refine AL.block ?_ | refine AL.skip ?_ | refine AL.blk ?_)
            refine AL.exit ?_
            simp only [AU, ↓reduceIte]
            rw [List.take_of_length_le hge] at hz
            have hal := hol_w2 h34 hz
            try (simp)
            repeat ((repeat (first | refine AL.seq ?_ | refine AL.block ?_ | refine AL.skip ?_ | refine AL.blk ?_)); (refine AL.region follows_Tryz (Nat.le_refl _) (by kernel_rfl) ?_); simp)
            repeat (first | refine AL.seq ?_ | refine AL.block ?_ | refine AL.skip ?_ | refine AL.blk ?_)
            refine AL.ret ?_
            try simp only [AU]
            refine ⟨by simp, Fin.data (by simp [resAs, resA]; rfl) hbox rfl htok (fun _ h => h) (Nat.le_refl _) ?_⟩
            simp [packA, hal]
end Go.AM
/-
  The reference's True; the law's nodes, another, awake.
-/
namespace Go.AM
open Go Go.Proofs
set_option linter.unusedSimpArgs false
set_option linter.unusedVariables false

@[simp] theorem lb_base (base : Nat) (out : Nat → Option (List (List AV))) (loc : List (Nat × List (List AV))) : lb base out loc base = lk loc 0 := lb_at base 0 out loc
@[simp] theorem upd_lb_base (base : Nat) (out : Nat → Option (List (List AV))) (loc : List (Nat × List (List AV))) (rows : List (List AV)) : upd (lb base out loc) base (some rows) = lb base out ((0, rows) :: loc) := upd_lb base 0 out loc rows
@[simp] theorem to_ptr_base {q : Nat → Prop} {fz : Option (Nat × Nat × List (List D))} {base i off : Nat} {out : Nat → Option (List (List AV))} {loc : List (Nat × List (List AV))} : To (fun k => lb base out loc k ≠ none) q fz (.ptr base i off) (.ptr base i off) ↔ lk loc 0 ≠ none := to_ptr_lb (s := 0)

abbrev trueC : Cd := cdOf 1 []
theorem true33_c (tok : Nat → Bool) (nt : Nat) : DCall Tryz.prog 39 [] tok nt trueC.av tok nt := by
  intro box nb
  refine ACalls.of_body Tryz.func39 rfl (by kernel_rfl) follows_Tryz (by kernel_rfl) (by simp [Tryz.ntmps39]) ?_
  intro hbox htok
  simp only at hbox htok
  apply AL.start
  try (simp)
  repeat ((repeat (first | refine AL.seq ?_ | refine AL.block ?_ | refine AL.skip ?_ | refine AL.blk ?_)); (refine AL.region follows_Tryz (Nat.le_refl _) (by kernel_rfl) ?_); simp)
  repeat (first | refine AL.seq ?_ | refine AL.block ?_ | refine AL.skip ?_ | refine AL.blk ?_)
  refine AL.ret ?_
  try simp only [AU]
  refine ⟨by simp, Fin.data (by simp [resAs, resA]; rfl) hbox rfl htok (fun _ h => h) (Nat.le_refl _) ?_⟩
  simp [packA, trueC, cdOf, conds, ints, AM.edges, slots, tests, Cd.kind, Cd.kids, Cd.m, Cd.g, Cd.sl, Cd.vars, Cd.te]

def fours (n : Nat) : List Int := List.replicate n 4
theorem fours_zero : fours 0 = [] := rfl
theorem fours_succ (n : Nat) : fours (n + 1) = fours n ++ [4] := by simp [fours, List.replicate_succ']
theorem fours_len (n : Nat) : (fours n).length = n := by simp [fours]
def stFo (n nb : Nat) (box : Nat → Option (List (List AV))) (a : Acc) : AState :=
  ⟨tl [(5, I a.i), (4, I n), (3, .ptr (nb + 3) 0 0), (2, .ptr (nb + 2) 0 0)], lb nb box [(3, [[.osl 1 (rI (fours a.i)) a.own, .osl 0 [] .full]]), (2, [[.osl 0 [] .full, .osl 0 [] .full]])], a.tok, a.nt⟩
theorem lnodes_c (n : Nat) (hn : n ≤ 1000) (tok : Nat → Bool) (nt : Nat) : DCall Tryz.prog 19 [I n] tok nt (Gr.av ⟨fours n, []⟩) tok nt := by
  intro box nb
  refine ACalls.of_body Tryz.func19 rfl (by kernel_rfl) follows_Tryz (by kernel_rfl) (by simp [Tryz.ntmps19]) ?_
  intro hbox htok
  simp only at hbox htok
  apply AL.start
  try (simp)
  repeat ((repeat (first | refine AL.seq ?_ | refine AL.block ?_ | refine AL.skip ?_ | refine AL.blk ?_)); (refine AL.region follows_Tryz (Nat.le_refl _) (by kernel_rfl) ?_); simp)
  repeat (first | refine AL.seq ?_ | refine AL.block ?_ | refine AL.skip ?_ | refine AL.blk ?_)
  refine AL.loopT (stFo n nb box) (fun a => a.i ≤ n ∧ TK tok nt a.tok a.nt [a.own]) (fun a => n - a.i) ⟨0, .full, tok, nt⟩ ⟨Nat.zero_le _, (TK.start htok).full⟩ (Weaks.mk (Nat.le_refl _) rfl (by simp [ToL, lk]) (by simp [BoxL, lk, fours_zero])) ?_
  rintro ⟨i, own, tok', nt'⟩ S ⟨hi, htk⟩ hS
  simp only [stFo] at hS hi htk
  subst hS
  have hw : IntKind.i64.wrap (↑i + 1) = ((i + 1 : Nat) : Int) := by rw [wrap_in (by omega) (by omega)]; rfl
  try (simp)
  repeat ((repeat (first | refine AL.seq ?_ | refine AL.block ?_ | refine AL.skip ?_ | refine AL.blk ?_)); (refine AL.region follows_Tryz (Nat.le_refl _) (by kernel_rfl) ?_); simp)
  repeat (first | refine AL.seq ?_ | refine AL.block ?_ | refine AL.skip ?_ | refine AL.blk ?_)
  refine AL.cond ?_
  simp
  refine ⟨fun hlt => ?_, fun hge => ?_⟩
  · try (simp)
    repeat ((repeat (first | refine AL.seq ?_ | refine AL.block ?_ | refine AL.skip ?_ | refine AL.blk ?_)); (refine AL.region follows_Tryz (Nat.le_refl _) (by kernel_rfl) ?_); simp)
    refine ⟨⟨by rw [fours_len]; omega, htk.live⟩, ?_⟩
    try (simp [hw])
    repeat ((repeat (first | refine AL.seq ?_ | refine AL.block ?_ | refine AL.skip ?_ | refine AL.blk ?_)); (refine AL.region follows_Tryz (Nat.le_refl _) (by kernel_rfl) ?_); simp [hw])
    repeat (first | refine AL.seq ?_ | refine AL.block ?_ | refine AL.skip ?_ | refine AL.blk ?_)
    refine AL.nil ?_
    refine ⟨⟨i + 1, _, _, _⟩, ⟨hlt, htk.app⟩, by simp only; omega, Weaks.mk htk.app.le rfl (by simp [ToL, lk]) (by simp [BoxL, lk, fours_succ])⟩
  · repeat (first | refine AL.seq ?_ | refine AL.block ?_ | refine AL.skip ?_ | refine AL.blk ?_)
    refine AL.exit ?_
    simp only [AU, ↓reduceIte]
    have : i = n := by omega
    subst this
    try (simp)
    repeat ((repeat (first | refine AL.seq ?_ | refine AL.block ?_ | refine AL.skip ?_ | refine AL.blk ?_)); (refine AL.region follows_Tryz (Nat.le_refl _) (by kernel_rfl) ?_); simp)
    repeat (first | refine AL.seq ?_ | refine AL.block ?_ | refine AL.skip ?_ | refine AL.blk ?_)
    refine AL.ret ?_
    try simp only [AU]
    refine ⟨by simp, Fin.data (by simp [resAs, resA]; rfl) hbox rfl htok htk.old htk.le ?_⟩
    simp [packA, AM.edges]

def anoC : Cd := .mk 5 [trueC] ⟨[0], []⟩ ⟨fours 2, []⟩ [] 0 []
theorem another_c (tok : Nat → Bool) (nt : Nat) : DCall Tryz.prog 20 [] tok nt anoC.av tok nt := by
  intro box nb
  refine ACalls.of_body Tryz.func20 rfl (by kernel_rfl) follows_Tryz (by kernel_rfl) (by simp [Tryz.ntmps20]) ?_
  intro hbox htok
  simp only at hbox htok
  apply AL.start
  try (simp)
  repeat ((repeat (first | refine AL.seq ?_ | refine AL.block ?_ | refine AL.skip ?_ | refine AL.blk ?_)); (refine AL.region follows_Tryz (Nat.le_refl _) (by kernel_rfl) ?_); simp)
  refine Stop.of_d (lnodes_c 2 (by omega) _ _) ?_
  simp
  refine Stop.of_d (true33_c _ _) ?_
  simp
  try (simp)
  repeat ((repeat (first | refine AL.seq ?_ | refine AL.block ?_ | refine AL.skip ?_ | refine AL.blk ?_)); (refine AL.region follows_Tryz (Nat.le_refl _) (by kernel_rfl) ?_); simp)
  repeat (first | refine AL.seq ?_ | refine AL.block ?_ | refine AL.skip ?_ | refine AL.blk ?_)
  refine AL.ret ?_
  try simp only [AU]
  refine ⟨by simp, Fin.data (by simp [resAs, resA]; rfl) hbox rfl htok (fun _ h => h) (Nat.le_refl _) ?_⟩
  simp [packA, anoC, trueC, cdOf, conds, ints, AM.edges, slots, tests, Cd.kind, Cd.kids, Cd.m, Cd.g, Cd.sl, Cd.vars, Cd.te, Cd.cells_eq]

def gF (n : Nat) : Gr := ⟨fours n, []⟩
theorem gF_fit {n : Nat} (h : n ≤ 10) : (gF n).Fit := ⟨by simp [gF, fours_len]; omega, by simp [gF]⟩
theorem ano_fit : anoC.Fit := .mk (by rw [kidN_eq]; simp [anoC, Cd.kids]) ⟨by simp [anoC, Cd.m], by simp [anoC, Cd.m]⟩ (gF_fit (n := 2) (by omega)) (by rw [bigN_eq]; simp [anoC, Cd.sl]) (by rw [bigN_eq]; simp [anoC, Cd.te]) fun x hx => by
  have : x = trueC := by simpa [anoC, Cd.kids] using hx
  subst this
  exact cdOf_fit (by rw [kidN_eq]; simp) (by simp)
theorem ano_shift : (shiftR (gF 1) (gF 2) ⟨[0], []⟩ anoC).2 = 0 ∧ (shiftR (gF 1) (gF 2) ⟨[0], []⟩ anoC).1.kind = 4 ∧ (shiftR (gF 1) (gF 2) ⟨[0], []⟩ anoC).1.kids.length = 2 ∧ ((shiftR (gF 1) (gF 2) ⟨[0], []⟩ anoC).1.kids.getD 1 trueC).g.nodes.length = 2 := by decide +kernel
theorem ano_sat : satR (gF 1) anoC (gF 2) ⟨[1], []⟩ = (true, 0) := by decide +kernel
theorem ano_size : sizeR anoC = (2, 1, 0) := by decide +kernel

set_option maxRecDepth 100000 in
theorem awake33_c (tok : Nat → Bool) (nt : Nat) : DCall Tryz.prog 6 [] tok nt (B true) tok nt := by
  intro box nb
  have hsh := cdShift_c (gF 1) (gF 2) ⟨[0], []⟩ anoC (gF_fit (by omega)) (gF_fit (by omega)) ⟨by simp, by simp⟩ ano_fit
  have hsa := satisfies_c (gF 1) anoC (gF 2) ⟨[1], []⟩ (gF_fit (by omega)) ano_fit (gF_fit (by omega)) ⟨by simp, by simp⟩
  have hsz := cdSize_c anoC ano_fit.big
  rw [ano_sat] at hsa
  rw [ano_size] at hsz
  obtain ⟨s1, s2, s3, s4⟩ := ano_shift
  generalize shiftR (gF 1) (gF 2) ⟨[0], []⟩ anoC = r at *
  refine ACalls.of_body Tryz.func6 rfl (by kernel_rfl) follows_Tryz (by kernel_rfl) (by simp [Tryz.ntmps6]) ?_
  intro hbox htok
  simp only at hbox htok
  apply AL.start
  try (simp)
  repeat ((repeat (first | refine AL.seq ?_ | refine AL.block ?_ | refine AL.skip ?_ | refine AL.blk ?_)); (refine AL.region follows_Tryz (Nat.le_refl _) (by kernel_rfl) ?_); simp)
  refine Stop.of_d (lnodes_c 1 (by omega) _ _) ?_
  simp
  refine Stop.of_d (lnodes_c 2 (by omega) _ _) ?_
  simp
  refine Stop.of_d (another_c _ _) ?_
  simp
  refine Stop.sub (args' := [(gF 1).av, (gF 2).av, .agg [.d (ints [0]), .d (ints [])], anoC.av]) ⟨Sub.refl _, Sub.refl _, Sub.agg ⟨Sub.data _ _ _, Sub.nil _ _ _, trivial⟩, Sub.refl _, trivial⟩ ?_
  refine Stop.of_d (hsh _ _) ?_
  simp
  try (simp)
  repeat ((repeat (first | refine AL.seq ?_ | refine AL.block ?_ | refine AL.skip ?_ | refine AL.blk ?_)); (refine AL.region follows_Tryz (Nat.le_refl _) (by kernel_rfl) ?_); simp)
  refine Stop.of_d (lnodes_c 1 (by omega) _ _) ?_
  simp
  refine Stop.of_d (another_c _ _) ?_
  simp
  refine Stop.of_d (lnodes_c 2 (by omega) _ _) ?_
  simp
  refine Stop.sub (args' := [(gF 1).av, anoC.av, (gF 2).av, .agg [.d (ints [1]), .d (ints [])]]) ⟨Sub.refl _, Sub.refl _, Sub.refl _, Sub.agg ⟨Sub.data _ _ _, Sub.nil _ _ _, trivial⟩, trivial⟩ ?_
  refine Stop.of_d (hsa _ _) ?_
  simp
  try (simp)
  repeat ((repeat (first | refine AL.seq ?_ | refine AL.block ?_ | refine AL.skip ?_ | refine AL.blk ?_)); (refine AL.region follows_Tryz (Nat.le_refl _) (by kernel_rfl) ?_); simp)
  refine Stop.of_d (another_c _ _) ?_
  simp
  refine Stop.of_d (hsz _ _) ?_
  simp
  have hk : 1 < r.1.kids.length := by omega
  have hk' : r.1.kids[1].g.nodes.length = 2 := by simpa [hk] using s4
  try (simp [s1, s2, s3, hk, Cd.cells_eq, hk'])
  repeat ((repeat (first | refine AL.seq ?_ | refine AL.block ?_ | refine AL.skip ?_ | refine AL.blk ?_)); (refine AL.region follows_Tryz (Nat.le_refl _) (by kernel_rfl) ?_); simp [s1, s2, s3, hk, Cd.cells_eq, hk'])
  repeat (first | refine AL.seq ?_ | refine AL.block ?_ | refine AL.skip ?_ | refine AL.blk ?_)
  refine AL.ret ?_
  try simp only [AU]
  refine ⟨by simp, Fin.data (by simp [resAs, resA]; rfl) hbox rfl htok (fun _ h => h) (Nat.le_refl _) ?_⟩
  simp [packA]
end Go.AM
/-
  The law about Valid and Size.
-/
namespace Go.AM
open Go Go.Proofs
set_option linter.unusedSimpArgs false
set_option linter.unusedVariables false

theorem light_c (a : Gr) (c : Cd) (hb : c.Big) (tok : Nat → Bool) (nt : Nat) : DCall Tryz.prog 7 [a.av, c.av] tok nt (B (lightB a c)) tok nt := by
  refine light9_c a c hb ?_ tok nt
  by_cases h1 : c.fits 45 90 = true
  · by_cases h2 : fewG a = true
    · exact .inr (.inr (.inr (validR_c a c (fewG_fit h2) (Cd.fits_fit (n := 45) (m := 90) (by decide) (by decide) _ c (Nat.lt_succ_self _) hb h1))))
    · exact .inr (.inr (.inl (by simpa using h2)))
  · exact .inr (.inl (by simpa using h1))
theorem lightB_fit {a : Gr} {c : Cd} (hb : c.Big) (h : lightB a c = true) : a.Fit ∧ c.Fit := by
  unfold lightB at h
  split at h
  · cases h
  · split at h
    · cases h
    · rename_i h2
      split at h
      · cases h
      · rename_i h3
        exact ⟨fewG_fit (by simpa using h3), Cd.fits_fit (n := 45) (m := 90) (by decide) (by decide) _ c (Nat.lt_succ_self _) hb (by simpa using h2)⟩

end Go.AM
/-
  The law about Satisfies.
-/
namespace Go.AM
open Go Go.Proofs
set_option linter.unusedSimpArgs false
set_option linter.unusedVariables false

theorem arrow33_c (a b : Gr) (m : Mo) (ha : a.Fit) (hb : b.Fit) (hm : m.Fit) (tok : Nat → Bool) (nt : Nat) : DCall Tryz.prog 31 [a.av, b.av, m.av] tok nt (I (arrR a b m)) tok nt := by
  intro box nb
  have hva := valid53_c a b m ha hb
  have hin := injective26_c a b m ha hb hm
  refine ACalls.of_body Tryz.func31 rfl (by kernel_rfl) follows_Tryz (by kernel_rfl) (by simp [Tryz.ntmps31]) ?_
  intro hbox htok
  simp only at hbox htok
  apply AL.start
  try (simp)
  repeat ((repeat (first | refine AL.seq ?_ | refine AL.block ?_ | refine AL.skip ?_ | refine AL.blk ?_)); (refine AL.region follows_Tryz (Nat.le_refl _) (by kernel_rfl) ?_); simp)
  refine Stop.of_d (hva _ _) ?_
  simp
  try (simp)
  repeat ((repeat (first | refine AL.seq ?_ | refine AL.block ?_ | refine AL.skip ?_ | refine AL.blk ?_)); (refine AL.region follows_Tryz (Nat.le_refl _) (by kernel_rfl) ?_); simp)
  by_cases h0 : validM a b m = 0
  · simp only [h0]
    repeat (first | refine AL.seq ?_ | refine AL.block ?_ | refine AL.skip ?_ | refine AL.blk ?_)
    refine AL.cond ?_
    simp
    try (simp)
    repeat ((repeat (first | refine AL.seq ?_ | refine AL.block ?_ | refine AL.skip ?_ | refine AL.blk ?_)); (refine AL.region follows_Tryz (Nat.le_refl _) (by kernel_rfl) ?_); simp)
    refine Stop.of_d (hin _ _) ?_
    simp
    cases h1 : injM a b m
    · repeat (first | refine AL.seq ?_ | refine AL.block ?_ | refine AL.skip ?_ | refine AL.blk ?_)
      refine AL.cond ?_
      simp
      try (simp)
      repeat ((repeat (first | refine AL.seq ?_ | refine AL.block ?_ | refine AL.skip ?_ | refine AL.blk ?_)); (refine AL.region follows_Tryz (Nat.le_refl _) (by kernel_rfl) ?_); simp)
      repeat (first | refine AL.seq ?_ | refine AL.block ?_ | refine AL.skip ?_ | refine AL.blk ?_)
      refine AL.ret ?_
      try simp only [AU]
      refine ⟨by simp, Fin.data (by simp [resAs, resA]; rfl) hbox rfl htok (fun _ h => h) (Nat.le_refl _) ?_⟩
      simp [packA, arrR, h0, h1]
    · repeat (first | refine AL.seq ?_ | refine AL.block ?_ | refine AL.skip ?_ | refine AL.blk ?_)
      refine AL.cond ?_
      simp
      try (simp)
      repeat ((repeat (first | refine AL.seq ?_ | refine AL.block ?_ | refine AL.skip ?_ | refine AL.blk ?_)); (refine AL.region follows_Tryz (Nat.le_refl _) (by kernel_rfl) ?_); simp)
      repeat (first | refine AL.seq ?_ | refine AL.block ?_ | refine AL.skip ?_ | refine AL.blk ?_)
      refine AL.ret ?_
      try simp only [AU]
      refine ⟨by simp, Fin.data (by simp [resAs, resA]; rfl) hbox rfl htok (fun _ h => h) (Nat.le_refl _) ?_⟩
      simp [packA, arrR, h0, h1]
  · have b0 : (validM a b m != 0) = true := by simp [h0]
    simp only [b0]
    repeat (first | refine AL.seq ?_ | refine AL.block ?_ | refine AL.skip ?_ | refine AL.blk ?_)
    refine AL.cond ?_
    simp
    try (simp)
    repeat ((repeat (first | refine AL.seq ?_ | refine AL.block ?_ | refine AL.skip ?_ | refine AL.blk ?_)); (refine AL.region follows_Tryz (Nat.le_refl _) (by kernel_rfl) ?_); simp)
    repeat (first | refine AL.seq ?_ | refine AL.block ?_ | refine AL.skip ?_ | refine AL.blk ?_)
    refine AL.ret ?_
    try simp only [AU]
    refine ⟨by simp, Fin.data (by simp [resAs, resA]; rfl) hbox rfl htok (fun _ h => h) (Nat.le_refl _) ?_⟩
    simp [packA, arrR, h0]
theorem arr_of {a b : Gr} {m : Mo} (h : arrR a b m = 0) : Emb a b m := by
  unfold arrR at h
  split at h
  · contradiction
  · split at h
    · rename_i h2; exact Emb.of h2
    · cases h
theorem satisfiesR_c (a : Gr) (c : Cd) (g : Gr) (m : Mo) (ha : a.Fit) (hc : c.Fit) (hg : g.Fit) (hm : m.Fit) (hroom : arrR a g m = 0 → validC a c = 0 → c.fits 4 4 = true ∧ (g.nodes.length ≤ 8 ∧ g.edges.length ≤ 8)) (tok : Nat → Bool) (nt : Nat) : DCall Tryz.prog 12 [a.av, c.av, g.av, m.av] tok nt (.tup [B (satR a c g m).1, I (satR a c g m).2]) tok nt := by
  intro box nb
  have hi := arrow33_c a g m ha hg hm
  have hv := validR_c a c ha hc
  have hh := fun (h1 : arrR a g m = 0) (h2 : validC a c = 0) => refHolds_c _ c (Nat.lt_succ_self _) hc (hroom h1 h2).1 a (validC_ovr h2).2.1 g (hroom h1 h2).2 m (arr_of h1) hm
  refine ACalls.of_body Tryz.func12 rfl (by kernel_rfl) follows_Tryz (by kernel_rfl) (by simp [Tryz.ntmps12]) ?_
  intro hbox htok
  simp only at hbox htok
  apply AL.start
  try (simp)
  repeat ((repeat (first | refine AL.seq ?_ | refine AL.block ?_ | refine AL.skip ?_ | refine AL.blk ?_)); (refine AL.region follows_Tryz (Nat.le_refl _) (by kernel_rfl) ?_); simp)
  refine Stop.of_d (hi _ _) ?_
  simp
  try (simp)
  repeat ((repeat (first | refine AL.seq ?_ | refine AL.block ?_ | refine AL.skip ?_ | refine AL.blk ?_)); (refine AL.region follows_Tryz (Nat.le_refl _) (by kernel_rfl) ?_); simp)
  by_cases h0 : arrR a g m = 0
  · simp only [h0]
    repeat (first | refine AL.seq ?_ | refine AL.block ?_ | refine AL.skip ?_ | refine AL.blk ?_)
    refine AL.cond ?_
    simp
    try (simp)
    repeat ((repeat (first | refine AL.seq ?_ | refine AL.block ?_ | refine AL.skip ?_ | refine AL.blk ?_)); (refine AL.region follows_Tryz (Nat.le_refl _) (by kernel_rfl) ?_); simp)
    refine Stop.of_d (hv _ _) ?_
    simp
    try (simp)
    repeat ((repeat (first | refine AL.seq ?_ | refine AL.block ?_ | refine AL.skip ?_ | refine AL.blk ?_)); (refine AL.region follows_Tryz (Nat.le_refl _) (by kernel_rfl) ?_); simp)
    by_cases h1 : validC a c = 0
    · have hh' := hh h0 h1
      simp only [h1]
      repeat (first | refine AL.seq ?_ | refine AL.block ?_ | refine AL.skip ?_ | refine AL.blk ?_)
      refine AL.cond ?_
      simp
      try (simp)
      repeat ((repeat (first | refine AL.seq ?_ | refine AL.block ?_ | refine AL.skip ?_ | refine AL.blk ?_)); (refine AL.region follows_Tryz (Nat.le_refl _) (by kernel_rfl) ?_); simp)
      refine Stop.of_d (hh' _ _) ?_
      simp
      try (simp)
      repeat ((repeat (first | refine AL.seq ?_ | refine AL.block ?_ | refine AL.skip ?_ | refine AL.blk ?_)); (refine AL.region follows_Tryz (Nat.le_refl _) (by kernel_rfl) ?_); simp)
      repeat (first | refine AL.seq ?_ | refine AL.block ?_ | refine AL.skip ?_ | refine AL.blk ?_)
      refine AL.ret ?_
      try simp only [AU]
      refine ⟨by simp, Fin.data (by simp [resAs, resA]; rfl) hbox rfl htok (fun _ h => h) (Nat.le_refl _) ?_⟩
      simp [packA, satR, h0, h1]
    · have b1 : (validC a c != 0) = true := by simp [h1]
      simp only [b1]
      repeat (first | refine AL.seq ?_ | refine AL.block ?_ | refine AL.skip ?_ | refine AL.blk ?_)
      refine AL.cond ?_
      simp
      try (simp)
      repeat ((repeat (first | refine AL.seq ?_ | refine AL.block ?_ | refine AL.skip ?_ | refine AL.blk ?_)); (refine AL.region follows_Tryz (Nat.le_refl _) (by kernel_rfl) ?_); simp)
      repeat (first | refine AL.seq ?_ | refine AL.block ?_ | refine AL.skip ?_ | refine AL.blk ?_)
      refine AL.ret ?_
      try simp only [AU]
      refine ⟨by simp, Fin.data (by simp [resAs, resA]; rfl) hbox rfl htok (fun _ h => h) (Nat.le_refl _) ?_⟩
      simp [packA, satR, h0, h1]
  · have b0 : (arrR a g m != 0) = true := by simp [h0]
    simp only [b0]
    repeat (first | refine AL.seq ?_ | refine AL.block ?_ | refine AL.skip ?_ | refine AL.blk ?_)
    refine AL.cond ?_
    simp
    try (simp)
    repeat ((repeat (first | refine AL.seq ?_ | refine AL.block ?_ | refine AL.skip ?_ | refine AL.blk ?_)); (refine AL.region follows_Tryz (Nat.le_refl _) (by kernel_rfl) ?_); simp)
    repeat (first | refine AL.seq ?_ | refine AL.block ?_ | refine AL.skip ?_ | refine AL.blk ?_)
    refine AL.ret ?_
    try simp only [AU]
    refine ⟨by simp, Fin.data (by simp [resAs, resA]; rfl) hbox rfl htok (fun _ h => h) (Nat.le_refl _) ?_⟩
    simp [packA, satR, h0]
theorem fits_mono {x y x' y' : Int} (hx : x ≤ x') (hy : y ≤ y') : ∀ (k : Nat) (c : Cd), SizeOf.sizeOf c < k → c.fits x y = true → c.fits x' y' = true
  | 0, c, hk, _ => absurd hk (Nat.not_lt_zero _)
  | k + 1, c, hk, h => by
    rw [c.fits_eq, Bool.and_eq_true, List.all_eq_true] at h ⊢
    refine ⟨?_, fun z hz => fits_mono hx hy k z (by have := Cd.kid_lt hz; omega) (h.2 z hz)⟩
    have h1 := h.1
    simp only [fitHere, Bool.and_eq_true, decide_eq_true_eq] at h1 ⊢
    exact ⟨by omega, by omega, h1.2.2⟩
theorem light_fits {a : Gr} {c : Cd} (h : lightB a c = true) (hv : validC a c = 0) : c.fits 4 4 = true := by
  unfold lightB at h
  have f43 := fits_mono (x := 4) (y := 3) (x' := 4) (y' := 4) (by decide) (by decide) _ c (Nat.lt_succ_self _)
  have f22 := fits_mono (x := 2) (y := 2) (x' := 4) (y' := 4) (by decide) (by decide) _ c (Nat.lt_succ_self _)
  rw [hv] at h
  split at h
  · cases h
  · split at h
    · cases h
    · split at h
      · cases h
      · rw [if_neg (by simp)] at h
        split at h
        · cases h
        · split at h
          · split at h
            · rename_i h5; exact f43 h5
            · exact f22 h
          · split at h
            · exact f22 h
            · cases h

structure Ar where
  to : Gr
  m : Mo
abbrev Ar.av (x : Ar) : AV := .agg [.d (ints x.to.nodes), .d (AM.edges x.to.edges), .d (ints x.m.nodes), .d (ints x.m.edges)]
structure Ar.Big (x : Ar) : Prop where
  n : x.m.nodes.length ≤ bigN
  e : x.m.edges.length ≤ bigN
def fewA (x : Ar) : Bool := fewG x.to && fewM x.m 200
theorem fewA_c (x : Ar) (hx : x.Big) (tok : Nat → Bool) (nt : Nat) : DCall Tryz.prog 8 [x.av] tok nt (B (fewA x)) tok nt := by
  intro box nb
  have h1 := few05_c x.to
  have h2 := few06_c x.m 200 (by have := hx.n; rw [bigN_eq] at this; omega) (by have := hx.e; rw [bigN_eq] at this; omega)
  refine ACalls.of_body Tryz.func8 rfl (by kernel_rfl) follows_Tryz (by kernel_rfl) (by simp [Tryz.ntmps8]) ?_
  intro hbox htok
  simp only at hbox htok
  apply AL.start
  try (simp)
  repeat ((repeat (first | refine AL.seq ?_ | refine AL.block ?_ | refine AL.skip ?_ | refine AL.blk ?_)); (refine AL.region follows_Tryz (Nat.le_refl _) (by kernel_rfl) ?_); simp)
  refine Stop.of_d (h1 _ _) ?_
  simp
  try (simp)
  repeat ((repeat (first | refine AL.seq ?_ | refine AL.block ?_ | refine AL.skip ?_ | refine AL.blk ?_)); (refine AL.region follows_Tryz (Nat.le_refl _) (by kernel_rfl) ?_); simp)
  cases h3 : fewG x.to
  · try (simp)
    repeat ((repeat (first | refine AL.seq ?_ | refine AL.block ?_ | refine AL.skip ?_ | refine AL.blk ?_)); (refine AL.region follows_Tryz (Nat.le_refl _) (by kernel_rfl) ?_); simp)
    repeat (first | refine AL.seq ?_ | refine AL.block ?_ | refine AL.skip ?_ | refine AL.blk ?_)
    refine AL.ret ?_
    try simp only [AU]
    refine ⟨by simp, Fin.data (by simp [resAs, resA]; rfl) hbox rfl htok (fun _ h => h) (Nat.le_refl _) ?_⟩
    simp [packA, fewA, h3]
  · try (simp)
    repeat ((repeat (first | refine AL.seq ?_ | refine AL.block ?_ | refine AL.skip ?_ | refine AL.blk ?_)); (refine AL.region follows_Tryz (Nat.le_refl _) (by kernel_rfl) ?_); simp)
    refine Stop.of_d (h2 _ _) ?_
    simp
    try (simp)
    repeat ((repeat (first | refine AL.seq ?_ | refine AL.block ?_ | refine AL.skip ?_ | refine AL.blk ?_)); (refine AL.region follows_Tryz (Nat.le_refl _) (by kernel_rfl) ?_); simp)
    repeat (first | refine AL.seq ?_ | refine AL.block ?_ | refine AL.skip ?_ | refine AL.blk ?_)
    refine AL.ret ?_
    try simp only [AU]
    refine ⟨by simp, Fin.data (by simp [resAs, resA]; rfl) hbox rfl htok (fun _ h => h) (Nat.le_refl _) ?_⟩
    simp [packA, fewA, h3]
set_option maxRecDepth 100000 in
theorem lawSatisfies_c (a : Gr) (c : Cd) (x : Ar) (hb : c.Big) (hx : x.Big) (tok : Nat → Bool) (nt : Nat) : ∃ tok' nt', DCall Tryz.prog 3 [a.av, c.av, x.av] tok nt (B true) tok' nt' := by
  refine ⟨tok, nt, ?_⟩
  intro box nb
  have hl := light_c a c hb
  have hfx := fewA_c x hx
  refine ACalls.of_body Tryz.func3 rfl (by kernel_rfl) follows_Tryz (by kernel_rfl) (by simp [Tryz.ntmps3]) ?_
  intro hbox htok
  simp only at hbox htok
  apply AL.start
  try (simp)
  repeat ((repeat (first | refine AL.seq ?_ | refine AL.block ?_ | refine AL.skip ?_ | refine AL.blk ?_)); (refine AL.region follows_Tryz (Nat.le_refl _) (by kernel_rfl) ?_); simp)
  refine Stop.of_d (awake33_c _ _) ?_
  simp
  try (simp)
  repeat ((repeat (first | refine AL.seq ?_ | refine AL.block ?_ | refine AL.skip ?_ | refine AL.blk ?_)); (refine AL.region follows_Tryz (Nat.le_refl _) (by kernel_rfl) ?_); simp)
  refine Stop.of_d (hl _ _) ?_
  simp
  by_cases h : lightB a c = true
  · obtain ⟨ha, hc⟩ := lightB_fit hb h
    rw [h]
    try (simp)
    repeat ((repeat (first | refine AL.seq ?_ | refine AL.block ?_ | refine AL.skip ?_ | refine AL.blk ?_)); (refine AL.region follows_Tryz (Nat.le_refl _) (by kernel_rfl) ?_); simp)
    refine Stop.of_d (hfx _ _) ?_
    simp
    try (simp)
    repeat ((repeat (first | refine AL.seq ?_ | refine AL.block ?_ | refine AL.skip ?_ | refine AL.blk ?_)); (refine AL.region follows_Tryz (Nat.le_refl _) (by kernel_rfl) ?_); simp)
    by_cases h2 : fewA x = true
    · rw [h2]
      have hxf : x.to.Fit := fewG_fit (by unfold fewA at h2; simp only [Bool.and_eq_true] at h2; exact h2.1)
      have hmf : x.m.Fit := by
        unfold fewA fewM at h2
        simp only [Bool.and_eq_true, decide_eq_true_eq] at h2
        exact ⟨by omega, by omega⟩
      have hvg := valid05_c x.to hxf
      have hcp := copied_c a ha
      have s1 := satisfies_c a c x.to x.m ha hc hxf hmf
      have s2 := fun (h3 : validG x.to = 0 → x.to.nodes.length ≤ 8 ∧ x.to.edges.length ≤ 8) => satisfiesR_c a c x.to x.m ha hc hxf hmf (fun h1 h2 => ⟨light_fits h h2, h3 (arr_of h1).vm.vb⟩)
      generalize satR a c x.to x.m = r at *
      try (simp)
      repeat ((repeat (first | refine AL.seq ?_ | refine AL.block ?_ | refine AL.skip ?_ | refine AL.blk ?_)); (refine AL.region follows_Tryz (Nat.le_refl _) (by kernel_rfl) ?_); simp)
      refine Stop.of_d (hvg _ _) ?_
      simp
      by_cases hv : validG x.to = 0
      · by_cases n6 : 6 < (x.to.nodes.length : Int)
        · try (simp [hv, n6])
          repeat ((repeat (first | refine AL.seq ?_ | refine AL.block ?_ | refine AL.skip ?_ | refine AL.blk ?_)); (refine AL.region follows_Tryz (Nat.le_refl _) (by kernel_rfl) ?_); simp [hv, n6])
          repeat (first | refine AL.seq ?_ | refine AL.block ?_ | refine AL.skip ?_ | refine AL.blk ?_)
          refine AL.cond ?_
          simp
          try (simp)
          repeat ((repeat (first | refine AL.seq ?_ | refine AL.block ?_ | refine AL.skip ?_ | refine AL.blk ?_)); (refine AL.region follows_Tryz (Nat.le_refl _) (by kernel_rfl) ?_); simp)
          refine Stop.of_d (awake33_c _ _) ?_
          simp
          try (simp)
          repeat ((repeat (first | refine AL.seq ?_ | refine AL.block ?_ | refine AL.skip ?_ | refine AL.blk ?_)); (refine AL.region follows_Tryz (Nat.le_refl _) (by kernel_rfl) ?_); simp)
          repeat (first | refine AL.seq ?_ | refine AL.block ?_ | refine AL.skip ?_ | refine AL.blk ?_)
          refine AL.ret ?_
          try simp only [AU]
          refine ⟨by simp, Fin.data (by simp [resAs, resA]; rfl) hbox rfl htok (fun _ h => h) (Nat.le_refl _) ?_⟩
          simp [packA]
        · by_cases e8 : 8 < (x.to.edges.length : Int)
          · try (simp [hv, n6, e8])
            repeat ((repeat (first | refine AL.seq ?_ | refine AL.block ?_ | refine AL.skip ?_ | refine AL.blk ?_)); (refine AL.region follows_Tryz (Nat.le_refl _) (by kernel_rfl) ?_); simp [hv, n6, e8])
            repeat (first | refine AL.seq ?_ | refine AL.block ?_ | refine AL.skip ?_ | refine AL.blk ?_)
            refine AL.cond ?_
            simp
            try (simp)
            repeat ((repeat (first | refine AL.seq ?_ | refine AL.block ?_ | refine AL.skip ?_ | refine AL.blk ?_)); (refine AL.region follows_Tryz (Nat.le_refl _) (by kernel_rfl) ?_); simp)
            refine Stop.of_d (awake33_c _ _) ?_
            simp
            try (simp)
            repeat ((repeat (first | refine AL.seq ?_ | refine AL.block ?_ | refine AL.skip ?_ | refine AL.blk ?_)); (refine AL.region follows_Tryz (Nat.le_refl _) (by kernel_rfl) ?_); simp)
            repeat (first | refine AL.seq ?_ | refine AL.block ?_ | refine AL.skip ?_ | refine AL.blk ?_)
            refine AL.ret ?_
            try simp only [AU]
            refine ⟨by simp, Fin.data (by simp [resAs, resA]; rfl) hbox rfl htok (fun _ h => h) (Nat.le_refl _) ?_⟩
            simp [packA]
          · have s2 := s2 (fun _ => ⟨by omega, by omega⟩)
            try (simp [hv, n6, e8])
            repeat ((repeat (first | refine AL.seq ?_ | refine AL.block ?_ | refine AL.skip ?_ | refine AL.blk ?_)); (refine AL.region follows_Tryz (Nat.le_refl _) (by kernel_rfl) ?_); simp [hv, n6, e8])
            repeat (first | refine AL.seq ?_ | refine AL.block ?_ | refine AL.skip ?_ | refine AL.blk ?_)
            refine AL.cond ?_
            simp
            try (simp)
            repeat ((repeat (first | refine AL.seq ?_ | refine AL.block ?_ | refine AL.skip ?_ | refine AL.blk ?_)); (refine AL.region follows_Tryz (Nat.le_refl _) (by kernel_rfl) ?_); simp)
            refine Stop.of_d (hcp _ _) ?_
            simp
            refine Stop.data ?_
            have htk := (TK.start htok).full.app.full.app
            refine Stop.of_d (s1 _ _) ?_
            simp
            try (simp)
            repeat ((repeat (first | refine AL.seq ?_ | refine AL.block ?_ | refine AL.skip ?_ | refine AL.blk ?_)); (refine AL.region follows_Tryz (Nat.le_refl _) (by kernel_rfl) ?_); simp)
            refine Stop.of_d (s2 _ _) ?_
            simp
            try (simp)
            repeat ((repeat (first | refine AL.seq ?_ | refine AL.block ?_ | refine AL.skip ?_ | refine AL.blk ?_)); (refine AL.region follows_Tryz (Nat.le_refl _) (by kernel_rfl) ?_); simp)
            repeat (first | refine AL.seq ?_ | refine AL.block ?_ | refine AL.skip ?_ | refine AL.blk ?_)
            refine AL.ret ?_
            try simp only [AU]
            refine ⟨by simp, Fin.data (by simp [resAs, resA]; rfl) hbox rfl htok htk.old htk.le ?_⟩
            simp [packA, ]
      · have s2 := s2 (fun h => absurd h hv)
        have bv : (validG x.to == 0) = false := by simp [hv]
        try (simp [bv])
        repeat ((repeat (first | refine AL.seq ?_ | refine AL.block ?_ | refine AL.skip ?_ | refine AL.blk ?_)); (refine AL.region follows_Tryz (Nat.le_refl _) (by kernel_rfl) ?_); simp [bv])
        repeat (first | refine AL.seq ?_ | refine AL.block ?_ | refine AL.skip ?_ | refine AL.blk ?_)
        refine AL.cond ?_
        simp
        try (simp)
        repeat ((repeat (first | refine AL.seq ?_ | refine AL.block ?_ | refine AL.skip ?_ | refine AL.blk ?_)); (refine AL.region follows_Tryz (Nat.le_refl _) (by kernel_rfl) ?_); simp)
        refine Stop.of_d (hcp _ _) ?_
        simp
        refine Stop.data ?_
        have htk := (TK.start htok).full.app.full.app
        refine Stop.of_d (s1 _ _) ?_
        simp
        try (simp)
        repeat ((repeat (first | refine AL.seq ?_ | refine AL.block ?_ | refine AL.skip ?_ | refine AL.blk ?_)); (refine AL.region follows_Tryz (Nat.le_refl _) (by kernel_rfl) ?_); simp)
        refine Stop.of_d (s2 _ _) ?_
        simp
        try (simp)
        repeat ((repeat (first | refine AL.seq ?_ | refine AL.block ?_ | refine AL.skip ?_ | refine AL.blk ?_)); (refine AL.region follows_Tryz (Nat.le_refl _) (by kernel_rfl) ?_); simp)
        repeat (first | refine AL.seq ?_ | refine AL.block ?_ | refine AL.skip ?_ | refine AL.blk ?_)
        refine AL.ret ?_
        try simp only [AU]
        refine ⟨by simp, Fin.data (by simp [resAs, resA]; rfl) hbox rfl htok htk.old htk.le ?_⟩
        simp [packA, ]
    · have h' : fewA x = false := by simpa using h2
      rw [h']
      try (simp)
      repeat ((repeat (first | refine AL.seq ?_ | refine AL.block ?_ | refine AL.skip ?_ | refine AL.blk ?_)); (refine AL.region follows_Tryz (Nat.le_refl _) (by kernel_rfl) ?_); simp)
      repeat (first | refine AL.seq ?_ | refine AL.block ?_ | refine AL.skip ?_ | refine AL.blk ?_)
      refine AL.cond ?_
      simp
      try (simp)
      repeat ((repeat (first | refine AL.seq ?_ | refine AL.block ?_ | refine AL.skip ?_ | refine AL.blk ?_)); (refine AL.region follows_Tryz (Nat.le_refl _) (by kernel_rfl) ?_); simp)
      refine Stop.of_d (awake33_c _ _) ?_
      simp
      try (simp)
      repeat ((repeat (first | refine AL.seq ?_ | refine AL.block ?_ | refine AL.skip ?_ | refine AL.blk ?_)); (refine AL.region follows_Tryz (Nat.le_refl _) (by kernel_rfl) ?_); simp)
      repeat (first | refine AL.seq ?_ | refine AL.block ?_ | refine AL.skip ?_ | refine AL.blk ?_)
      refine AL.ret ?_
      try simp only [AU]
      refine ⟨by simp, Fin.data (by simp [resAs, resA]; rfl) hbox rfl htok (fun _ h => h) (Nat.le_refl _) ?_⟩
      simp [packA]
  · have h' : lightB a c = false := by simpa using h
    rw [h']
    try (simp)
    repeat ((repeat (first | refine AL.seq ?_ | refine AL.block ?_ | refine AL.skip ?_ | refine AL.blk ?_)); (refine AL.region follows_Tryz (Nat.le_refl _) (by kernel_rfl) ?_); simp)
    repeat (first | refine AL.seq ?_ | refine AL.block ?_ | refine AL.skip ?_ | refine AL.blk ?_)
    refine AL.cond ?_
    simp
    try (simp)
    repeat ((repeat (first | refine AL.seq ?_ | refine AL.block ?_ | refine AL.skip ?_ | refine AL.blk ?_)); (refine AL.region follows_Tryz (Nat.le_refl _) (by kernel_rfl) ?_); simp)
    refine Stop.of_d (awake33_c _ _) ?_
    simp
    try (simp)
    repeat ((repeat (first | refine AL.seq ?_ | refine AL.block ?_ | refine AL.skip ?_ | refine AL.blk ?_)); (refine AL.region follows_Tryz (Nat.le_refl _) (by kernel_rfl) ?_); simp)
    repeat (first | refine AL.seq ?_ | refine AL.block ?_ | refine AL.skip ?_ | refine AL.blk ?_)
    refine AL.ret ?_
    try simp only [AU]
    refine ⟨by simp, Fin.data (by simp [resAs, resA]; rfl) hbox rfl htok (fun _ h => h) (Nat.le_refl _) ?_⟩
    simp [packA]
end Go.AM
/-
  The abstract machine, twenty-second part: from a statement's reading of the arguments to slots, and from a contract to the statement.
-/
namespace Go.AM
open Go Go.ChangeShapes
set_option linter.unusedSimpArgs false
set_option linter.unusedVariables false

variable {P : Program}

/-- Cells that read as data. -/
def Rd (w : World) (cs : List Value) (ds : List D) : Prop := cs.length = ds.length ∧ ∀ i (h1 : i < cs.length) (h2 : i < ds.length), RVd w.cell? (fun _ => True) ds[i] cs[i]

theorem Rd.append {w : World} {cs cs' : List Value} {ds ds' : List D} (h : Rd w cs ds) (k : Rd w cs' ds') : Rd w (cs ++ cs') (ds ++ ds') := by
  refine ⟨by simp [h.1, k.1], fun i h1 h2 => ?_⟩
  by_cases hi : i < cs.length
  · rw [List.getElem_append_left hi, List.getElem_append_left (by rw [← h.1]; exact hi)]
    exact h.2 i hi _
  · have hl := h.1
    rw [List.getElem_append_right (by omega), List.getElem_append_right (by omega)]
    have := k.2 (i - cs.length) (by simp at h1; omega) (by have := k.1; simp at h1; omega)
    simpa [hl] using this
theorem Rd.one {w : World} {c : Value} {d : D} (h : RVd w.cell? (fun _ => True) d c) : Rd w [c] [d] := ⟨rfl, fun i h1 h2 => by
  have : i = 0 := by simpa using h1
  subst this
  exact h⟩

/-- What it takes is within reach. -/
def Light {H : Type} (P : Program) (T : TypeId) (d : DataW H) : Prop := (d.weights P T).all (· ≤ reachBytes) = true

/-- How the cells of a type read as data: as the images of values of a Lean type. -/
structure Rdr (P : Program) (T : TypeId) (α : Type) where
  enc : α → List D
  ok : α → Prop
  len : ∀ x, (enc x).length = P.cellsOf T
  sound : ∀ {H : Type} (e : TypeId × Value → H) (w : World) (base : Nat) (spare : Nat → Bool) (held : Bool) (fuel : Nat) (cs : List Value) (x : DataW H × List MemPlace),
    DataW.trod e P w base spare held fuel T cs = some x → ∃ y, Rd w cs (enc y) ∧ (Light P T x.1 → ok y)

def Rdr.int {T : TypeId} {k : IntKind} (h : P.underlying T = some (.int k)) (hc : P.cellsOf T = 1) : Rdr P T Int where
  enc n := [.raw (.int k n)]
  ok n := (Lit.int k n).wf = true
  len _ := by simp [hc]
  sound e w base spare held fuel cs x hx := by
    cases fuel with
    | zero => simp [DataW.trod] at hx
    | succ n =>
      unfold DataW.trod at hx
      rw [h] at hx
      split at hx <;> simp_all
      rename_i k' n' _
      exact ⟨n', Rd.one (.raw rfl), fun _ => hx.1.2⟩

theorem cells_spec {w : World} {base : Nat} {a : Addr} {n : Nat} {l : List Value} (h : w.cells? base a n = some l) : l.length = n ∧ ∀ i (hi : i < l.length), w.cell? (a.add i) = some l[i] := by
  unfold World.cells? at h
  split at h
  · have h1 : l.length = n := by have := mapM_some_length h; simpa using this
    refine ⟨h1, fun i hi => ?_⟩
    have hin : i < n := by omega
    have := mapM_some_get h i i (by simp [hin])
    rw [this]
    exact List.getElem?_eq_getElem hi
  · cases h

theorem light_slice {H : Type} {T E : TypeId} (h : P.underlying T = some (.slice E)) {elems rest : List (DataW H)} (hl : Light P T (.slice elems rest)) : elems.length * P.bytesOf E ≤ reachBytes ∧ ∀ d ∈ elems, Light P E d := by
  unfold Light at hl ⊢
  simp only [DataW.weights, h, List.all_cons, List.all_append, Bool.and_eq_true, decide_eq_true_eq] at hl
  refine ⟨Nat.le_trans (Nat.mul_le_mul_right _ (Nat.le_add_right _ _)) hl.1, ?_⟩
  have key : ∀ l : List (DataW H), (DataW.weightsAll P E l).all (· ≤ reachBytes) = true → ∀ d ∈ l, (d.weights P E).all (· ≤ reachBytes) = true := by
    intro l
    induction l with
    | nil => intro _ d hd; simp at hd
    | cons x l ih =>
      intro hx d hd
      simp only [DataW.weightsAll, List.all_append, Bool.and_eq_true] at hx
      rcases List.mem_cons.1 hd with rfl | hd
      · exact hx.1
      · exact ih hx.2 d hd
  exact key elems hl.2.1

def Rdr.slice {T E : TypeId} {α : Type} (r : Rdr P E α) (h : P.underlying T = some (.slice E)) (hc : P.cellsOf T = 1) : Rdr P T (List α) where
  enc l := [.sl (P.cellsOf E) (l.map r.enc)]
  ok l := (∀ x ∈ l, r.ok x) ∧ l.length * P.bytesOf E ≤ reachBytes
  len _ := by simp [hc]
  sound e w base spare held fuel cs x hx := by
    rcases DataW.trod_slice h hx with ⟨rfl, rfl⟩ | ⟨a, len, cap, elems, rest, n, rfl, rfl, rfl, hb, hl, hm, hel, hat, _⟩
    · exact ⟨[], Rd.one (.sl (es := []) (fun _ _ => default) (Nat.le_refl _) (by decide) (by simp) (by simp) (by simp) (by simp)), fun _ => ⟨by simp, by simp⟩⟩
    · have key : ∀ i (hi : i < elems.length), ∃ cs y, cs.length = P.cellsOf E ∧ (∀ j (hj : j < cs.length), w.cell? (a.add (i * P.cellsOf E + j)) = some cs[j]) ∧ Rd w cs (r.enc y) ∧ (Light P E elems[i].1 → r.ok y) := by
        intro i hi
        have h1 := hat i (by omega)
        have h2 : elems[i]? = some elems[i] := List.getElem?_eq_getElem hi
        rw [h2, Option.bind_eq_some_iff] at h1
        obtain ⟨cs, hcs, htr⟩ := h1
        obtain ⟨hcl, hcc⟩ := cells_spec hcs
        obtain ⟨y, hy, hok⟩ := r.sound e w base spare held n cs _ htr
        refine ⟨cs, y, hcl, fun j hj => ?_, hy, hok⟩
        rw [← Addr.add_add]
        exact hcc j hj
      have pick : ∀ m, m ≤ elems.length → ∃ ys : List α, ys.length = m ∧ (∀ i (hi : i < ys.length) (hi2 : i < elems.length), ∃ cs, cs.length = P.cellsOf E ∧ (∀ j (hj : j < cs.length), w.cell? (a.add (i * P.cellsOf E + j)) = some cs[j]) ∧ Rd w cs (r.enc ys[i]) ∧ (Light P E elems[i].1 → r.ok ys[i])) := by
        intro m
        induction m with
        | zero => intro _; exact ⟨[], rfl, fun i hi => by simp at hi⟩
        | succ m ih =>
          intro hm'
          obtain ⟨ys, hys, hall⟩ := ih (by omega)
          obtain ⟨cs, y, g1, g2, g3, g4⟩ := key m (by omega)
          refine ⟨ys ++ [y], by simp [hys], fun i hi hi2 => ?_⟩
          by_cases him : i < ys.length
          · rw [List.getElem_append_left him]
            exact hall i him hi2
          · have : i = m := by simp at hi; omega
            subst this
            have e1 : (ys ++ [y])[i] = y := by
              rw [List.getElem_append_right (by omega)]
              simp
            rw [e1]
            exact ⟨cs, g1, g2, g3, g4⟩
      obtain ⟨ys, hys, hall⟩ := pick elems.length (Nat.le_refl _)
      refine ⟨ys, Rd.one ?_, fun hli => ?_⟩
      · have hlen : len = ys.length := by omega
        subst hlen
        have hml : ys.length = (ys.map r.enc).length := by simp
        rw [hml]
        refine .sl (fun i j => (w.cell? (a.add (i * P.cellsOf E + j))).getD default) (by simpa using hl) hm (fun e he => ?_) (fun _ => ⟨a, rfl⟩) (fun a' ha' i j hi hj => ?_) (fun i j hi hj => ?_)
        · obtain ⟨y, _, rfl⟩ := List.mem_map.1 he
          exact r.len y
        · cases ha'
          obtain ⟨cs, g1, g2, _⟩ := hall i (by simpa using hi) (by simp at hi; omega)
          rw [g2 j (by omega)]
          exact ⟨trivial, rfl⟩
        · obtain ⟨cs, g1, g2, g3, _⟩ := hall i (by simpa using hi) (by simp at hi; omega)
          simp only [List.getElem_map] at hj ⊢
          have hjc : j < cs.length := by rw [g3.1]; exact hj
          rw [g2 j hjc]
          exact g3.2 j hjc hj
      · obtain ⟨w1, w2⟩ := light_slice h hli
        refine ⟨fun y hy => ?_, by simpa [hys] using w1⟩
        obtain ⟨i, hi, rfl⟩ := List.getElem_of_mem hy
        obtain ⟨_, _, _, _, h4⟩ := hall i hi (by omega)
        exact h4 (w2 _ (List.mem_map.2 ⟨_, List.getElem_mem _, rfl⟩))

def Rdr.map {T : TypeId} {α β : Type} (r : Rdr P T α) (f : α → β) (enc : β → List D) (ok : β → Prop) (he : ∀ x, enc (f x) = r.enc x) (hok : ∀ x, r.ok x → ok (f x)) (hl : ∀ y, (enc y).length = P.cellsOf T) : Rdr P T β where
  enc := enc
  ok := ok
  len := hl
  sound e w base spare held fuel cs x hx := by
    obtain ⟨y, h1, h2⟩ := r.sound e w base spare held fuel cs x hx
    exact ⟨f y, by rw [he]; exact h1, fun hl => hok y (h2 hl)⟩

/-- A slice, its elements' size named. -/
def Rdr.sliceN {T E : TypeId} {α : Type} (r : Rdr P E α) (n : Nat) (h : P.underlying T = some (.slice E)) (hc : P.cellsOf T = 1) (hn : P.cellsOf E = n) : Rdr P T (List α) where
  enc l := [.sl n (l.map r.enc)]
  ok l := (∀ x ∈ l, r.ok x) ∧ l.length * P.bytesOf E ≤ reachBytes
  len _ := by simp [hc]
  sound := by
    subst hn
    exact (Rdr.slice r h hc).sound

theorem list2 {α : Type} {l : List α} (h : l.length = 2) : l = [l[0]'(by omega), l[1]'(by omega)] := by
  match l, h with
  | [p, q], _ => rfl
theorem list3 {α : Type} {l : List α} (h : l.length = 3) : l = [l[0]'(by omega), l[1]'(by omega), l[2]'(by omega)] := by
  match l, h with
  | [p, q, r], _ => rfl

def Rdr.struct2 {T A B : TypeId} {α β : Type} (r : Rdr P A α) (s : Rdr P B β) {f0 f1 : Field} (h : P.underlying T = some (.struct #[f0, f1])) (hA : f0.type = A) (hB : f1.type = B) (h0 : f0.offset = 0) (h1 : f1.offset = P.cellsOf A)
    (hc : P.cellsOf T = P.cellsOf A + P.cellsOf B) : Rdr P T (α × β) where
  enc x := r.enc x.1 ++ s.enc x.2
  ok x := r.ok x.1 ∧ s.ok x.2
  len x := by simp [r.len, s.len, hc]
  sound e w base spare held fuel cs x hx := by
    obtain ⟨xs, n, rfl, rfl, hl, hxs, hat⟩ := DataW.trod_struct h hx
    have hxs' : xs.length = 2 := hxs
    have g0 := hat 0 f0 rfl
    have g1 := hat 1 f1 rfl
    have e0 : xs[0]? = some (xs[0]'(by omega)) := List.getElem?_eq_getElem (by omega)
    have e1 : xs[1]? = some (xs[1]'(by omega)) := List.getElem?_eq_getElem (by omega)
    rw [e0, h0, hA] at g0
    rw [e1, h1, hB] at g1
    obtain ⟨y, k1, k2⟩ := r.sound e w base spare held n _ _ g0
    obtain ⟨z, m1, m2⟩ := s.sound e w base spare held n _ _ g1
    refine ⟨(y, z), ?_, fun hli => ?_⟩
    rotate_left
    · unfold Light at hli k2 m2
      have e2 : xs = [xs[0]'(by omega), xs[1]'(by omega)] := list2 hxs'
      rw [e2] at hli
      simp only [List.map_cons, List.map_nil, DataW.weights, h, DataW.weightsEach, hA, hB, List.all_append, Bool.and_eq_true] at hli
      exact ⟨k2 hli.1, m2 hli.2.1⟩
    have hcs : cs = (cs.drop 0).take (P.cellsOf A) ++ (cs.drop (P.cellsOf A)).take (P.cellsOf B) := by
      have : (cs.drop (P.cellsOf A)).take (P.cellsOf B) = cs.drop (P.cellsOf A) := List.take_of_length_le (by simp; omega)
      rw [this, List.drop_zero, List.take_append_drop]
    rw [hcs]
    exact k1.append m1

def Rdr.struct3 {T A B C : TypeId} {α β γ : Type} (r : Rdr P A α) (s : Rdr P B β) (t : Rdr P C γ) {f0 f1 f2 : Field} (h : P.underlying T = some (.struct #[f0, f1, f2])) (hA : f0.type = A) (hB : f1.type = B) (hC : f2.type = C)
    (h0 : f0.offset = 0) (h1 : f1.offset = P.cellsOf A) (h2 : f2.offset = P.cellsOf A + P.cellsOf B) (hc : P.cellsOf T = P.cellsOf A + P.cellsOf B + P.cellsOf C) : Rdr P T (α × β × γ) where
  enc x := r.enc x.1 ++ (s.enc x.2.1 ++ t.enc x.2.2)
  ok x := r.ok x.1 ∧ s.ok x.2.1 ∧ t.ok x.2.2
  len x := by simp [r.len, s.len, t.len, hc]; omega
  sound e w base spare held fuel cs x hx := by
    obtain ⟨xs, n, rfl, rfl, hl, hxs, hat⟩ := DataW.trod_struct h hx
    have hxs' : xs.length = 3 := hxs
    have g0 := hat 0 f0 rfl
    have g1 := hat 1 f1 rfl
    have g2 := hat 2 f2 rfl
    have e0 : xs[0]? = some (xs[0]'(by omega)) := List.getElem?_eq_getElem (by omega)
    have e1 : xs[1]? = some (xs[1]'(by omega)) := List.getElem?_eq_getElem (by omega)
    have e2 : xs[2]? = some (xs[2]'(by omega)) := List.getElem?_eq_getElem (by omega)
    rw [e0, h0, hA] at g0
    rw [e1, h1, hB] at g1
    rw [e2, h2, hC] at g2
    obtain ⟨y, k1, k2⟩ := r.sound e w base spare held n _ _ g0
    obtain ⟨z, m1, m2⟩ := s.sound e w base spare held n _ _ g1
    obtain ⟨q, p1, p2⟩ := t.sound e w base spare held n _ _ g2
    refine ⟨(y, z, q), ?_, fun hli => ?_⟩
    rotate_left
    · unfold Light at hli k2 m2 p2
      have e2 : xs = [xs[0]'(by omega), xs[1]'(by omega), xs[2]'(by omega)] := list3 hxs'
      rw [e2] at hli
      simp only [List.map_cons, List.map_nil, DataW.weights, h, DataW.weightsEach, hA, hB, hC, List.all_append, Bool.and_eq_true] at hli
      exact ⟨k2 hli.1, m2 hli.2.1, p2 hli.2.2.1⟩
    have hcs : cs = (cs.drop 0).take (P.cellsOf A) ++ ((cs.drop (P.cellsOf A)).take (P.cellsOf B) ++ (cs.drop (P.cellsOf A + P.cellsOf B)).take (P.cellsOf C)) := by
      have : (cs.drop (P.cellsOf A + P.cellsOf B)).take (P.cellsOf C) = cs.drop (P.cellsOf A + P.cellsOf B) := List.take_of_length_le (by simp; omega)
      rw [this, ← List.drop_drop, List.take_append_drop, List.drop_zero, List.take_append_drop]
    rw [hcs]
    exact k1.append (m1.append p1)

/-! ### The start -/
def G0 : Gh := ⟨fun _ => none, fun _ => none, fun _ => .whole, 0⟩
def m0 : AMem := ⟨fun _ => none, 0, fun _ => false, 0⟩
theorem G0_ps (a : Addr) : G0.ps a := trivial
theorem relM_start (W : World) : RelM G0 m0 W := by
  constructor
  case box => intro k rows b sz h; cases h
  case nobox => intro k _; rfl
  case inj => intro k k' b sz sz' h; cases h
  case nb => intro k _; rfl
  case nt => rfl
  case toks => intro t h; cases h
  case tokb => intro t g h; cases h
  case tinj => intro t t' g h; cases h
  case tnt => intro t x h; cases h
  case fresh => intro b _; rfl

theorem RVd.start {W : World} {d : D} {v : Value} (h : RVd W.cell? (fun _ => True) d v) : RVd W.cell? G0.ps d v := h.mono fun a u _ hc => ⟨G0_ps a, hc⟩

/-- A struct that came in. -/
theorem Rdr.agg {T : TypeId} {α : Type} (r : Rdr P T α) {W : World} {base base' : Nat} {sp : Nat → Bool} {held : Bool} {H : Type} {enc : TypeId × Value → H} {v : Value} {d : DataW H} {p : List MemPlace}
    (hs : aggT P T = some true) (hv : Value.okWide P W .any base T v) (h : DataW.Trod enc P W base' sp held T v d p) (hli : Light P T d) : ∃ y, r.ok y ∧ RV G0 W (.agg ((r.enc y).map .d)) v := by
  have hcs : ∃ cs, v = .agg cs := by
    unfold aggT at hs
    unfold Value.okWide at hv
    cases hu : P.underlying T with
    | none => rw [hu] at hs; simp at hs
    | some u =>
      rw [hu] at hs hv
      cases u <;> simp at hs hv <;> exact ⟨_, hv.choose_spec.1⟩
  obtain ⟨cs, rfl⟩ := hcs
  obtain ⟨fuel, h⟩ := h
  obtain ⟨y, ⟨h1, h2⟩, hok⟩ := r.sound enc W base' sp held fuel _ _ h
  refine ⟨y, hok hli, ?_⟩
  simp only [Value.cells] at h1 h2
  have := RV.agg (G := G0) (w := W) (cs := (r.enc y).map .d) (vs := cs.toList) (by simp [h1]) (fun i g1 g2 => by
    simp only [List.getElem_map]
    exact .d (h2 i g2 (by simpa using g1)).start) (fun v hv => by
    obtain ⟨i, hi, rfl⟩ := List.getElem_of_mem hv
    exact (h2 i hi (by omega)).one)
  simpa using this

theorem light_arg {H : Type} {ts : List TypeId} {ds : List (DataW H)} (hz : (DataW.weightsEach P ts ds).all (· ≤ reachBytes) = true) {j : Nat} {T : TypeId} {d : DataW H} (ht : ts[j]? = some T) (hd : ds[j]? = some d) : Light P T d :=
  List.all_eq_true.2 fun x hx => List.all_eq_true.1 hz x (DataW.weights_mem_each ht hd x hx)

theorem arg_agg {ps : Array TypeId} {args : Array Value} {W : World} {base base' : Nat} {sp : Nat → Bool} {held : Bool} {H : Type} {enc : TypeId × Value → H} (hval : ∀ (j : Nat) t v, ps[j]? = some t → args[j]? = some v → Value.okWide P W .any base t v)
    (j : Nat) (T : TypeId) (v : Value) (hp : ps[j]? = some T) (ha : args[j]? = some v) {α : Type} (r : Rdr P T α) {d : DataW H} {p : List MemPlace} (hs : aggT P T = some true) (h : DataW.Trod enc P W base' sp held T v d p) (hli : Light P T d) :
    ∃ y, r.ok y ∧ RV G0 W (.agg ((r.enc y).map .d)) v := r.agg hs (hval j T v hp ha) h hli
/-! ### The end -/
theorem le_old {W W' : World} {G' : Gh} (h : Le G0 W G' W') (b : Nat) (hb : b < W.heap.size) : W'.heap[b]? = W.heap[b]? := (h.whole b hb rfl).2
theorem le_kept {W W' : World} {G' : Gh} (h : Le G0 W G' W') (may : MemPlace → Prop) : W.keptBut W' may := by
  refine ⟨h.os, h.output, fun i hi => ?_⟩
  rw [le_old h i hi]
  split
  · rename_i c t fr c' t' fr' e1 e2
    rw [e1] at e2
    cases e2
    exact ⟨rfl, rfl, rfl, fun _ _ => rfl⟩
  · rename_i e1 e2
    rw [e1] at e2
    cases e2
    exact .inr ⟨rfl, rfl⟩
  · rfl
theorem le_same {W W' : World} {G' : Gh} (h : Le G0 W G' W') {p : MemPlace} (hp : p.block < W.heap.size) : W.sameAt W' p := by
  cases p with
  | cell b off => exact World.cell?_of_block (w := W) (a := ⟨b, off, none⟩) (le_old h b hp)
  | map b => exact le_old h b hp
theorem trodAll_stays {H : Type} {enc : TypeId × Value → H} {W W' : World} {T : TypeId → Prop} {sp' : Nat → Bool} (K : Kids P T) (hsz : ∀ {t e : TypeId}, T t → P.underlying t = some (.slice e) → 0 < P.cellsOf e) :
    ∀ {ts : List TypeId} {vs : List Value} {ds : List (DataW H)} {ps : List MemPlace}, (∀ t ∈ ts, T t) → DataW.TrodAll enc P W 0 (fun _ => true) true ts vs ds ps → (∀ p ∈ ps, W.sameAt W' p) → (∀ p ∈ ps, sp' p.block = true) →
    DataW.TrodAll enc P W' 0 sp' true ts vs ds ps
  | [], [], [], _, _, h, _, _ => h
  | t :: ts, v :: vs, d :: ds, _, hT, ⟨p, q, ⟨n, hn⟩, h2, e⟩, h3, h4 => by
    subst e
    exact ⟨p, q, ⟨n, DataW.trod_stays K hsz (fun h => by cases h) (hT t (by simp)) hn (fun x hx => h3 x (by simp [hx])) (fun x hx => h4 x (by simp [hx]))⟩,
      trodAll_stays K hsz (fun t ht => hT t (by simp [ht])) h2 (fun x hx => h3 x (by simp [hx])) (fun x hx => h4 x (by simp [hx])), rfl⟩

/-- A law: its contract says that it returns true. -/
theorem law_of {f : FuncId} {fn : Func} {s : ChangeSpec} {H : Type} {enc : TypeId × Value → H} {W : World} {args : Array Value} {ds : List (DataW H)} {before : List MemPlace} {avs : List AV} {tok' : Nat → Bool} {nt' : Nat}
    (hl : laidOutB P = true) (hm : mapsRowed P = true) (hz : ((List.range P.types.size).all fun t => match P.underlying t with | some (.slice e) => decide (0 < P.cellsOf e) | _ => true) = true)
    (hpar : fn.params.all (· < P.types.size) = true) {tb : TypeId} (hres : fn.resultTypes = #[tb]) (hb : P.underlying tb = some .bool)
    (hvars : s.vars = []) (hfn : s.fn H ds = { results := [.lit (.bool true)], args := ds })
    (hW : DataW.Whole enc P fn.params.toList s.vars false W args.toList ds [] before) (hr : RVs G0 W avs args.toList) (hc : DCall P f avs (fun _ => false) 0 (B true) tok' nt') :
    Calls P f args W fun e W' => ∃ v, e = .returned v ∧ s.post enc P fn false true false false W args v W' := by
  have hcall := (hc (fun _ => none) 0).2 G0 W args.toList (relM_start W) hr
  simp only [Array.toArray_toList] at hcall
  refine hcall.mono ?_
  rintro e W' ⟨v, av, m', G', rfl, ⟨rfl, rfl⟩, _, _, hv, hle, _⟩
  cases hv with
  | d hv =>
    cases hv with
    | raw =>
      refine ⟨_, rfl, ?_⟩
      have hlt := hW.lt
      have hWW := hW
      obtain ⟨p, q, hA, hV, rfl, hfz, hnd⟩ := hW
      rw [hvars] at hV
      obtain ⟨_, rfl⟩ := trodVars_none hV
      simp only [List.append_nil] at hlt hfz hWW ⊢
      have hT : ∀ t ∈ fn.params.toList, t < P.types.size := fun t ht => by
        have := Array.all_eq_true_iff_forall_mem.1 hpar t (by simpa using ht)
        simpa using this
      have hsz : ∀ {t e : TypeId}, t < P.types.size → P.underlying t = some (.slice e) → 0 < P.cellsOf e := by
        intro t e ht hu
        have := List.all_eq_true.1 hz t (List.mem_range.2 ht)
        rw [hu] at this
        simpa using this
      have hargs : ∀ sp : Nat → Bool, (∀ x ∈ p, sp x.block = true) → DataW.TrodAll enc P W' 0 sp true fn.params.toList args.toList ds p := fun sp hsp =>
        trodAll_stays (kids_rows hl hm) hsz hT hA (fun x hx => le_same hle (hlt x hx)) hsp
      have hnat : (Value.bool true).resultList fn.resultTypes.size = [.bool true] := by rw [hres]; rfl
      have hresb : ∀ (b : Nat) (sp : Nat → Bool) (hd : Bool), DataW.TrodAll enc P W' b sp hd fn.resultTypes.toList ((Value.bool true).resultList fn.resultTypes.size) [.lit (.bool true)] [] := fun b sp hd => by
        rw [hnat, hres]
        exact trodAll_mk1 ⟨1, by simp [DataW.trod, hb, Value.cells]⟩
      have hfn' : s.fn H (ds ++ []) = { results := [.lit (.bool true)], args := ds } := by rw [List.append_nil]; exact hfn
      refine ⟨ds, [], p, [], p, [], hWW, ?_, ?_, ?_, World.keptBut_mono (fun _ f => f.elim) (le_kept hle fun _ => False), fun h => by cases h⟩
      · rw [hfn']; exact hresb _ _ _
      · rw [hfn']; exact hargs _ fun x hx => by simpa using hlt x hx
      · rw [hfn', hvars]; exact rfl
end Go.AM
/-
  What the arguments of this chapter's statements read as: graphs, morphisms, overlaps.
-/
namespace Go.AM
open Go Go.Proofs

theorem own0 : ownKnob Tryz.prog.godebug = none := by kernel_rfl
theorem laidOut0 : laidOutB Tryz.prog = true := by kernel_rfl
theorem mapsRowed0 : mapsRowed Tryz.prog = true := by kernel_rfl
theorem slices0 : ((List.range Tryz.prog.types.size).all fun t => match Tryz.prog.underlying t with | some (.slice e) => decide (0 < Tryz.prog.cellsOf e) | _ => true) = true := by kernel_rfl

def rdInt : Rdr Tryz.prog 3 Int := Rdr.int (k := .i64) Tryz.underlying3 (by kernel_rfl)
def rdInts : Rdr Tryz.prog 22 (List Int) := rdInt.sliceN 1 Tryz.underlying22 (by kernel_rfl) (by kernel_rfl)
def rdEdge0 : Rdr Tryz.prog 62 (Int × Int × Int) := Rdr.struct3 rdInt rdInt rdInt Tryz.underlying62 rfl rfl rfl rfl (by kernel_rfl) (by kernel_rfl) (by kernel_rfl)
def rdEdge : Rdr Tryz.prog 62 E := rdEdge0.map (fun x => ⟨x.1, x.2.1, x.2.2⟩) E.cells (fun _ => True) (fun _ => rfl) (fun _ _ => trivial) (fun _ => by kernel_rfl)
def rdEdges : Rdr Tryz.prog 23 (List E) := rdEdge.sliceN 3 Tryz.underlying23 (by kernel_rfl) (by kernel_rfl)
def rdGraph0 : Rdr Tryz.prog 25 (List Int × List E) := Rdr.struct2 rdInts rdEdges Tryz.underlying25 rfl rfl rfl (by kernel_rfl) (by kernel_rfl)
def rdGraph : Rdr Tryz.prog 25 Gr := rdGraph0.map (fun x => ⟨x.1, x.2⟩) (fun g => [ints g.nodes, AM.edges g.edges]) (fun _ => True) (fun _ => rfl) (fun _ _ => trivial) (fun _ => by kernel_rfl)

set_option maxRecDepth 100000 in
theorem arg_graph {ps : Array TypeId} {args : Array Value} {W : World} {base base' : Nat} {sp : Nat → Bool} {held : Bool} {H : Type} {enc : TypeId × Value → H} (hval : ∀ (j : Nat) t v, ps[j]? = some t → args[j]? = some v → Value.okWide Tryz.prog W .any base t v)
    (j : Nat) (v : Value) (hp : ps[j]? = some 25) (ha : args[j]? = some v) {d : DataW H} {p : List MemPlace} (h : DataW.Trod enc Tryz.prog W base' sp held 25 v d p) (hli : Light Tryz.prog 25 d) : ∃ g : Gr, RV G0 W g.av v := by
  refine Exists.elim (arg_agg hval j 25 v hp ha rdGraph aggT_25 h hli) fun g hg => ⟨g, ?_⟩
  exact hg.2
end Go.AM
/-
  What a condition reads as.
-/
namespace Go.AM
open Go Go.Proofs Go.ChangeShapes
set_option linter.unusedSimpArgs false
set_option linter.unusedVariables false

/-- How the cells of a type read as data, where the reading may go so deep. -/
structure RdF (P : Program) (T : TypeId) {α : Type} (en : α → List D) (ok : α → Prop) (n : Nat) : Prop where
  sound : ∀ {H : Type} (e : TypeId × Value → H) (w : World) (base : Nat) (spare : Nat → Bool) (held : Bool) (cs : List Value) (x : DataW H × List MemPlace),
    DataW.trod e P w base spare held n T cs = some x → ∃ y, Rd w cs (en y) ∧ (Light P T x.1 → ok y)
theorem Rdr.f {P : Program} {T : TypeId} {α : Type} (r : Rdr P T α) (n : Nat) : RdF P T r.enc r.ok n := ⟨fun e w base spare held cs x hx => r.sound e w base spare held n cs x hx⟩
theorem RdF.zero {P : Program} {T : TypeId} {α : Type} {en : α → List D} {ok : α → Prop} : RdF P T en ok 0 := ⟨fun e w base spare held cs x hx => by simp [DataW.trod] at hx⟩
def Rdr.ofF {P : Program} {T : TypeId} {α : Type} (en : α → List D) (ok : α → Prop) (len : ∀ x, (en x).length = P.cellsOf T) (h : ∀ n, RdF P T en ok n) : Rdr P T α := ⟨en, ok, len, fun e w base spare held n cs x hx => (h n).sound e w base spare held cs x hx⟩

theorem RdF.slice {P : Program} {T E : TypeId} {α : Type} {en : α → List D} {ok : α → Prop} {n : Nat} (r : RdF P E en ok n) (k : Nat) (hk : P.cellsOf E = k) (hlen : ∀ x, (en x).length = k) (h : P.underlying T = some (.slice E)) :
    RdF P T (fun l : List α => [.sl k (l.map en)]) (fun l => (∀ x ∈ l, ok x) ∧ l.length * P.bytesOf E ≤ reachBytes) (n + 1) := by
  subst hk
  constructor
  intro H e w base spare held cs x hx
  rcases DataW.trod_slice h hx with ⟨rfl, rfl⟩ | ⟨a, len, cap, elems, rest, n', hn', rfl, rfl, hb, hl, hm, hel, hat, _⟩
  · exact ⟨[], Rd.one (.sl (es := []) (fun _ _ => default) (Nat.le_refl _) (by decide) (by simp) (by simp) (by simp) (by simp)), fun _ => ⟨by simp, by simp⟩⟩
  · obtain rfl : n' = n := by omega
    have key : ∀ i (hi : i < elems.length), ∃ cs y, cs.length = P.cellsOf E ∧ (∀ j (hj : j < cs.length), w.cell? (a.add (i * P.cellsOf E + j)) = some cs[j]) ∧ Rd w cs (en y) ∧ (Light P E elems[i].1 → ok y) := by
      intro i hi
      have h1 := hat i (by omega)
      have h2 : elems[i]? = some elems[i] := List.getElem?_eq_getElem hi
      rw [h2, Option.bind_eq_some_iff] at h1
      obtain ⟨cs, hcs, htr⟩ := h1
      obtain ⟨hcl, hcc⟩ := cells_spec hcs
      obtain ⟨y, hy, hok⟩ := r.sound e w base spare held cs _ htr
      refine ⟨cs, y, hcl, fun j hj => ?_, hy, hok⟩
      rw [← Addr.add_add]
      exact hcc j hj
    have pick : ∀ m, m ≤ elems.length → ∃ ys : List α, ys.length = m ∧ (∀ i (hi : i < ys.length) (hi2 : i < elems.length), ∃ cs, cs.length = P.cellsOf E ∧ (∀ j (hj : j < cs.length), w.cell? (a.add (i * P.cellsOf E + j)) = some cs[j]) ∧ Rd w cs (en ys[i]) ∧ (Light P E elems[i].1 → ok ys[i])) := by
      intro m
      induction m with
      | zero => intro _; exact ⟨[], rfl, fun i hi => by simp at hi⟩
      | succ m ih =>
        intro hm'
        obtain ⟨ys, hys, hall⟩ := ih (by omega)
        obtain ⟨cs, y, g1, g2, g3, g4⟩ := key m (by omega)
        refine ⟨ys ++ [y], by simp [hys], fun i hi hi2 => ?_⟩
        by_cases him : i < ys.length
        · rw [List.getElem_append_left him]
          exact hall i him hi2
        · have : i = m := by simp at hi; omega
          subst this
          have e1 : (ys ++ [y])[i] = y := by
            rw [List.getElem_append_right (by omega)]
            simp
          rw [e1]
          exact ⟨cs, g1, g2, g3, g4⟩
    obtain ⟨ys, hys, hall⟩ := pick elems.length (Nat.le_refl _)
    refine ⟨ys, Rd.one ?_, fun hli => ?_⟩
    · have hlen' : len = ys.length := by omega
      subst hlen'
      have hml : ys.length = (ys.map en).length := by simp
      rw [hml]
      refine .sl (fun i j => (w.cell? (a.add (i * P.cellsOf E + j))).getD default) (by simpa using hl) hm (fun e he => ?_) (fun _ => ⟨a, rfl⟩) (fun a' ha' i j hi hj => ?_) (fun i j hi hj => ?_)
      · obtain ⟨y, _, rfl⟩ := List.mem_map.1 he
        exact hlen y
      · cases ha'
        obtain ⟨cs, g1, g2, _⟩ := hall i (by simpa using hi) (by simp at hi; omega)
        rw [g2 j (by omega)]
        exact ⟨trivial, rfl⟩
      · obtain ⟨cs, g1, g2, g3, _⟩ := hall i (by simpa using hi) (by simp at hi; omega)
        simp only [List.getElem_map] at hj ⊢
        have hjc : j < cs.length := by rw [g3.1]; exact hj
        rw [g2 j hjc]
        exact g3.2 j hjc hj
    · obtain ⟨w1, w2⟩ := light_slice h hli
      refine ⟨fun y hy => ?_, by simpa [hys] using w1⟩
      obtain ⟨i, hi, rfl⟩ := List.getElem_of_mem hy
      obtain ⟨_, _, _, _, h4⟩ := hall i hi (by omega)
      exact h4 (w2 _ (List.mem_map.2 ⟨_, List.getElem_mem _, rfl⟩))

theorem list4 {α : Type} {l : List α} (h : l.length = 4) : l = [l[0]'(by omega), l[1]'(by omega), l[2]'(by omega), l[3]'(by omega)] := by
  match l, h with
  | [p, q, r, s], _ => rfl

theorem RdF.struct4 {P : Program} {T A B C E : TypeId} {α β γ δ : Type} {ea : α → List D} {eb : β → List D} {ec : γ → List D} {ed : δ → List D} {oa : α → Prop} {ob : β → Prop} {oc : γ → Prop} {od : δ → Prop} {n : Nat}
    (r : RdF P A ea oa n) (s : RdF P B eb ob n) (t : RdF P C ec oc n) (u : RdF P E ed od n) {f0 f1 f2 f3 : Field} (h : P.underlying T = some (.struct #[f0, f1, f2, f3])) (hA : f0.type = A) (hB : f1.type = B) (hC : f2.type = C) (hE : f3.type = E)
    (h0 : f0.offset = 0) (h1 : f1.offset = P.cellsOf A) (h2 : f2.offset = P.cellsOf A + P.cellsOf B) (h3 : f3.offset = P.cellsOf A + P.cellsOf B + P.cellsOf C) (hc : P.cellsOf T = P.cellsOf A + P.cellsOf B + P.cellsOf C + P.cellsOf E) :
    RdF P T (fun x : α × β × γ × δ => ea x.1 ++ (eb x.2.1 ++ (ec x.2.2.1 ++ ed x.2.2.2))) (fun x => oa x.1 ∧ ob x.2.1 ∧ oc x.2.2.1 ∧ od x.2.2.2) (n + 1) := by
  constructor
  intro H e w base spare held cs x hx
  obtain ⟨xs, n', hn', rfl, hl, hxs, hat⟩ := DataW.trod_struct h hx
  obtain rfl : n' = n := by omega
  have hxs' : xs.length = 4 := hxs
  have g0 := hat 0 f0 rfl
  have g1 := hat 1 f1 rfl
  have g2 := hat 2 f2 rfl
  have g3 := hat 3 f3 rfl
  have e0 : xs[0]? = some (xs[0]'(by omega)) := List.getElem?_eq_getElem (by omega)
  have e1 : xs[1]? = some (xs[1]'(by omega)) := List.getElem?_eq_getElem (by omega)
  have e2 : xs[2]? = some (xs[2]'(by omega)) := List.getElem?_eq_getElem (by omega)
  have e3 : xs[3]? = some (xs[3]'(by omega)) := List.getElem?_eq_getElem (by omega)
  rw [e0, h0, hA] at g0
  rw [e1, h1, hB] at g1
  rw [e2, h2, hC] at g2
  rw [e3, h3, hE] at g3
  obtain ⟨y, k1, k2⟩ := r.sound e w base spare held _ _ g0
  obtain ⟨z, m1, m2⟩ := s.sound e w base spare held _ _ g1
  obtain ⟨q, p1, p2⟩ := t.sound e w base spare held _ _ g2
  obtain ⟨v, q1, q2⟩ := u.sound e w base spare held _ _ g3
  refine ⟨(y, z, q, v), ?_, fun hli => ?_⟩
  rotate_left
  · unfold Light at hli k2 m2 p2 q2
    have e2 : xs = [xs[0]'(by omega), xs[1]'(by omega), xs[2]'(by omega), xs[3]'(by omega)] := list4 hxs'
    rw [e2] at hli
    simp only [List.map_cons, List.map_nil, DataW.weights, h, DataW.weightsEach, hA, hB, hC, hE, List.all_append, Bool.and_eq_true] at hli
    exact ⟨k2 hli.1, m2 hli.2.1, p2 hli.2.2.1, q2 hli.2.2.2.1⟩
  have hcs : cs = (cs.drop 0).take (P.cellsOf A) ++ ((cs.drop (P.cellsOf A)).take (P.cellsOf B) ++ ((cs.drop (P.cellsOf A + P.cellsOf B)).take (P.cellsOf C) ++ (cs.drop (P.cellsOf A + P.cellsOf B + P.cellsOf C)).take (P.cellsOf E))) := by
    have : (cs.drop (P.cellsOf A + P.cellsOf B + P.cellsOf C)).take (P.cellsOf E) = cs.drop (P.cellsOf A + P.cellsOf B + P.cellsOf C) := List.take_of_length_le (by simp; omega)
    rw [this]
    have e3 := List.take_append_drop (P.cellsOf C) (cs.drop (P.cellsOf A + P.cellsOf B))
    have e2 := List.take_append_drop (P.cellsOf B) (cs.drop (P.cellsOf A))
    rw [List.drop_drop] at e3 e2
    rw [e3, e2, List.drop_zero, List.take_append_drop]
  rw [hcs]
  exact k1.append (m1.append (p1.append q1))

theorem by_int : Tryz.prog.bytesOf 3 = 8 := by kernel_rfl
theorem by_edge : Tryz.prog.bytesOf 62 = 24 := by kernel_rfl
theorem by_slot : Tryz.prog.bytesOf 76 = 32 := by kernel_rfl
theorem by_test : Tryz.prog.bytesOf 78 = 40 := by kernel_rfl
theorem by_cond : Tryz.prog.bytesOf 34 = 184 := by kernel_rfl
theorem rdInts_ok {l : List Int} (h : rdInts.ok l) : l.length ≤ bigN := by
  have h2 : l.length * Tryz.prog.bytesOf 3 ≤ reachBytes := h.2
  rw [by_int] at h2; unfold reachBytes at h2; rw [bigN_eq]; omega
theorem rdEdges_ok {l : List E} (h : rdEdges.ok l) : l.length ≤ bigN := by
  have h2 : l.length * Tryz.prog.bytesOf 62 ≤ reachBytes := h.2
  rw [by_edge] at h2; unfold reachBytes at h2; rw [bigN_eq]; omega
structure Gr.Big (g : Gr) : Prop where
  n : g.nodes.length ≤ bigN
  e : g.edges.length ≤ bigN
def rdGraphB : Rdr Tryz.prog 25 Gr := rdGraph0.map (fun x => ⟨x.1, x.2⟩) (fun g => [ints g.nodes, AM.edges g.edges]) Gr.Big (fun _ => rfl) (fun _ h => ⟨rdInts_ok h.1, rdEdges_ok h.2⟩) (fun _ => by kernel_rfl)
def rdMorph0 : Rdr Tryz.prog 28 (List Int × List Int) := Rdr.struct2 rdInts rdInts Tryz.underlying28 rfl rfl rfl (by kernel_rfl) (by kernel_rfl)
def rdTerm : Rdr Tryz.prog 74 (Int × Int) := Rdr.struct2 rdInt rdInt Tryz.underlying74 rfl rfl rfl (by kernel_rfl) (by kernel_rfl)
def rdSlot0 : Rdr Tryz.prog 76 (Int × Int × Int × Int) := Rdr.struct3 rdInt rdInt rdTerm Tryz.underlying76 rfl rfl rfl rfl (by kernel_rfl) (by kernel_rfl) (by kernel_rfl)
def rdSlot : Rdr Tryz.prog 76 Sl := rdSlot0.map (fun x => ⟨x.1, x.2.1, x.2.2.1, x.2.2.2⟩) Sl.cells (fun _ => True) (fun _ => rfl) (fun _ _ => trivial) (fun _ => by kernel_rfl)
def rdSlots : Rdr Tryz.prog 29 (List Sl) := rdSlot.sliceN 4 Tryz.underlying29 (by kernel_rfl) (by kernel_rfl)
def rdTest0 : Rdr Tryz.prog 78 (Int × (Int × Int) × (Int × Int)) := Rdr.struct3 rdInt rdTerm rdTerm Tryz.underlying78 rfl rfl rfl rfl (by kernel_rfl) (by kernel_rfl) (by kernel_rfl)
def rdTest : Rdr Tryz.prog 78 Te := rdTest0.map (fun x => ⟨x.1, x.2.1.1, x.2.1.2, x.2.2.1, x.2.2.2⟩) Te.cells (fun _ => True) (fun _ => rfl) (fun _ _ => trivial) (fun _ => by kernel_rfl)
def rdTests : Rdr Tryz.prog 30 (List Te) := rdTest.sliceN 5 Tryz.underlying30 (by kernel_rfl) (by kernel_rfl)
theorem rdPat_n (n : Nat) : RdF Tryz.prog 32 (fun x : Gr × List Sl × Int × List Te => rdGraphB.enc x.1 ++ (rdSlots.enc x.2.1 ++ (rdInt.enc x.2.2.1 ++ rdTests.enc x.2.2.2))) (fun x => rdGraphB.ok x.1 ∧ rdSlots.ok x.2.1 ∧ rdInt.ok x.2.2.1 ∧ rdTests.ok x.2.2.2) n := by
  cases n with
  | zero => exact .zero
  | succ n => exact RdF.struct4 (rdGraphB.f n) (rdSlots.f n) (rdInt.f n) (rdTests.f n) Tryz.underlying32 rfl rfl rfl rfl rfl (by kernel_rfl) (by kernel_rfl) (by kernel_rfl) (by kernel_rfl)
def rdPat : Rdr Tryz.prog 32 (Gr × List Sl × Int × List Te) := Rdr.ofF _ _ (fun x => by simp [rdGraphB.len, rdSlots.len, rdInt.len, rdTests.len]; kernel_rfl) rdPat_n

theorem rdCd_n : ∀ n, RdF Tryz.prog 34 Cd.cells Cd.Big n
  | 0 => .zero
  | 1 => by
    constructor
    intro H e w base spare held cs x hx
    obtain ⟨xs, n', hn', rfl, hl, hxs, hat⟩ := DataW.trod_struct Tryz.underlying34 hx
    obtain rfl : n' = 0 := by omega
    have g0 := hat 0 _ rfl
    simp [DataW.trod] at g0
    subst g0
    simp at hxs
  | n + 2 => by
    have ih := rdCd_n n
    have hk := ih.slice 9 (by kernel_rfl) (fun c => by rw [c.cells_eq]; rfl) (T := 26) Tryz.underlying26
    have hs := RdF.struct4 (rdInt.f (n + 1)) hk (rdMorph0.f (n + 1)) (rdPat.f (n + 1)) Tryz.underlying34 rfl rfl rfl rfl rfl (by kernel_rfl) (by kernel_rfl) (by kernel_rfl) (by kernel_rfl)
    constructor
    intro H e w base spare held cs x hx
    obtain ⟨y, h1, h2⟩ := hs.sound e w base spare held cs x hx
    refine ⟨.mk y.1 y.2.1 ⟨y.2.2.1.1, y.2.2.1.2⟩ y.2.2.2.1 y.2.2.2.2.1 y.2.2.2.2.2.1 y.2.2.2.2.2.2, ?_, fun hli => ?_⟩
    · rw [Cd.cells_eq]
      exact h1
    · obtain ⟨_, ⟨k1, k2⟩, ⟨m1, m2⟩, g1, s1, _, t1⟩ := h2 hli
      have g2 : y.2.2.2.1.Big := g1
      have s2 : y.2.2.2.2.1.length * Tryz.prog.bytesOf 76 ≤ reachBytes := s1.2
      have t2 : y.2.2.2.2.2.2.length * Tryz.prog.bytesOf 78 ≤ reachBytes := t1.2
      rw [by_slot] at s2
      rw [by_test] at t2
      rw [by_cond] at k2
      unfold reachBytes at s2 t2 k2
      exact .mk (by rw [kidN_eq]; simp only [Cd.kids]; omega) (rdInts_ok m1) (rdInts_ok m2) g2.n g2.e (by rw [bigN_eq]; simp only [Cd.sl]; omega) (by rw [bigN_eq]; simp only [Cd.te]; omega) k1
theorem rdCd_len (c : Cd) : c.cells.length = Tryz.prog.cellsOf 34 := by rw [c.cells_eq]; kernel_rfl
def rdCd : Rdr Tryz.prog 34 Cd := Rdr.ofF Cd.cells Cd.Big rdCd_len rdCd_n

set_option maxRecDepth 100000 in
theorem arg_cond {ps : Array TypeId} {args : Array Value} {W : World} {base base' : Nat} {sp : Nat → Bool} {held : Bool} {H : Type} {enc : TypeId × Value → H} (hval : ∀ (j : Nat) t v, ps[j]? = some t → args[j]? = some v → Value.okWide Tryz.prog W .any base t v)
    (j : Nat) (v : Value) (hp : ps[j]? = some 34) (ha : args[j]? = some v) {d : DataW H} {p : List MemPlace} (h : DataW.Trod enc Tryz.prog W base' sp held 34 v d p) (hli : Light Tryz.prog 34 d) : ∃ c : Cd, c.Big ∧ RV G0 W c.av v := by
  refine Exists.elim (arg_agg hval j 34 v hp ha rdCd aggT_34 h hli) fun c hc => ⟨c, hc.1, ?_⟩
  have h2 : RV G0 W (.agg (c.cells.map .d)) v := hc.2
  rw [c.cells_eq] at h2
  exact h2
end Go.AM
/-
  Readers of arrows.
-/
namespace Go.AM
open Go Go.Proofs Go.ChangeShapes
set_option linter.unusedSimpArgs false
set_option linter.unusedVariables false

def rdAr0 : Rdr Tryz.prog 36 (Gr × (List Int × List Int)) := Rdr.struct2 rdGraphB rdMorph0 Tryz.underlying36 rfl rfl rfl (by kernel_rfl) (by kernel_rfl)
def rdAr : Rdr Tryz.prog 36 Ar := rdAr0.map (fun x => ⟨x.1, ⟨x.2.1, x.2.2⟩⟩) (fun x => [ints x.to.nodes, AM.edges x.to.edges, ints x.m.nodes, ints x.m.edges]) Ar.Big (fun _ => rfl) (fun x h => ⟨rdInts_ok h.2.1, rdInts_ok h.2.2⟩) (fun _ => by kernel_rfl)
set_option maxRecDepth 100000 in
theorem arg_arrow {ps : Array TypeId} {args : Array Value} {W : World} {base base' : Nat} {sp : Nat → Bool} {held : Bool} {H : Type} {enc : TypeId × Value → H} (hval : ∀ (j : Nat) t v, ps[j]? = some t → args[j]? = some v → Value.okWide Tryz.prog W .any base t v)
    (j : Nat) (v : Value) (hp : ps[j]? = some 36) (ha : args[j]? = some v) {d : DataW H} {p : List MemPlace} (h : DataW.Trod enc Tryz.prog W base' sp held 36 v d p) (hli : Light Tryz.prog 36 d) : ∃ x : Ar, x.Big ∧ RV G0 W x.av v := by
  refine Exists.elim (arg_agg hval j 36 v hp ha rdAr aggT_36 h hli) fun x hx => ⟨x, hx.1, ?_⟩
  exact hx.2
end Go.AM
