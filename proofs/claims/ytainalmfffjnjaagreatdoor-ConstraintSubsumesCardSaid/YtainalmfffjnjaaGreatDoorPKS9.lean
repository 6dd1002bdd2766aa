/-
 Parts of the proof, as merged from many texts: a machine over data, what the functions compute, plain laws.
-/
import Derived.Test.YtainalmfffjnjaaGreatDoorPKS8
import Derived.Shelf.Small.Strs
import Derived.Shelf.Strconv.Itoa0
import Derived.Shelf.Strconv.Itoa1
import Derived.Shelf.Strconv.Itoa2
import Derived.Shelf.Strconv.Itoa3
import Derived.Shelf.LaysM
import Derived.Ground.Names2Prog
import Derived.Test.YtainalmfffjnjaaGreatDoorProg
import Derived.WalkKit
import Derived.ProofKit
import Derived.OpenShut
import Derived.ChangeStays
import Derived.SizedLaws
set_option linter.unusedSimpArgs false
set_option linter.unusedVariables false
namespace Go.AM
open Go Go.Proofs
def QFo (s : Sr) (fm : Nat) (box : Bxs) (nb : Nat) (tok : Tks) (nt : Nat) (v : AV) (m : AMem) : Prop :=
 ∃ own' tok' nt', v = .osl 2 (mosR (s.fnP fm s.p.nodes.length [] [])) own' ∧ m = ⟨box, nb, tok', nt'⟩ ∧ TK tok nt tok' nt' [own']
set_option maxRecDepth 100000 in
theorem foundF_c (s : Sr) (h : s.Ok) (h0 : tyE s.t = 0) (nl : Bool) (hnl : s.Nl nl) (fm : Nat) (hfm : fm ≤ 1000000) (box : Bxs) (nb : Nat) (tok : Tks) (nt : Nat) :
  ACalls Tryz.prog 240 [s.t.av, s.p.av, s.g.av, .agg [.d (ptD nl s.pt.nodes), .d (ptD nl s.pt.edges)], B s.inj, I fm] ⟨box, nb, tok, nt⟩ (QFo s fm box nb tok nt) := by
 have hb := belowF_c s.t h.t h0
 refine sB Tryz.func240 Tryz.ntmps240 ?_
 intro hbox htok
 simp only at hbox htok
 apply AL.start
 try (simp)
 repeat (refine sR ?_; simp)
 refine Stop.of_d (hb _ _) ?_
 simp
 refine AL.weak (Weaks.mk (l' := [(13, .ptr (nb + 22) 0 0)]) (loc' := [(22, [[.d (ints s.p.nodes), .d (AM.edges s.p.edges), .d (ints s.g.nodes), .d (AM.edges s.g.edges), .d (isD s.t), .d (ptD nl s.pt.nodes), .d (ptD nl s.pt.edges), B s.inj, I fm, .osl 0 [] .full, .osl 0 [] .full, .osl 2 [] .full]])]) (Nat.le_refl _) rfl (by simp [ToL, lk]) (by simp [BoxL, lk])) ?_
 refine AL.trans (Trans.opn (l' := [(13, .ptr (nb + 22) 0 0)]) (loc' := [(22, [[.d (ints s.p.nodes), .d (AM.edges s.p.edges), .d (ints s.g.nodes), .d (AM.edges s.g.edges), .d (isD s.t), .d (ptD nl s.pt.nodes), .d (ptD nl s.pt.edges), B s.inj, I fm, .stk nt 1 [], .osl 0 [] .full, .osl 2 [] .full]])]) 1 (by simp [CvL]) ⟨rfl, cvRs_one (cvR_cons .same (cvR_cons .same (cvR_cons .same (cvR_cons .same (cvR_cons .same (cvR_cons .same (cvR_cons .same (cvR_cons .same (cvR_cons .same (cvR_cons .nil (cvR_cons .same (cvR_cons .same cvR_nil)))))))))))), trivial⟩) ?_
 refine AL.trans (Trans.opn (l' := [(13, .ptr (nb + 22) 0 0)]) (loc' := [(22, [[.d (ints s.p.nodes), .d (AM.edges s.p.edges), .d (ints s.g.nodes), .d (AM.edges s.g.edges), .d (isD s.t), .d (ptD nl s.pt.nodes), .d (ptD nl s.pt.edges), B s.inj, I fm, .stk nt 1 [], .stk (nt + 1) 1 [], .osl 2 [] .full]])]) 1 (by simp [CvL]) ⟨rfl, cvRs_one (cvR_cons .same (cvR_cons .same (cvR_cons .same (cvR_cons .same (cvR_cons .same (cvR_cons .same (cvR_cons .same (cvR_cons .same (cvR_cons .same (cvR_cons .same (cvR_cons .nil (cvR_cons .same cvR_nil)))))))))))), trivial⟩) ?_
 have htk0 := (TK.start htok).full.full.full.app.swap.app.swap
 try (simp)
 repeat (refine sR ?_; simp)
 refine Stop.of_a (findN_c s h nl hnl fm hfm tok nt s.p.nodes.length [] [] nt (nt + 1) .full _ _ (nb + 22) _ _ (by simp) (by simp) (by simp [lb_at]) htk0) ?_
 rintro v m' ⟨rfl, a, b, own, tok2, nt2, rfl, htk2, hle⟩
 try (simp)
 repeat (first | (refine sR ?_; simp) | (refine sC ?_; simp) | (refine sX ?_; simp only [AU, ↓reduceIte]))
 refine sN ?_
 refine AL.ret ?_
 try simp only [AU]
 have htk3 := htk2.tail.tail
 exact ⟨by simp, (Fin.gen (av := .osl 2 (mosR (s.fnP fm s.p.nodes.length [] [])) own) (tok' := tok2) (nt' := nt2) (by simp [resAs, resA]; rfl) hbox htk3.le (Nat.le_refl _) (fun t h => ⟨h, .inl rfl⟩) (fun k rows _ h => .inl h) (by simp [packA])).mono fun v m hq => ⟨own, tok2, nt2, hq.1, hq.2, htk3⟩⟩
def stVf (t : Ty) (p g : Gr) (nb : Nat) (box : Bxs) (tok : Tks) (nt : Nat) (i : Nat) : AState :=
 ⟨tl [(24, I i), (23, I 2), (22, .d (.sl 2 [[ints p.nodes, AM.edges p.edges], [ints g.nodes, AM.edges g.edges]])), (5, .ptr (nb + 5) 0 0), (4, .ptr (nb + 4) 0 0), (3, .ptr (nb + 3) 0 0)], lb nb box [(5, [[.d (ints g.nodes), .d (AM.edges g.edges)]]), (4, [[.d (ints p.nodes), .d (AM.edges p.edges)]]), (3, [[.d (nts t.nodes), .d (ets t.edges)]])], tok, nt⟩
theorem validF_c (t : Ty) (ht : t.Fit) (p g : Gr) (hp : p.Fit) (hg : g.Fit) (tok : Tks) (nt : Nat) : DCall Tryz.prog 178 [t.av, p.av, g.av] tok nt (I (givS t p g)) tok nt := by
 intro box nb
 have hv := valid_c4 t ht ht.hM
 have h1 := graphValid_c p hp
 have h2 := graphValid_c g hg
 have h3 := withinF_c t ht p hp
 have h4 := withinF_c t ht g hg
 obtain ⟨R, hR⟩ : ∃ R, givS t p g = R := ⟨_, rfl⟩
 rw [hR]
 unfold givS at hR
 generalize tyE t = E at *
 generalize validG p = V at *
 generalize validG g = W at *
 refine sB Tryz.func178 Tryz.ntmps178 ?_
 intro hbox htok
 simp only at hbox htok
 apply AL.start
 try (simp)
 repeat (refine sR ?_; simp)
 refine Stop.of_d (hv _ _) ?_
 simp
 by_cases e0 : E = 0
 ·rw [if_neg (by simp [e0])] at hR
  try (simp [e0])
  repeat (first | (refine sR ?_; simp [e0]) | (refine sC ?_; simp [e0]) | (refine sX ?_; simp only [AU, ↓reduceIte]))
  refine ⟨rfl, ?_⟩
  try (simp)
  repeat (first | (refine sR ?_; simp) | (refine sC ?_; simp) | (refine sX ?_; simp only [AU, ↓reduceIte]))
  refine sN ?_
  refine AL.loopT (stVf t p g nb box tok nt) (fun i => i ≤ 2 ∧ (1 ≤ i → V = 0) ∧ (2 ≤ i → W = 0)) (fun i => 2 - i) 0 ⟨by omega, by omega, by omega⟩ (Weaks.mk (Nat.le_refl _) rfl (by simp [ToL, lk]) (by simp [BoxL, lk])) ?_
  rintro i S ⟨hi, g0, g1⟩ hS
  simp only [stVf] at hS
  subst hS
  have h012 : i = 0 ∨ i = 1 ∨ i = 2 := by omega
  rcases h012 with rfl | rfl | rfl
  ·try (simp)
   repeat (first | (refine sR ?_; simp) | (refine sC ?_; simp) | (refine sX ?_; simp only [AU, ↓reduceIte]))
   refine Stop.of_d (h1 _ _) ?_
   simp
   by_cases c : V = 0
   ·try (simp [c, show IntKind.i64.wrap 1 = 1 from rfl])
    repeat (first | (refine sR ?_; simp [c, show IntKind.i64.wrap 1 = 1 from rfl]) | (refine sC ?_; simp [c, show IntKind.i64.wrap 1 = 1 from rfl]) | (refine sX ?_; simp only [AU, ↓reduceIte]))
    refine sE ?_
    exact ⟨1, ⟨by omega, fun h => by omega⟩, by decide, Weaks.mk (Nat.le_refl _) rfl (by simp [ToL, lk]) (by simp [BoxL, lk])⟩
   ·have b : (V != 0) = true := by simp [c]
    rw [if_pos c] at hR
    try (simp [b])
    repeat (first | (refine sR ?_; simp [b]) | (refine sC ?_; simp [b]) | (refine sX ?_; simp only [AU, ↓reduceIte]))
    refine sT ?_
    try simp only [AU]
    refine ⟨by simp, sF hbox htok (fun _ h => h) (Nat.le_refl _) ?_⟩
    simp [packA, hR]
  ·try (simp)
   repeat (first | (refine sR ?_; simp) | (refine sC ?_; simp) | (refine sX ?_; simp only [AU, ↓reduceIte]))
   refine Stop.of_d (h2 _ _) ?_
   simp
   by_cases c : W = 0
   ·try (simp [c, show IntKind.i64.wrap 2 = 2 from rfl])
    repeat (first | (refine sR ?_; simp [c, show IntKind.i64.wrap 2 = 2 from rfl]) | (refine sC ?_; simp [c, show IntKind.i64.wrap 2 = 2 from rfl]) | (refine sX ?_; simp only [AU, ↓reduceIte]))
    refine sE ?_
    exact ⟨2, ⟨by omega, fun _ => g0 (by omega)⟩, by decide, Weaks.mk (Nat.le_refl _) rfl (by simp [ToL, lk]) (by simp [BoxL, lk])⟩
   ·have b : (W != 0) = true := by simp [c]
    have g0 := g0 (by omega)
    rw [if_neg (by simp [g0]), if_pos c] at hR
    try (simp [b])
    repeat (first | (refine sR ?_; simp [b]) | (refine sC ?_; simp [b]) | (refine sX ?_; simp only [AU, ↓reduceIte]))
    refine sT ?_
    try simp only [AU]
    refine ⟨by simp, sF hbox htok (fun _ h => h) (Nat.le_refl _) ?_⟩
    simp [packA, hR]
  ·have g0 := g0 (by omega)
   have g1 := g1 (by omega)
   rw [if_neg (by simp [g0]), if_neg (by simp [g1])] at hR
   have h3 := h3 g0
   have h4 := h4 g1
   try (simp)
   repeat (first | (refine sR ?_; simp) | (refine sC ?_; simp) | (refine sX ?_; simp only [AU, ↓reduceIte]))
   refine Stop.of_d (h3 _ _) ?_
   simp
   cases e3 : typG t p
   ·rw [e3, if_pos rfl] at hR
    try (simp)
    repeat (first | (refine sR ?_; simp) | (refine sC ?_; simp) | (refine sX ?_; simp only [AU, ↓reduceIte]))
    refine sT ?_
    try simp only [AU]
    refine ⟨by simp, sF hbox htok (fun _ h => h) (Nat.le_refl _) ?_⟩
    simp [packA, hR]
   ·rw [e3, if_neg (by simp)] at hR
    try (simp)
    repeat (first | (refine sR ?_; simp) | (refine sC ?_; simp) | (refine sX ?_; simp only [AU, ↓reduceIte]))
    refine Stop.of_d (h4 _ _) ?_
    simp
    cases e4 : typG t g
    ·rw [e4, if_pos rfl] at hR
     try (simp)
     repeat (first | (refine sR ?_; simp) | (refine sC ?_; simp) | (refine sX ?_; simp only [AU, ↓reduceIte]))
     refine sT ?_
     try simp only [AU]
     refine ⟨by simp, sF hbox htok (fun _ h => h) (Nat.le_refl _) ?_⟩
     simp [packA, hR]
    ·rw [e4, if_neg (by simp)] at hR
     try (simp)
     repeat (first | (refine sR ?_; simp) | (refine sC ?_; simp) | (refine sX ?_; simp only [AU, ↓reduceIte]))
     refine sT ?_
     try simp only [AU]
     refine ⟨by simp, sF hbox htok (fun _ h => h) (Nat.le_refl _) ?_⟩
     simp [packA, hR]
 ·rw [if_pos e0] at hR
  have b : (E != 0) = true := by simp [e0]
  try (simp [b])
  repeat (first | (refine sR ?_; simp [b]) | (refine sC ?_; simp [b]) | (refine sX ?_; simp only [AU, ↓reduceIte]))
  refine sT ?_
  try simp only [AU]
  refine ⟨by simp, sF hbox htok (fun _ h => h) (Nat.le_refl _) ?_⟩
  simp [packA, hR]
theorem opM_nl {t : Ty} {p g : Gr} {inj : Bool} : (allSr t p g inj).Nl true := by
 constructor
 ·intro _ x hx
  exact List.eq_of_mem_replicate hx
 ·intro _ x hx
  exact List.eq_of_mem_replicate hx
def QAl (s : Sr) (box : Bxs) (nb : Nat) (tok : Tks) (nt : Nat) (L : List Mo) (v : AV) (m : AMem) : Prop :=
 m = ⟨box, nb, tok, nt⟩ ∧ (5000 < L.length ∧ v = .tup [.osl 0 [] .full, I 3] ∨ ¬ 5000 < L.length ∧ v = .tup [.d (.sl 2 (mosR L)), I 0])
set_option maxRecDepth 100000 in
theorem allF_c (s : Sr) (h : s.Ok) (h0 : tyE s.t = 0) (nl : Bool) (hnl : s.Nl nl) (hm : s.most = 5000) (tok : Tks) (nt : Nat) :
  ∀ box nb, ACalls Tryz.prog 179 [s.t.av, s.p.av, s.g.av, .agg [.d (ptD nl s.pt.nodes), .d (ptD nl s.pt.edges)], B s.inj] ⟨box, nb, tok, nt⟩ (QAl s box nb tok nt (s.fnR s.p.nodes.length [] [])) := by
 intro box nb
 have hf := s.fnP_fnR h
 rw [hm] at hf
 have hfo := foundF_c s h h0 nl hnl 5001 (by omega)
 have hln : (s.fnP 5001 s.p.nodes.length [] []).length ≤ 5001 := Sr.fnP_len h (by simp)
 rw [← hf]
 refine sB Tryz.func179 Tryz.ntmps179 ?_
 intro hbox htok
 simp only at hbox htok
 apply AL.start
 try (simp)
 repeat (refine sR ?_; simp)
 refine Stop.of_a (hfo _ _ _ _) ?_
 rintro v m' ⟨own, tok2, nt2, rfl, rfl, htk⟩
 generalize s.fnP 5001 s.p.nodes.length [] [] = L at *
 by_cases hbig : 5000 < L.length
 ·have b : decide ((5000 : Int) < (L.length : Int)) = true := by simp; omega
  try (simp [b])
  repeat (first | (refine sR ?_; simp [b]) | (refine sC ?_; simp [b]) | (refine sX ?_; simp only [AU, ↓reduceIte]))
  refine sN ?_
  refine AL.ret ?_
  try simp only [AU]
  exact ⟨by simp, (Fin.data (av := .tup [.osl 0 [] .full, I 3]) (by simp [resAs, resA]; rfl) hbox rfl htok htk.old htk.le (by simp [packA])).mono fun v m hq => ⟨hq.2, .inl ⟨hbig, hq.1⟩⟩⟩
 ·have b : decide ((5000 : Int) < (L.length : Int)) = false := by simp; omega
  try (simp [b])
  repeat (first | (refine sR ?_; simp [b]) | (refine sC ?_; simp [b]) | (refine sX ?_; simp only [AU, ↓reduceIte]))
  refine sN ?_
  refine AL.ret ?_
  try simp only [AU]
  exact ⟨by simp, (Fin.data (av := .tup [.d (.sl 2 (mosR L)), I 0]) (by simp [resAs, resA]; rfl) hbox rfl htok htk.old htk.le (by simp [packA])).mono fun v m hq => ⟨hq.2, .inr ⟨hbig, hq.1⟩⟩⟩
set_option maxRecDepth 100000 in
theorem allF2_c (t : Ty) (ht : t.Fit) (p g : Gr) (hp : p.Fit) (hg : g.Fit) (inj : Bool) (tok : Tks) (nt : Nat) : DCall Tryz.prog 109 [t.av, p.av, g.av, B inj] tok nt (.tup [.d (.sl 2 (mosR (allS t p g inj).1)), I (allS t p g inj).2]) tok nt := by
 intro box nb
 have hv := validF_c t ht p g hp hg
 have main : ACalls Tryz.prog 109 [t.av, p.av, g.av, B inj] ⟨box, nb, tok, nt⟩ fun v m => (v = .tup [.d (.sl 2 (mosR (allS t p g inj).1)), I (allS t p g inj).2] ∨ (allS t p g inj).1 = [] ∧ v = .tup [.osl 0 [] .full, I (allS t p g inj).2]) ∧ m = ⟨box, nb, tok, nt⟩ := by
  refine sB Tryz.func109 Tryz.ntmps109 ?_
  intro hbox htok
  simp only at hbox htok
  apply AL.start
  try (simp)
  repeat (refine sR ?_; simp)
  refine Stop.of_d (hv _ _) ?_
  simp
  by_cases c1 : givS t p g = 0
  ·have hok := allSr_ok (inj := inj) ht hp hg c1
   have h0 : tyE t = 0 := by
    unfold givS at c1
    split at c1
    ·rename_i e; exact absurd c1 e
    ·rename_i e; simpa using e
   have hR : allS t p g inj = if 5000 < (allL t p g inj).length then ([], 3) else (allL t p g inj, 0) := by unfold allS; rw [if_neg (by simp [c1])]
   have hall := allF_c (allSr t p g inj) hok h0 true opM_nl rfl
   have hL : (allSr t p g inj).fnR (allSr t p g inj).p.nodes.length [] [] = allL t p g inj := rfl
   rw [hL] at hall
   try (simp [c1])
   repeat (first | (refine sR ?_; simp [c1]) | (refine sC ?_; simp [c1]) | (refine sX ?_; simp only [AU, ↓reduceIte]))
   refine Stop.sub (args' := [t.av, p.av, g.av, .agg [.d (.raw nilV), .d (.raw nilV)], B inj]) ⟨Sub.refl _, Sub.refl _, Sub.refl _, Sub.agg ⟨Sub.nilv, Sub.nilv, trivial⟩, Sub.refl _, trivial⟩ ?_
   refine Stop.of_a (hall _ _ _ _) ?_
   generalize allL t p g inj = L at *
   rintro v m' ⟨rfl, ⟨hb, rfl⟩ | ⟨hb, rfl⟩⟩
   ·rw [if_pos hb] at hR
    try (simp)
    repeat (first | (refine sR ?_; simp) | (refine sC ?_; simp) | (refine sX ?_; simp only [AU, ↓reduceIte]))
    refine sN ?_
    refine AL.ret ?_
    try simp only [AU]
    exact ⟨by simp, (Fin.data (av := .tup [.osl 0 [] .full, I 3]) (by simp [resAs, resA]; rfl) hbox rfl htok (fun _ h => h) (Nat.le_refl _) (by simp [packA])).mono fun v m hq => ⟨.inr ⟨by rw [hR], by rw [hR, hq.1]⟩, hq.2⟩⟩
   ·rw [if_neg hb] at hR
    try (simp)
    repeat (first | (refine sR ?_; simp) | (refine sC ?_; simp) | (refine sX ?_; simp only [AU, ↓reduceIte]))
    refine sN ?_
    refine AL.ret ?_
    try simp only [AU]
    exact ⟨by simp, (Fin.data (av := .tup [.d (.sl 2 (mosR L)), I 0]) (by simp [resAs, resA]; rfl) hbox rfl htok (fun _ h => h) (Nat.le_refl _) (by simp [packA])).mono fun v m hq => ⟨.inl (by rw [hR, hq.1]), hq.2⟩⟩
  ·have hR : allS t p g inj = ([], givS t p g) := by unfold allS; rw [if_pos c1]
   try (simp [c1])
   repeat (first | (refine sR ?_; simp [c1]) | (refine sC ?_; simp [c1]) | (refine sX ?_; simp only [AU, ↓reduceIte]))
   refine sN ?_
   refine AL.ret ?_
   try simp only [AU]
   exact ⟨by simp, (Fin.data (av := .tup [.osl 0 [] .full, I (givS t p g)]) (by simp [resAs, resA]; rfl) hbox rfl htok (fun _ h => h) (Nat.le_refl _) (by simp [packA])).mono fun v m hq => ⟨.inr ⟨by rw [hR], by rw [hR, hq.1]⟩, hq.2⟩⟩
 refine main.conv fun v m h => ?_
 obtain ⟨rfl | ⟨h1, rfl⟩, rfl⟩ := h
 ·exact ⟨_, _, Conv.refl _ _, rfl, rfl⟩
 ·refine ⟨_, _, Conv.sub (v' := .tup [.d (.sl 2 (mosR (allS t p g inj).1)), I (allS t p g inj).2]) (Sub.tup ⟨?_, Sub.refl _, trivial⟩), rfl, rfl⟩
  rw [h1]
  exact Sub.nil _ _ _
end Go.AM
namespace Go.AM
open Go Go.Proofs
end Go.AM
namespace Go.AM
open Go Go.Proofs
theorem noMoSub : Sub (.agg [nilS, nilS]) (Mo.mk [] []).av := Sub.agg ⟨Sub.nil _ _ _, Sub.nil _ _ _, trivial⟩
end Go.AM
namespace Go.AM
open Go Go.Proofs
end Go.AM
namespace Go.AM
open Go Go.Proofs
end Go.AM
namespace Go.AM
open Go Go.Proofs
def vioB (c : Co) (xt : Mo → Bool) (m : Mo) : Bool := if c.kind = 1 then true else !xt m
def vioK (c : Co) (xt : Mo → Bool) (l : List Mo) (i : Nat) : List Mo := (l.take i).filter (vioB c xt)
def vioS (t : Ty) (c : Co) (g : Gr) (xt : Mo → Bool) : List Mo × Int :=
 if cnE t c ≠ 0 then ([], cnE t c) else if (allS t c.g g true).2 ≠ 0 then ([], (allS t c.g g true).2) else ((allS t c.g g true).1.filter (vioB c xt), 0)
theorem vioK_succ {c : Co} {xt : Mo → Bool} {l : List Mo} {i : Nat} (h : i < l.length) : vioK c xt l (i + 1) = vioK c xt l i ++ if vioB c xt l[i] = true then [l[i]] else [] := by
 unfold vioK
 rw [List.take_succ_eq_append_getElem h, List.filter_append]
 congr 1
 by_cases e : vioB c xt l[i] = true <;> simp [e]
theorem vioK_len (c : Co) (xt : Mo → Bool) (l : List Mo) (i : Nat) : (vioK c xt l i).length ≤ i := Nat.le_trans (List.length_filter_le _ _) (by simp; omega)
theorem allS_len (t : Ty) (p g : Gr) (inj : Bool) : (allS t p g inj).1.length ≤ 5000 := by
 unfold allS
 split
 ·simp
 ·split
  ·simp
  ·simp only; omega
end Go.AM
namespace Go.AM
open Go Go.Proofs
def stVk (t : Ty) (c : Co) (g : Gr) (L : List Mo) (xt : Mo → Bool) (nb : Nat) (box : Bxs) (x : Acc) : AState :=
 ⟨tl [(33, I x.i), (32, I L.length), (31, .d (.sl 2 (mosR L))), (11, .osl 2 (mosR (vioK c xt L x.i)) x.own), (5, .ptr (nb + 5) 0 0), (4, .ptr (nb + 4) 0 0), (3, .ptr (nb + 3) 0 0)], lb nb box [(5, [[.d (ints g.nodes), .d (AM.edges g.edges)]]), (4, [c.row]), (3, [[.d (nts t.nodes), .d (ets t.edges)]])], x.tok, x.nt⟩
theorem violationsK_c (t : Ty) (ht : t.Fit) (c : Co) (hc : c.Fit) (g : Gr) (hg : g.Fit) (xt : Mo → Bool)
  (hx : c.kind ≠ 1 → ∀ m ∈ (allS t c.g g true).1, ∀ tok nt, DCall Tryz.prog 110 [t.av, c.av, g.av, m.av] tok nt (B (xt m)) tok nt) (tok : Tks) (nt : Nat) :
  DCall Tryz.prog 47 [t.av, c.av, g.av] tok nt (.tup [.d (.sl 2 (mosR (vioS t c g xt).1)), I (vioS t c g xt).2]) tok nt := by
 intro box nb
 have hv := validK_c t ht c hc
 have hA := allF2_c t ht c.g g hc.g hg true
 have main : ACalls Tryz.prog 47 [t.av, c.av, g.av] ⟨box, nb, tok, nt⟩ fun v m => (v = .tup [.d (.sl 2 (mosR (vioS t c g xt).1)), I (vioS t c g xt).2] ∨ (vioS t c g xt).1 = [] ∧ v = .tup [.osl 0 [] .full, I (vioS t c g xt).2]) ∧ m = ⟨box, nb, tok, nt⟩ := by
  refine sB Tryz.func47 Tryz.ntmps47 ?_
  intro hbox htok
  simp only at hbox htok
  apply AL.start
  try (simp)
  repeat (refine sR ?_; simp)
  refine Stop.of_d (hv _ _) ?_
  simp
  by_cases c1 : cnE t c = 0
  ·try (simp [c1])
   repeat (first | (refine sR ?_; simp [c1]) | (refine sC ?_; simp [c1]) | (refine sX ?_; simp only [AU, ↓reduceIte]))
   refine Stop.of_d (hA _ _) ?_
   simp
   by_cases c2 : (allS t c.g g true).2 = 0
   ·try (simp [c2])
    repeat (first | (refine sR ?_; simp [c2]) | (refine sC ?_; simp [c2]) | (refine sX ?_; simp only [AU, ↓reduceIte]))
    refine sN ?_
    have hR : vioS t c g xt = ((allS t c.g g true).1.filter (vioB c xt), 0) := by unfold vioS; rw [if_neg (by simp [c1]), if_neg (by simp [c2])]
    have hL := allS_len t c.g g true
    generalize (allS t c.g g true).1 = L at *
    refine AL.loopT (stVk t c g L xt nb box) (fun x => x.i ≤ L.length ∧ TK tok nt x.tok x.nt [x.own]) (fun x => L.length - x.i) ⟨0, .full, tok, nt⟩ ⟨Nat.zero_le _, (TK.start htok).full⟩ (Weaks.mk (Nat.le_refl _) rfl (by simp [ToL, lk, vioK]) (by simp [BoxL, lk])) ?_
    rintro ⟨i, own, tok', nt'⟩ S ⟨hi, htk⟩ hS
    simp only [stVk] at hS hi htk
    subst hS
    have hw := sW (i := i) (by omega)
    have hln := vioK_len c xt L i
    by_cases hlt : i < L.length
    ·have hs := vioK_succ (c := c) (xt := xt) hlt
     by_cases k1 : c.kind = 1
     ·have b : (c.kind == 1) = true := by simp [k1]
      rw [if_pos (by simp [vioB, k1])] at hs
      try (simp [hlt, b])
      repeat (first | (refine sR ?_; simp [hlt, b]) | (refine sC ?_; simp [hlt, b]) | (refine sX ?_; simp only [AU, ↓reduceIte]))
      refine ⟨⟨by omega, htk.live⟩, ?_⟩
      try (simp [hw])
      repeat (first | (refine sR ?_; simp [hw]) | (refine sC ?_; simp [hw]) | (refine sX ?_; simp only [AU, ↓reduceIte]))
      refine sE ?_
      exact ⟨⟨i + 1, _, _, _⟩, ⟨hlt, htk.app⟩, by simp only; omega, Weaks.mk htk.app.le rfl (by simp [ToL, lk, hs]) (by simp [BoxL, lk])⟩
     ·have hxi := hx k1 _ (List.getElem_mem hlt)
      have b : (c.kind == 1) = false := by simp [k1]
      try (simp [hlt, b])
      repeat (first | (refine sR ?_; simp [hlt, b]) | (refine sC ?_; simp [hlt, b]) | (refine sX ?_; simp only [AU, ↓reduceIte]))
      refine Stop.of_d (hxi _ _) ?_
      cases e : xt L[i]
      ·rw [if_pos (by simp [vioB, k1, e])] at hs
       try (simp [hlt, b])
       repeat (first | (refine sR ?_; simp [hlt, b]) | (refine sC ?_; simp [hlt, b]) | (refine sX ?_; simp only [AU, ↓reduceIte]))
       refine ⟨⟨by omega, htk.live⟩, ?_⟩
       try (simp [hw])
       repeat (first | (refine sR ?_; simp [hw]) | (refine sC ?_; simp [hw]) | (refine sX ?_; simp only [AU, ↓reduceIte]))
       refine sE ?_
       exact ⟨⟨i + 1, _, _, _⟩, ⟨hlt, htk.app⟩, by simp only; omega, Weaks.mk htk.app.le rfl (by simp [ToL, lk, hs]) (by simp [BoxL, lk])⟩
      ·rw [if_neg (by simp [vioB, k1, e]), List.append_nil] at hs
       try (simp [hlt, b, hw])
       repeat (first | (refine sR ?_; simp [hlt, b, hw]) | (refine sC ?_; simp [hlt, b, hw]) | (refine sX ?_; simp only [AU, ↓reduceIte]))
       refine sE ?_
       exact ⟨⟨i + 1, _, _, _⟩, ⟨hlt, htk⟩, by simp only; omega, Weaks.mk htk.le rfl (by simp [ToL, lk, hs]) (by simp [BoxL, lk])⟩
    ·have : i = L.length := by omega
     subst this
     have hf : vioK c xt L L.length = L.filter (vioB c xt) := by simp [vioK]
     rw [hf]
     try (simp)
     repeat (first | (refine sR ?_; simp) | (refine sC ?_; simp) | (refine sX ?_; simp only [AU, ↓reduceIte]))
     refine sN ?_
     refine AL.ret ?_
     try simp only [AU]
     refine ⟨by simp, (Fin.data (av := .tup [.d (.sl 2 (mosR (L.filter (vioB c xt)))), I 0]) (by simp [resAs, resA]; rfl) hbox rfl htok htk.old htk.le (by simp [packA])).mono fun v m hq => ⟨.inl (by rw [hR, hq.1]), hq.2⟩⟩
   ·have hR : vioS t c g xt = ([], (allS t c.g g true).2) := by unfold vioS; rw [if_neg (by simp [c1]), if_pos c2]
    try (simp [c2])
    repeat (first | (refine sR ?_; simp [c2]) | (refine sC ?_; simp [c2]) | (refine sX ?_; simp only [AU, ↓reduceIte]))
    refine sN ?_
    refine AL.ret ?_
    try simp only [AU]
    refine ⟨by simp, (Fin.data (av := .tup [.osl 0 [] .full, I (allS t c.g g true).2]) (by simp [resAs, resA]; rfl) hbox rfl htok (fun _ h => h) (Nat.le_refl _) (by simp [packA])).mono fun v m hq => ⟨.inr ⟨by rw [hR], by rw [hR, hq.1]⟩, hq.2⟩⟩
  ·have hR : vioS t c g xt = ([], cnE t c) := by unfold vioS; rw [if_pos c1]
   try (simp [c1])
   repeat (first | (refine sR ?_; simp [c1]) | (refine sC ?_; simp [c1]) | (refine sX ?_; simp only [AU, ↓reduceIte]))
   refine sN ?_
   refine AL.ret ?_
   try simp only [AU]
   refine ⟨by simp, (Fin.data (av := .tup [.osl 0 [] .full, I (cnE t c)]) (by simp [resAs, resA]; rfl) hbox rfl htok (fun _ h => h) (Nat.le_refl _) (by simp [packA])).mono fun v m hq => ⟨.inr ⟨by rw [hR], by rw [hR, hq.1]⟩, hq.2⟩⟩
 refine main.conv fun v m h => ?_
 obtain ⟨rfl | ⟨h1, rfl⟩, rfl⟩ := h
 ·exact ⟨_, _, Conv.refl _ _, rfl, rfl⟩
 ·refine ⟨_, _, Conv.sub (v' := .tup [.d (.sl 2 (mosR (vioS t c g xt).1)), I (vioS t c g xt).2]) (Sub.tup ⟨?_, Sub.refl _, trivial⟩), rfl, rfl⟩
  rw [h1]
  exact Sub.nil _ _ _
end Go.AM
namespace Go.AM
open Go Go.Proofs
structure Sd where
 k : Int
 o : Bool
 near : Int
 far : Int
 low : Int
 high : Int
abbrev Sd.cells (s : Sd) : List D := [.raw (.int .i64 s.k), .raw (.bool s.o), .raw (.int .i64 s.near), .raw (.int .i64 s.far), .raw (.int .i64 s.low), .raw (.int .i64 s.high)]
abbrev Sd.av (s : Sd) : AV := .agg [I s.k, B s.o, I s.near, I s.far, I s.low, I s.high]
abbrev rSd (l : List Sd) : List (List D) := l.map Sd.cells
abbrev sds (l : List Sd) : D := .sl 6 (rSd l)
def sdTwo (e : ET) (k : Nat) : List Sd := [⟨k, true, e.fr, e.to, e.ol, e.oh⟩, ⟨k, false, e.to, e.fr, e.il, e.ih⟩]
def sdL (l : List ET) (n : Nat) : List Sd := (List.range n).flatMap fun k => match l[k]? with | some e => sdTwo e k | none => []
theorem sdL_succ {l : List ET} {n : Nat} (h : n < l.length) : sdL l (n + 1) = sdL l n ++ sdTwo l[n] n := by
 unfold sdL
 rw [List.range_succ, List.flatMap_append]
 simp [h]
theorem sdL_len {l : List ET} : ∀ {n : Nat}, n ≤ l.length → (sdL l n).length = 2 * n
 | 0, _ => rfl
 | n + 1, h => by rw [sdL_succ h, List.length_append, sdL_len (by omega)]; simp [sdTwo]; omega
def sdsR (t : Ty) : List Sd := sdL t.edges t.edges.length
def Sd.link (s : Sd) (x : Int) : E := if s.o = true then ⟨s.k, 0, x⟩ else ⟨s.k, x, 0⟩
def tIs (t : Ty) (a b : Int) : Bool := if givE t [a, b] = 0 then isB t a b else false
def endB (t : Ty) (s : Sd) (n : Nat) : Bool := if leafB t n = true then tIs t n s.far else false
def endsN (t : Ty) (s : Sd) (node : Int) (i : Nat) : List Int := (if tIs t node s.far = true then [-1] else []) ++ ((List.range i).filter (endB t s)).map fun (n : Nat) => (n : Int)
def endsR (t : Ty) (s : Sd) (node : Int) : List Int := endsN t s node t.nodes.length
theorem endsN_succ (t : Ty) (s : Sd) (node : Int) (i : Nat) : endsN t s node (i + 1) = endsN t s node i ++ (if endB t s i = true then [(i : Int)] else []) := by
 unfold endsN
 rw [List.range_succ, List.filter_append, List.map_append, List.append_assoc]
 congr 2
 by_cases h : endB t s i = true <;> simp [h]
theorem endsN_len (t : Ty) (s : Sd) (node : Int) (i : Nat) : (endsN t s node i).length ≤ i + 1 := by
 unfold endsN
 rw [List.length_append, List.length_map]
 have h1 := List.length_filter_le (endB t s) (List.range i)
 rw [List.length_range] at h1
 split
 ·simp; omega
 ·simp; omega
def stSd (t : Ty) (nb : Nat) (box : Bxs) (x : Acc) : AState :=
 ⟨tl [(9, I x.i), (8, I t.edges.length), (7, .d (ets t.edges)), (3, .osl 6 (rSd (sdL t.edges x.i)) x.own), (1, .ptr (nb + 1) 0 0)], lb nb box [(1, [[.d (nts t.nodes), .d (ets t.edges)]])], x.tok, x.nt⟩
theorem sidesP_c (t : Ty) (ht : t.Fit) (tok : Tks) (nt : Nat) : DCall Tryz.prog 100 [t.av] tok nt (.d (sds (sdsR t))) tok nt := by
 intro box nb
 have hte := ht.e
 refine sB Tryz.func100 Tryz.ntmps100 ?_
 intro hbox htok
 simp only at hbox htok
 apply AL.start
 try (simp)
 repeat (refine sR ?_; simp)
 refine sN ?_
 refine AL.loopT (stSd t nb box) (fun x => x.i ≤ t.edges.length ∧ TK tok nt x.tok x.nt [x.own]) (fun x => t.edges.length - x.i) ⟨0, .full, tok, nt⟩ ⟨Nat.zero_le _, (TK.start htok).full⟩ (Weaks.mk (Nat.le_refl _) rfl (by simp [ToL, lk, sdL]) (by simp [BoxL, lk])) ?_
 rintro ⟨i, own, tok', nt'⟩ S ⟨hi, htk⟩ hS
 simp only [stSd] at hS hi htk
 subst hS
 have hw := sW (i := i) (by omega)
 have hln := sdL_len (l := t.edges) hi
 by_cases hlt : i < t.edges.length
 ·have hs := sdL_succ hlt
  try (simp [hlt])
  repeat (first | (refine sR ?_; simp [hlt]) | (refine sC ?_; simp [hlt]) | (refine sX ?_; simp only [AU, ↓reduceIte]))
  refine ⟨rfl, ⟨by omega, htk.live⟩, ?_⟩
  try (simp [hw])
  repeat (first | (refine sR ?_; simp [hw]) | (refine sC ?_; simp [hw]) | (refine sX ?_; simp only [AU, ↓reduceIte]))
  refine sE ?_
  exact ⟨⟨i + 1, _, _, _⟩, ⟨hlt, htk.app⟩, by simp only; omega, Weaks.mk htk.app.le rfl (by simp [ToL, lk, hs, sdTwo]) (by simp [BoxL, lk])⟩
 ·have : i = t.edges.length := by omega
  subst this
  try (simp)
  repeat (first | (refine sR ?_; simp) | (refine sC ?_; simp) | (refine sX ?_; simp only [AU, ↓reduceIte]))
  refine sN ?_
  refine AL.ret ?_
  try simp only [AU]
  exact ⟨by simp, Fin.data (av := .d (sds (sdsR t))) (by simp [resAs, resA]; rfl) hbox rfl htok htk.old htk.le (by simp [packA, sdsR])⟩
theorem linkP_c (s : Sd) (x : Int) (tok : Tks) (nt : Nat) : DCall Tryz.prog 173 [s.av, I x] tok nt (.agg [I (s.link x).ty, I (s.link x).fr, I (s.link x).to]) tok nt := by
 intro box nb
 cases hs : s.o
 ·have hl : s.link x = ⟨s.k, x, 0⟩ := by simp [Sd.link, hs]
  refine sB Tryz.func173 Tryz.ntmps173 ?_
  intro hbox htok
  simp only at hbox htok
  apply AL.start
  try (simp [hs])
  repeat (first | (refine sR ?_; simp [hs]) | (refine sC ?_; simp [hs]) | (refine sX ?_; simp only [AU, ↓reduceIte]))
  refine sT ?_
  try simp only [AU]
  refine ⟨by simp, sF hbox htok (fun _ h => h) (Nat.le_refl _) ?_⟩
  simp [packA, hl]
 ·have hl : s.link x = ⟨s.k, 0, x⟩ := by simp [Sd.link, hs]
  refine sB Tryz.func173 Tryz.ntmps173 ?_
  intro hbox htok
  simp only at hbox htok
  apply AL.start
  try (simp [hs])
  repeat (first | (refine sR ?_; simp [hs]) | (refine sC ?_; simp [hs]) | (refine sX ?_; simp only [AU, ↓reduceIte]))
  refine sT ?_
  try simp only [AU]
  refine ⟨by simp, sF hbox htok (fun _ h => h) (Nat.le_refl _) ?_⟩
  simp [packA, hl]
theorem givE_isB {t : Ty} {a b : Int} (h : givE t [a, b] = 0) : tyE t = 0 ∧ 0 ≤ a ∧ a < t.nodes.length ∧ 0 ≤ b ∧ b < t.nodes.length := by
 have h1 := givE_in h
 have h2 := h1.2 a (by simp)
 have h3 := h1.2 b (by simp)
 exact ⟨h1.1, h2.1, h2.2, h3.1, h3.2⟩
set_option maxRecDepth 100000 in
theorem isT_c (t : Ty) (ht : t.Fit) (a b : Int) (tok : Tks) (nt : Nat) : DCall Tryz.prog 102 [t.av, I a, I b] tok nt (B (tIs t a b)) tok nt := by
 intro box nb
 have hg := given_c t ht [a, b] (by simp)
 have hi := @givE_isB t a b
 obtain ⟨N, hN⟩ : ∃ N, tIs t a b = N := ⟨_, rfl⟩
 rw [hN]
 unfold tIs at hN
 generalize givE t [a, b] = E at *
 refine sB Tryz.func102 Tryz.ntmps102 ?_
 intro hbox htok
 simp only at hbox htok
 apply AL.start
 try (simp)
 repeat (refine sR ?_; simp)
 refine ⟨rfl, ?_⟩
 refine Stop.data ?_
 refine Stop.of_d (hg _ _) ?_
 by_cases e : E = 0
 ·obtain ⟨h1, h2, h3, _⟩ := hi e
  rw [if_pos e] at hN
  have hc := is_c t ht a b h2 h3 (tyE_par h1)
  simp [e]
  refine Stop.of_d (hc _ _) ?_
  simp
  try (simp)
  repeat (refine sR ?_; simp)
  refine sT ?_
  try simp only [AU]
  refine ⟨by simp, sF hbox htok (fun _ h => h) (Nat.le_refl _) ?_⟩
  simp [packA, hN]
 ·rw [if_neg e] at hN
  have b : (E == 0) = false := by simp [e]
  simp [b]
  try (simp)
  repeat (refine sR ?_; simp)
  refine sT ?_
  try simp only [AU]
  refine ⟨by simp, sF hbox htok (fun _ h => h) (Nat.le_refl _) ?_⟩
  simp [packA, hN]
def stEn (t : Ty) (s : Sd) (node : Int) (nb : Nat) (box : Bxs) (x : Acc) : AState :=
 ⟨tl [(20, I x.i), (19, I t.nodes.length), (7, .osl 1 (rI (endsN t s node x.i)) x.own), (4, .ptr (nb + 4) 0 0), (3, .ptr (nb + 3) 0 0)], lb nb box [(4, [[.d (nts t.nodes), .d (ets t.edges)]]), (3, [[I s.k, B s.o, I s.near, I s.far, I s.low, I s.high]])], x.tok, x.nt⟩
theorem endsP_c (t : Ty) (ht : t.Fit) (s : Sd) (node : Int) (tok : Tks) (nt : Nat) : DCall Tryz.prog 103 [s.av, t.av, I node] tok nt (.d (ints (endsR t s node))) tok nt := by
 intro box nb
 have htn := ht.n
 have h1 := isT_c t ht node s.far
 refine sB Tryz.func103 Tryz.ntmps103 ?_
 intro hbox htok
 simp only at hbox htok
 apply AL.start
 try (simp)
 repeat (refine sR ?_; simp)
 refine Stop.of_d (h1 _ _) ?_
 simp
 cases e : tIs t node s.far
 ·try (simp)
  repeat (first | (refine sR ?_; simp) | (refine sC ?_; simp) | (refine sX ?_; simp only [AU, ↓reduceIte]))
  refine sN ?_
  refine AL.loopT (stEn t s node nb box) (fun x => x.i ≤ t.nodes.length ∧ TK tok nt x.tok x.nt [x.own]) (fun x => t.nodes.length - x.i) ⟨0, .full, tok, nt⟩ ⟨Nat.zero_le _, (TK.start htok).full⟩ (Weaks.mk (Nat.le_refl _) rfl (by simp [ToL, lk, endsN, e]) (by simp [BoxL, lk])) ?_
  rintro ⟨i, own, tok', nt'⟩ S ⟨hi, htk⟩ hS
  simp only [stEn] at hS hi htk
  subst hS
  have hw := sW (i := i) (by omega)
  have hln := endsN_len t s node i
  have hs := endsN_succ t s node i
  by_cases hlt : i < t.nodes.length
  ·have hl := leafK_c t (by omega) i
   have hc := isT_c t ht i s.far
   unfold endB at hs
   try (simp [hlt])
   repeat (first | (refine sR ?_; simp [hlt]) | (refine sC ?_; simp [hlt]) | (refine sX ?_; simp only [AU, ↓reduceIte]))
   refine Stop.of_d (hl _ _) ?_
   simp
   cases e1 : leafB t i
   ·simp only [e1, Bool.false_eq_true, if_false, List.append_nil] at hs
    try (simp [hw])
    repeat (first | (refine sR ?_; simp [hw]) | (refine sC ?_; simp [hw]) | (refine sX ?_; simp only [AU, ↓reduceIte]))
    refine sE ?_
    exact ⟨⟨i + 1, _, _, _⟩, ⟨hlt, htk⟩, by simp only; omega, Weaks.mk htk.le rfl (by simp [ToL, lk, hs]) (by simp [BoxL, lk])⟩
   ·simp only [e1, if_true] at hs
    simp
    refine Stop.of_d (hc _ _) ?_
    simp
    cases e2 : tIs t i s.far
    ·simp only [e2, Bool.false_eq_true, if_false, List.append_nil] at hs
     try (simp [hw])
     repeat (first | (refine sR ?_; simp [hw]) | (refine sC ?_; simp [hw]) | (refine sX ?_; simp only [AU, ↓reduceIte]))
     refine sE ?_
     exact ⟨⟨i + 1, _, _, _⟩, ⟨hlt, htk⟩, by simp only; omega, Weaks.mk htk.le rfl (by simp [ToL, lk, hs]) (by simp [BoxL, lk])⟩
    ·simp only [e2, if_true] at hs
     try (simp)
     repeat (first | (refine sR ?_; simp) | (refine sC ?_; simp) | (refine sX ?_; simp only [AU, ↓reduceIte]))
     refine ⟨⟨by omega, htk.live⟩, ?_⟩
     try (simp [hw])
     repeat (first | (refine sR ?_; simp [hw]) | (refine sC ?_; simp [hw]) | (refine sX ?_; simp only [AU, ↓reduceIte]))
     refine sE ?_
     exact ⟨⟨i + 1, _, _, _⟩, ⟨hlt, htk.app⟩, by simp only; omega, Weaks.mk htk.app.le rfl (by simp [ToL, lk, hs]) (by simp [BoxL, lk])⟩
  ·have : i = t.nodes.length := by omega
   subst this
   try (simp)
   repeat (first | (refine sR ?_; simp) | (refine sC ?_; simp) | (refine sX ?_; simp only [AU, ↓reduceIte]))
   refine sN ?_
   refine AL.ret ?_
   try simp only [AU]
   exact ⟨by simp, Fin.data (av := .d (ints (endsR t s node))) (by simp [resAs, resA]; rfl) hbox rfl htok htk.old htk.le (by simp [packA, endsR])⟩
 ·try (simp)
  repeat (first | (refine sR ?_; simp) | (refine sC ?_; simp) | (refine sX ?_; simp only [AU, ↓reduceIte]))
  refine sN ?_
  refine AL.loopT (stEn t s node nb box) (fun x => x.i ≤ t.nodes.length ∧ TK tok nt x.tok x.nt [x.own]) (fun x => t.nodes.length - x.i) ⟨0, .tok nt, upd tok nt true, nt + 1⟩ ⟨Nat.zero_le _, (TK.start htok).full.app⟩ (Weaks.mk (by simp) rfl (by simp [ToL, lk, endsN, e]) (by simp [BoxL, lk])) ?_
  rintro ⟨i, own, tok', nt'⟩ S ⟨hi, htk⟩ hS
  simp only [stEn] at hS hi htk
  subst hS
  have hw := sW (i := i) (by omega)
  have hln := endsN_len t s node i
  have hs := endsN_succ t s node i
  by_cases hlt : i < t.nodes.length
  ·have hl := leafK_c t (by omega) i
   have hc := isT_c t ht i s.far
   unfold endB at hs
   try (simp [hlt])
   repeat (first | (refine sR ?_; simp [hlt]) | (refine sC ?_; simp [hlt]) | (refine sX ?_; simp only [AU, ↓reduceIte]))
   refine Stop.of_d (hl _ _) ?_
   simp
   cases e1 : leafB t i
   ·simp only [e1, Bool.false_eq_true, if_false, List.append_nil] at hs
    try (simp [hw])
    repeat (first | (refine sR ?_; simp [hw]) | (refine sC ?_; simp [hw]) | (refine sX ?_; simp only [AU, ↓reduceIte]))
    refine sE ?_
    exact ⟨⟨i + 1, _, _, _⟩, ⟨hlt, htk⟩, by simp only; omega, Weaks.mk htk.le rfl (by simp [ToL, lk, hs]) (by simp [BoxL, lk])⟩
   ·simp only [e1, if_true] at hs
    simp
    refine Stop.of_d (hc _ _) ?_
    simp
    cases e2 : tIs t i s.far
    ·simp only [e2, Bool.false_eq_true, if_false, List.append_nil] at hs
     try (simp [hw])
     repeat (first | (refine sR ?_; simp [hw]) | (refine sC ?_; simp [hw]) | (refine sX ?_; simp only [AU, ↓reduceIte]))
     refine sE ?_
     exact ⟨⟨i + 1, _, _, _⟩, ⟨hlt, htk⟩, by simp only; omega, Weaks.mk htk.le rfl (by simp [ToL, lk, hs]) (by simp [BoxL, lk])⟩
    ·simp only [e2, if_true] at hs
     try (simp)
     repeat (first | (refine sR ?_; simp) | (refine sC ?_; simp) | (refine sX ?_; simp only [AU, ↓reduceIte]))
     refine ⟨⟨by omega, htk.live⟩, ?_⟩
     try (simp [hw])
     repeat (first | (refine sR ?_; simp [hw]) | (refine sC ?_; simp [hw]) | (refine sX ?_; simp only [AU, ↓reduceIte]))
     refine sE ?_
     exact ⟨⟨i + 1, _, _, _⟩, ⟨hlt, htk.app⟩, by simp only; omega, Weaks.mk htk.app.le rfl (by simp [ToL, lk, hs]) (by simp [BoxL, lk])⟩
  ·have : i = t.nodes.length := by omega
   subst this
   try (simp)
   repeat (first | (refine sR ?_; simp) | (refine sC ?_; simp) | (refine sX ?_; simp only [AU, ↓reduceIte]))
   refine sN ?_
   refine AL.ret ?_
   try simp only [AU]
   exact ⟨by simp, Fin.data (av := .d (ints (endsR t s node))) (by simp [resAs, resA]; rfl) hbox rfl htok htk.old htk.le (by simp [packA, endsR])⟩
end Go.AM
namespace Go.AM
open Go Go.Proofs
end Go.AM
namespace Go.AM
open Go Go.Proofs
end Go.AM
namespace Go.AM
open Go Go.Proofs
end Go.AM
namespace Go.AM
open Go Go.Proofs
structure DelS where
 j : Nat
 i : Nat
 ys : List Ov
structure DelOk (xs : List Ov) (p : Ov → Bool) (x : DelS) : Prop where
 ij : x.i < x.j
 jn : x.j ≤ xs.length
 len : x.ys.length = xs.length
 tk : x.ys.take x.i = (xs.take x.j).filter fun o => !p o
 dr : x.ys.drop x.j = xs.drop x.j
theorem DelOk.at {xs : List Ov} {p : Ov → Bool} {x : DelS} (h : DelOk xs p x) (hj : x.j < xs.length) : x.ys[x.j]'(by rw [h.len]; exact hj) = xs[x.j] := by
 have h1 : x.ys[x.j]'(by rw [h.len]; exact hj) = (x.ys.drop x.j)[0]'(by simp [h.len]; omega) := by simp
 have h2 : xs[x.j] = (xs.drop x.j)[0]'(by simp; omega) := by simp
 rw [h1, h2]
 simp only [h.dr]
theorem DelOk.skip {xs : List Ov} {p : Ov → Bool} {j i : Nat} {ys : List Ov} (h : DelOk xs p ⟨j, i, ys⟩) (hj : j < xs.length) (hp : p xs[j] = true) : DelOk xs p ⟨j + 1, i, ys⟩ := by
 obtain ⟨h1, h2, h3, h4, h5⟩ := h
 simp only at h1 h2 h3 h4 h5
 refine ⟨by simp only; omega, hj, h3, ?_, ?_⟩
 ·simp only
  rw [h4, ← List.take_append_getElem hj, List.filter_append]
  simp [hp]
 ·simp only
  rw [← List.drop_drop, ← List.drop_drop, h5]
theorem DelOk.put {xs : List Ov} {p : Ov → Bool} {j i : Nat} {ys : List Ov} (h : DelOk xs p ⟨j, i, ys⟩) (hj : j < xs.length) (hp : p xs[j] = false) : DelOk xs p ⟨j + 1, i + 1, ys.set i xs[j]⟩ := by
 obtain ⟨h1, h2, h3, h4, h5⟩ := h
 simp only at h1 h2 h3 h4 h5
 refine ⟨by simp only; omega, hj, by simp [h3], ?_, ?_⟩
 ·simp only
  have hi : i < (ys.set i xs[j]).length := by simp; omega
  rw [← List.take_append_getElem hi, ← List.take_append_getElem hj, List.filter_append, ← h4]
  simp [hp, List.take_set_of_le]
 ·simp only
  rw [List.drop_set_of_lt (by omega), ← List.drop_drop, ← List.drop_drop, h5]
theorem DelOk.start {xs : List Ov} {p : Ov → Bool} (h : xs.any p = true) : DelOk xs p ⟨xs.findIdx p + 1, xs.findIdx p, xs⟩ := by
 have hlt : xs.findIdx p < xs.length := by
  rw [List.findIdx_lt_length]
  simpa using h
 refine ⟨Nat.lt_succ_self _, hlt, rfl, ?_, rfl⟩
 simp only
 rw [← List.take_append_getElem hlt, List.filter_append]
 have h1 : p xs[xs.findIdx p] = true := List.findIdx_getElem (w := hlt)
 have h2 : (xs.take (xs.findIdx p)).filter (fun o => !p o) = xs.take (xs.findIdx p) := by
  refine List.filter_eq_self.2 fun a ha => ?_
  obtain ⟨q, hq, rfl⟩ := List.getElem_of_mem ha
  rw [List.getElem_take]
  have := List.not_of_lt_findIdx (p := p) (xs := xs) (i := q) (by simp at hq; omega)
  simpa using this
 rw [h2]
 simp [h1]
end Go.AM
namespace Go.AM
open Go Go.Proofs
end Go.AM
namespace Go.AM
open Go Go.Proofs
end Go.AM
namespace Go.AM
open Go Go.Proofs
end Go.AM
namespace Go.AM
open Go Go.Proofs
structure Ar where
 to : Gr
 m : Mo
abbrev Ar.av (x : Ar) : AV := .agg [.d (ints x.to.nodes), .d (AM.edges x.to.edges), .d (ints x.m.nodes), .d (ints x.m.edges)]
structure Ar.Big (x : Ar) : Prop where
 n : x.m.nodes.length ≤ bigN
 e : x.m.edges.length ≤ bigN
end Go.AM
namespace Go.AM
open Go Go.Proofs
def RS (n : Int) (s t : St2) : Prop := (s.2 = 0 ∧ t.2 = 0 ∧ s.1 + t.1 = 2000 ∧ 0 ≤ s.1 ∧ s.1 ≤ n) ∨ (s.2 = 3 ∧ t.2 = 3)
theorem RS.zero {n : Int} {s t : St2} (h : RS n s t) (h0 : s.2 = 0) : t.2 = 0 := by
 rcases h with h | h
 ·exact h.2.1
 ·rw [h.1] at h0; cases h0
end Go.AM
namespace Go.AM
open Go Go.Proofs
end Go.AM
namespace Go.AM
open Go Go.Proofs
end Go.AM
namespace Go.AM
open Go Go.Proofs
structure Ch where
 a : Dr
 b : List Int
 g : List Int
 c : List Int
abbrev Ch.av (x : Ch) : AV := .agg [.d (.sl 1 (x.a.nodes.map fun n => [u8 n])), .d (.sl 3 (x.a.edges.map fun e => [u8 e.1, u8 e.2.1, u8 e.2.2])), .d (bytes x.b), .d (bytes x.g), .d (bytes x.c)]
def Ch.ok (x : Ch) : Bool := decide (x.a.nodes.length ≤ 1 ∧ x.a.edges.length ≤ 1 ∧ x.c.length ≤ 12 ∧ x.b.length ≤ 10 ∧ x.g.length ≤ 10)
def Ch.A (x : Ch) : Gr := madeG x.a
def Ch.B (x : Ch) : Gr := growR x.A x.b 2
end Go.AM
namespace Go.AM
open Go Go.Proofs
abbrev mNil : Mo := ⟨[], []⟩
theorem exts_emb {p g : Gr} (hp : validG p = 0) (hg : validG g = 0) {q : Mo} (h : q ∈ exts p g mNil mNil) : Emb p g q := ((exts_iff (emb_nil hp) (emb_nil hg) q).1 h).1
theorem emb_fit {a g : Gr} {q : Mo} (h : Emb a g q) (h1 : a.nodes.length ≤ 1000) (h2 : a.edges.length ≤ 1000) : q.Fit := ⟨by rw [h.vm.ln]; omega, by rw [h.vm.le]; omega⟩
theorem Pre.le {a b : Gr} (h : Pre a b) : a.nodes.length ≤ b.nodes.length ∧ a.edges.length ≤ b.edges.length := by
 obtain ⟨t, ht⟩ := h.n
 obtain ⟨u, hu⟩ := h.e
 rw [ht, hu]; simp
end Go.AM
namespace Go.AM
open Go Go.Proofs
end Go.AM
namespace Go.AM
open Go Go.Proofs
end Go.AM
namespace Go.AM
open Go Go.Proofs
end Go.AM
namespace Go.AM
open Go Go.Proofs
inductive Cd.Pl : Cd → Prop
 | mk {c : Cd} (hs : c.sl = []) (hv : c.vars = 0) (ht : c.te = []) (h : ∀ x ∈ c.kids, Cd.Pl x) : Cd.Pl c
theorem Cd.Pl.sl {c : Cd} (h : c.Pl) : c.sl = [] := by cases h; assumption
theorem Cd.Pl.te {c : Cd} (h : c.Pl) : c.te = [] := by cases h; assumption
theorem Cd.Pl.vars {c : Cd} (h : c.Pl) : c.vars = 0 := by cases h; assumption
end Go.AM
namespace Go.AM
open Go Go.Proofs
end Go.AM
namespace Go.AM
open Go Go.Proofs
end Go.AM
namespace Go.AM
open Go Go.Proofs
structure Ac3 where
 own : Own
 tok : Nat → Bool
 nt : Nat
def Ac3.add (x : Ac3) (b : Bool) : Ac3 := if b = true then ⟨.tok (x.nt + 2), upd (x.own.kill (upd (upd (upd x.tok x.nt true) x.nt false) (x.nt + 1) true)) (x.nt + 2) true, x.nt + 3⟩ else x
structure Ac3.Ok (x : Ac3) (tok : Tks) (nt : Nat) : Prop where
 adv : Adv tok nt .full x.tok x.nt x.own
 lt : ∀ t, tok t = true → t < nt
theorem Ac3.Ok.add {x : Ac3} {tok : Nat → Bool} {nt : Nat} (h : x.Ok tok nt) (b : Bool) : (x.add b).Ok tok nt := by
 unfold Ac3.add
 split
 ·have had := Adv.fresh h.adv.live h.adv.lt
  exact ⟨h.adv.trans h.lt (had.trans h.adv.lt (Adv.app had.live had.lt)), h.lt⟩
 ·exact h
theorem Ac3.Ok.tk {x : Ac3} {tok : Nat → Bool} {nt : Nat} (h : x.Ok tok nt) : TK tok nt x.tok x.nt [x.own] :=
 ⟨fun t ht => h.adv.keep t ht (by simp), h.lt, h.adv.le, fun o ho t e => by
  rw [List.mem_singleton] at ho
  subst ho
  have hl := h.adv.live
  rw [e] at hl
  refine ⟨hl, ?_, h.adv.lt t hl⟩
  rcases h.adv.new with e2 | ⟨s, e2, hs⟩
  ·rw [e] at e2; cases e2
  ·rw [e] at e2; cases e2; exact hs, List.pairwise_singleton _ _⟩
abbrev Gr.cells (g : Gr) : List D := [ints g.nodes, AM.edges g.edges]
end Go.AM
namespace Go.AM
open Go Go.Proofs
theorem Ac3.Ok.start {tok : Nat → Bool} {nt : Nat} (h : ∀ t, tok t = true → t < nt) : (Ac3.mk .full tok nt).Ok tok nt := ⟨Adv.refl trivial h, h⟩
end Go.AM
namespace Go.AM
open Go Go.Proofs
theorem TK.adv {mtok : Nat → Bool} {nt0 : Nat} {tok tok' : Nat → Bool} {nt nt' : Nat} {os : List Own} {own' : Own} (h : TK mtok nt0 tok nt os) (ha : Adv tok nt .full tok' nt' own') : TK mtok nt0 tok' nt' (own' :: os) := by
 have hnew : ∀ s, own' = .tok s → nt ≤ s ∧ tok' s = true := fun s e => by
  have hl := ha.live
  rw [e] at hl
  rcases ha.new with e2 | ⟨s2, e2, hs⟩
  ·rw [e] at e2; cases e2
  ·rw [e] at e2; cases e2; exact ⟨hs, hl⟩
 refine ⟨fun t ht => ha.keep t (h.old t ht) (by simp), h.lt, Nat.le_trans h.le ha.le, fun o ho t e => ?_, ?_⟩
 ·rcases List.mem_cons.1 ho with rfl | ho
  ·obtain ⟨h1, h2⟩ := hnew t e
   exact ⟨h2, Nat.le_trans h.le h1, ha.lt t h2⟩
  ·obtain ⟨h1, h2, h3⟩ := h.own o ho t e
   exact ⟨ha.keep t h1 (by simp), h2, Nat.lt_of_lt_of_le h3 ha.le⟩
 ·refine List.pairwise_cons.2 ⟨fun b hb t e e2 => ?_, h.ne⟩
  obtain ⟨h1, h2⟩ := hnew t e
  obtain ⟨_, _, h3⟩ := h.own b hb t e2
  omega
end Go.AM
namespace Go.AM
open Go Go.Proofs
def Ac3.ed (x : Ac3) (s : Nat) : Ac3 := ⟨.tok (x.nt + 1), upd (x.own.kill (upd (upd x.tok s false) x.nt true)) (x.nt + 1) true, x.nt + 2⟩
def Ac3.nd (x : Ac3) (s : Nat) : Ac3 := ⟨x.own, upd (upd x.tok s false) x.nt true, x.nt + 1⟩
end Go.AM
namespace Go.AM
open Go Go.Proofs
end Go.AM
namespace Go.AM
open Go Go.Proofs
end Go.AM
namespace Go.AM
open Go Go.Proofs
end Go.AM
namespace Go.AM
open Go Go.Proofs
def exT : Ty := ⟨[⟨⟨#[65, 99, 99, 111, 117, 110, 116]⟩, -1, true, [⟨⟨#[98, 97, 108, 97, 110, 99, 101]⟩, -1000, 1000, []⟩]⟩, ⟨⟨#[67, 97, 115, 104]⟩, 0, false, []⟩, ⟨⟨#[76, 111, 97, 110]⟩, 0, false, [⟨⟨#[115, 116, 97, 116, 101]⟩, 0, 1, [⟨#[111, 112, 101, 110]⟩, ⟨#[99, 108, 111, 115, 101, 100]⟩]⟩]⟩, ⟨⟨#[80, 101, 114, 115, 111, 110]⟩, -1, false, []⟩],
 [⟨⟨#[111, 119, 110, 115]⟩, 3, 0, 0, -1, 1, 1⟩, ⟨⟨#[112, 97, 121, 115]⟩, 1, 1, 0, -1, 0, -1⟩]⟩
theorem exT_fit : exT.Fit := ⟨by decide, by decide, by decide, by decide, by simp [exT]; exact ⟨⟨by decide, by decide, by decide⟩, ⟨by decide, by decide, by decide⟩⟩⟩
theorem dss_nil : DSs [] [] := ⟨rfl, fun i h => by simp at h⟩
theorem dss_cons {x y : List D} {xs ys : List (List D)} : DSs (x :: xs) (y :: ys) ↔ DS1 x y ∧ DSs xs ys := by
 constructor
 ·rintro ⟨h1, h2⟩
  exact ⟨h2 0 (by simp) (by simp), by simpa using h1, fun j g1 g2 => h2 (j + 1) (by simpa using g1) (by simpa using g2)⟩
 ·rintro ⟨h1, h2, h3⟩
  refine ⟨by simp [h2], fun j g1 g2 => ?_⟩
  match j with
  | 0 => exact h1
  | j + 1 => exact h3 j (by simpa using g1) (by simpa using g2)
theorem dsub_all {sz : Nat} {es es' : List (List D)} (h : DSs es es') : DSub (.sl sz es) (.sl sz es') := h.sub sz
theorem to_dss {p q : Nat → Prop} {fz : Option (Nat × Nat × List (List D))} {sz : Nat} {es es' : List (List D)} {o : Own} (h : DSs es es') : To p q fz (.osl sz es o) (.d (.sl sz es')) := .odsub (h.sub sz)
set_option maxRecDepth 100000 in
theorem example04_c (tok : Tks) (nt : Nat) : DCall Tryz.prog 57 [] tok nt exT.av tok nt := by
 intro box nb
 refine sB Tryz.func57 Tryz.ntmps57 ?_
 intro hbox htok
 simp only at hbox htok
 apply AL.start
 try (simp)
 repeat (refine sR ?_; simp)
 try refine ⟨rfl, ?_⟩
 try (simp)
 repeat (refine sR ?_; simp)
 try refine ⟨rfl, ?_⟩
 try (simp)
 repeat (refine sR ?_; simp)
 try refine ⟨rfl, ?_⟩
 try (simp)
 repeat (refine sR ?_; simp)
 try refine ⟨rfl, ?_⟩
 try (simp)
 repeat (refine sR ?_; simp)
 refine sT ?_
 try simp only [AU]
 refine ⟨by simp, sF hbox htok (fun _ h => h) (Nat.le_refl _) ?_⟩
 simp [packA, exT, nts, ets, atts, strs]
 exact to_dss (by simp [dss_cons, dss_nil, dsub_all, atts, strs])
end Go.AM
namespace Go.AM
open Go Go.Proofs
def lstX (s : Sd) (node n : Int) : Xt := if n = -1 then ⟨⟨[0], []⟩, ⟨[node], [s.link 0]⟩⟩ else ⟨⟨[0], []⟩, ⟨[node, n], [s.link 1]⟩⟩
def lstC (s : Sd) (node : Int) (ends : List Int) : Co := ⟨⟨#[]⟩, if ends = [] then 1 else 2, ⟨[node], []⟩, ends.map (lstX s node)⟩
def lsR (s : Sd) (node : Int) (l : List Int) : List (List D) := l.map fun n => (lstX s node n).cells
theorem lsR_len (s : Sd) (node : Int) (l : List Int) : (lsR s node l).length = l.length := by simp [lsR]
def stLs (s : Sd) (node : Int) (ends : List Int) (nb : Nat) (box : Bxs) (x : Acc) : AState :=
 ⟨tl [(24, I x.i), (23, I ends.length), (22, .d (ints ends)), (1, I node), (3, .ptr (nb + 3) 0 0), (6, .ptr (nb + 6) 0 0), (8, .ptr (nb + 8) 0 0)],
  lb nb box [(3, [[I s.k, B s.o, I s.near, I s.far, I s.low, I s.high]]), (6, [[.bot, .bot, .bot, .bot, .bot]]), (8, [[Sb ⟨#[]⟩, I 2, .d (ints [node]), .d (AM.edges []), .osl 4 (lsR s node (ends.take x.i)) x.own]])], x.tok, x.nt⟩
theorem leastP_c (s : Sd) (node : Int) (ends : List Int) (hn : ends.length ≤ 100000) (tok : Tks) (nt : Nat) : DCall Tryz.prog 104 [s.av, I node, .d (ints ends)] tok nt (lstC s node ends).av tok nt := by
 intro box nb
 have hl0 := linkP_c s 0
 have hl1 := linkP_c s 1
 refine sB Tryz.func104 Tryz.ntmps104 ?_
 intro hbox htok
 simp only at hbox htok
 apply AL.start
 try (simp)
 repeat (refine sR ?_; simp)
 by_cases he : ends = []
 ·subst he
  try (simp)
  repeat (first | (refine sR ?_; simp) | (refine sC ?_; simp) | (refine sX ?_; simp only [AU, ↓reduceIte]))
  refine sT ?_
  try simp only [AU]
  refine ⟨by simp, sF hbox htok (fun _ h => h) (Nat.le_refl _) ?_⟩
  simp [packA, lstC, ints, AM.edges, xts]
 ·have hlen : ends.length ≠ 0 := fun h => he (List.length_eq_zero_iff.1 h)
  have b : ((ends.length : Int) == 0) = false := by simp [he]
  try (simp [b])
  repeat (first | (refine sR ?_; simp [b]) | (refine sC ?_; simp [b]) | (refine sX ?_; simp only [AU, ↓reduceIte]))
  refine sN ?_
  refine AL.loopT (stLs s node ends nb box) (fun x => x.i ≤ ends.length ∧ TK tok nt x.tok x.nt [x.own]) (fun x => ends.length - x.i) ⟨0, .full, tok, nt⟩ ⟨Nat.zero_le _, (TK.start htok).full⟩ (Weaks.mk (Nat.le_refl _) rfl (by simp [ToL, lk]) (by simp [BoxL, lk, ints, AM.edges, lsR])) ?_
  rintro ⟨i, own, tok', nt'⟩ S ⟨hi, htk⟩ hS
  simp only [stLs] at hS hi htk
  subst hS
  have hw := sW (i := i) (by omega)
  by_cases hlt : i < ends.length
  ·have hs : lsR s node (ends.take (i + 1)) = lsR s node (ends.take i) ++ [(lstX s node ends[i]).cells] := by unfold lsR; rw [List.take_succ_eq_append_getElem hlt, List.map_append]; rfl
   have hln := lsR_len s node (ends.take i)
   rw [List.length_take] at hln
   try (simp [hlt])
   repeat (first | (refine sR ?_; simp [hlt]) | (refine sC ?_; simp [hlt]) | (refine sX ?_; simp only [AU, ↓reduceIte]))
   refine Stop.of_d (hl0 _ _) ?_
   simp
   try (simp)
   repeat (refine sR ?_; simp)
   by_cases h1 : ends[i] = -1
   ·have b1 : (ends[i] != -1) = false := by simp [h1]
    rw [lstX, if_pos h1] at hs
    try (simp [b1])
    repeat (first | (refine sR ?_; simp [b1]) | (refine sC ?_; simp [b1]) | (refine sX ?_; simp only [AU, ↓reduceIte]))
    refine ⟨⟨by omega, htk.live⟩, ?_⟩
    try (simp [hw])
    repeat (first | (refine sR ?_; simp [hw]) | (refine sC ?_; simp [hw]) | (refine sX ?_; simp only [AU, ↓reduceIte]))
    refine sE ?_
    refine ⟨⟨i + 1, _, _, _⟩, ⟨hlt, htk.app⟩, by simp only; omega, Weaks.mk htk.app.le rfl (by simp [ToL, lk]) ?_⟩
    simp [BoxL, lk, ints, AM.edges, hs]
    refine to_snoc ?_ _
    simp [dsub_one, ints, AM.edges]
   ·have b1 : (ends[i] != -1) = true := by simp [h1]
    rw [lstX, if_neg h1] at hs
    try (simp [b1])
    repeat (first | (refine sR ?_; simp [b1]) | (refine sC ?_; simp [b1]) | (refine sX ?_; simp only [AU, ↓reduceIte]))
    refine ⟨rfl, ?_⟩
    refine Stop.of_d (hl1 _ _) ?_
    simp
    try (simp)
    repeat (first | (refine sR ?_; simp) | (refine sC ?_; simp) | (refine sX ?_; simp only [AU, ↓reduceIte]))
    refine ⟨⟨by omega, htk.live⟩, ?_⟩
    try (simp [hw])
    repeat (first | (refine sR ?_; simp [hw]) | (refine sC ?_; simp [hw]) | (refine sX ?_; simp only [AU, ↓reduceIte]))
    refine sE ?_
    refine ⟨⟨i + 1, _, _, _⟩, ⟨hlt, htk.app⟩, by simp only; omega, Weaks.mk htk.app.le rfl (by simp [ToL, lk]) ?_⟩
    simp [BoxL, lk, ints, AM.edges, hs]
    refine to_snoc ?_ _
    simp [dsub_one, ints, AM.edges]
  ·have : i = ends.length := by omega
   subst this
   rw [List.take_length]
   try (simp)
   repeat (first | (refine sR ?_; simp) | (refine sC ?_; simp) | (refine sX ?_; simp only [AU, ↓reduceIte]))
   refine sN ?_
   refine AL.ret ?_
   try simp only [AU]
   exact ⟨by simp, Fin.data (av := (lstC s node ends).av) (by simp [resAs, resA]; rfl) hbox rfl htok htk.old htk.le (by simp [packA, lstC, he, ints, AM.edges, xts, lsR]; exact .data)⟩
def chB (l : List Int) (n : Int) : Bool := if n = -1 then !decide ((-1 : Int) ∈ l) else true
def chL (ends l : List Int) : List (List Int) := (ends.filter (chB l)).map fun n => l ++ [n]
def choR (ends : List Int) : Nat → List (List Int)
 | 0 => [[]]
 | k + 1 => (choR ends k).flatMap (chL ends)
theorem chL_len (ends l : List Int) : (chL ends l).length ≤ ends.length := by
 unfold chL
 rw [List.length_map]
 exact List.length_filter_le _ _
theorem choR_len (ends : List Int) : ∀ n, (choR ends n).length ≤ ends.length ^ n
 | 0 => by simp [choR]
 | n + 1 => by
  unfold choR
  rw [List.length_flatMap, Nat.pow_succ]
  have h : ∀ L : List (List Int), (L.map fun a => (chL ends a).length).sum ≤ L.length * ends.length := by
   intro L
   induction L with
   | nil => simp
   | cons x L ih =>
    simp only [List.map_cons, List.sum_cons, List.length_cons, Nat.succ_mul]
    have := chL_len ends x
    omega
  exact Nat.le_trans (h _) (Nat.mul_le_mul_right _ (choR_len ends n))
theorem choR_len3 {ends : List Int} {n : Nat} (he : ends.length ≤ 100) (h3 : n ≤ 3) : (choR ends n).length ≤ 1000000 :=
 Nat.le_trans (choR_len ends n) (Nat.le_trans (Nat.pow_le_pow_left he n) (Nat.le_trans (Nat.pow_le_pow_right (by decide) h3) (by decide)))
theorem choR_mem {ends : List Int} : ∀ {n : Nat} {l : List Int}, l ∈ choR ends n → l.length = n
 | 0, l, h => by simp [choR] at h; simp [h]
 | n + 1, l, h => by
  unfold choR chL at h
  simp only [List.mem_flatMap, List.mem_map] at h
  obtain ⟨a, ha, x, _, rfl⟩ := h
  simp [choR_mem ha]
def chK (ends : List Int) (L : List (List Int)) (i j : Nat) : List (List Int) := (L.take i).flatMap (chL ends) ++ chL (ends.take j) (L.getD i [])
theorem chL_zero (l : List Int) : chL [] l = [] := rfl
theorem chK_succ {ends : List Int} {L : List (List Int)} {i j : Nat} (hi : i < L.length) (hj : j < ends.length) : chK ends L i (j + 1) = chK ends L i j ++ (if chB L[i] ends[j] = true then [L[i] ++ [ends[j]]] else []) := by
 have hg : L.getD i [] = L[i] := by simp [hi]
 unfold chK
 rw [hg, List.append_assoc]
 congr 1
 unfold chL
 rw [List.take_succ_eq_append_getElem hj, List.filter_append, List.map_append]
 congr 1
 by_cases h : chB L[i] ends[j] = true <;> simp [h]
theorem chK_next {ends : List Int} {L : List (List Int)} {i : Nat} (hi : i < L.length) : chK ends L i ends.length = chK ends L (i + 1) 0 := by
 have hg : L.getD i [] = L[i] := by simp [hi]
 unfold chK
 rw [hg, List.take_length, List.take_zero, chL_zero, List.append_nil, List.take_succ_eq_append_getElem hi, List.flatMap_append]
 simp
theorem chK_end (ends : List Int) (L : List (List Int)) : chK ends L L.length 0 = L.flatMap (chL ends) := by
 unfold chK
 rw [List.take_length, List.take_zero, chL_zero, List.append_nil]
theorem flat_chL (ends : List Int) : ∀ L : List (List Int), (L.flatMap (chL ends)).length ≤ L.length * ends.length
 | [] => by simp
 | l :: L => by
  rw [List.flatMap_cons, List.length_append, List.length_cons, Nat.succ_mul]
  have h1 := chL_len ends l
  have h2 := flat_chL ends L
  omega
theorem chK_len {ends : List Int} {m : Nat} (he : ends.length ≤ 100) (hm : m ≤ 2) {i j : Nat} (hi : i < (choR ends m).length) : (chK ends (choR ends m) i j).length ≤ 1000000 := by
 have h1 : (choR ends m).length ≤ 10000 := Nat.le_trans (choR_len ends m) (Nat.le_trans (Nat.pow_le_pow_left he m) (Nat.le_trans (Nat.pow_le_pow_right (by decide) hm) (by decide)))
 have h2 := flat_chL ends ((choR ends m).take i)
 have h3 := chL_len (ends.take j) ((choR ends m).getD i [])
 rw [List.length_take] at h2 h3
 have h4 : min i (choR ends m).length * ends.length ≤ 9999 * 100 := Nat.mul_le_mul (by omega) he
 unfold chK
 rw [List.length_append]
 omega
def muC1 (ends : List Int) (n : Nat) (nb : Nat) (box : Bxs) (x : Acc) : AState :=
 ⟨tl [(13, I x.i), (12, I n), (5, .osl 1 (rL (choR ends x.i)) x.own), (0, .d (ints ends)), (1, I n)], lb nb box [], x.tok, x.nt⟩
def muC2 (ends : List Int) (n : Nat) (nb : Nat) (box : Bxs) (m : Nat) (x : Acc) : AState :=
 ⟨tl [(17, I x.i), (16, I (choR ends m).length), (15, .d (lists (choR ends m))), (6, .osl 1 (rL (chK ends (choR ends m) x.i 0)) x.own), (13, I m), (12, I n), (0, .d (ints ends)), (1, I n)], lb nb box [], x.tok, x.nt⟩
def muC3 (ends : List Int) (n : Nat) (nb : Nat) (box : Bxs) (m i : Nat) (x : Acc) : AState :=
 ⟨tl [(23, I x.i), (22, I ends.length), (21, .d (ints ends)), (8, .d (ints ((choR ends m).getD i []))), (17, I i), (16, I (choR ends m).length), (15, .d (lists (choR ends m))), (6, .osl 1 (rL (chK ends (choR ends m) i x.i)) x.own), (13, I m), (12, I n), (0, .d (ints ends)), (1, I n)], lb nb box [], x.tok, x.nt⟩
theorem choicesP_c (ends : List Int) (n : Nat) (hn : ends.length ≤ 100) (h3 : n ≤ 3) (tok : Tks) (nt : Nat) : DCall Tryz.prog 176 [.d (ints ends), I n] tok nt (.d (lists (choR ends n))) tok nt := by
 intro box nb
 refine sB Tryz.func176 Tryz.ntmps176 ?_
 intro hbox htok
 simp only at hbox htok
 apply AL.start
 try (simp)
 repeat (refine sR ?_; simp)
 refine sN ?_
 refine AL.loopT (muC1 ends n nb box) (fun x => x.i ≤ n ∧ TK tok nt x.tok x.nt [x.own]) (fun x => n - x.i) ⟨0, .full, tok, nt⟩ ⟨Nat.zero_le _, (TK.start htok).full⟩ (Weaks.mk (Nat.le_refl _) rfl (by simp [ToL, lk]; exact to_emp2 0 1) (by simp [BoxL, lk])) ?_
 rintro ⟨m, own, tok', nt'⟩ S ⟨hi, htk⟩ hS
 simp only [muC1] at hS hi htk
 subst hS
 have hw := sW (i := m) (by omega)
 by_cases hlt : m < n
 ·have hL := choR_len3 hn (show m ≤ 3 by omega)
  have hlm := @choR_mem ends m
  have hkl := fun i j hi => @chK_len ends m hn (by omega) i j hi
  have hend := chK_end ends (choR ends m)
  have hnx : choR ends (m + 1) = (choR ends m).flatMap (chL ends) := rfl
  try (simp [hlt])
  repeat (first | (refine sR ?_; simp [hlt]) | (refine sC ?_; simp [hlt]) | (refine sX ?_; simp only [AU, ↓reduceIte]))
  refine sN ?_
  refine AL.loopT (muC2 ends n nb box m) (fun x => x.i ≤ (choR ends m).length ∧ TK tok nt x.tok x.nt [x.own]) (fun x => (choR ends m).length - x.i) ⟨0, .full, tok', nt'⟩ ⟨Nat.zero_le _, htk.tail.full⟩ (Weaks.mk htk.le rfl (by simp [ToL, lk, chK, chL_zero]) (by simp [BoxL, lk])) ?_
  rintro ⟨i, own2, tok2, nt2⟩ S ⟨hi2, htk2⟩ hS
  simp only [muC2] at hS hi2 htk2
  subst hS
  have hw2 := sW (i := i) (by omega)
  by_cases hli : i < (choR ends m).length
  ·have hg : (choR ends m).getD i [] = (choR ends m)[i] := by simp [hli]
   have hlen := hlm (List.getElem_mem hli)
   have hnext := chK_next (ends := ends) hli
   have hsc := fun j hj => chK_succ (ends := ends) (j := j) hli hj
   have hkl := fun j => hkl i j hli
   have hc1 := contains_c (choR ends m)[i] (-1) (by omega)
   have hc2 := clone_c (choR ends m)[i] (by omega)
   try (simp [hli])
   repeat (first | (refine sR ?_; simp [hli]) | (refine sC ?_; simp [hli]) | (refine sX ?_; simp only [AU, ↓reduceIte]))
   refine sN ?_
   refine AL.loopT (muC3 ends n nb box m i) (fun x => x.i ≤ ends.length ∧ TK tok nt x.tok x.nt [x.own]) (fun x => ends.length - x.i) ⟨0, own2, tok2, nt2⟩ ⟨Nat.zero_le _, htk2⟩ (Weaks.mk htk2.le rfl (by simp [ToL, lk, hli]) (by simp [BoxL, lk])) ?_
   rintro ⟨j, own3, tok3, nt3⟩ S ⟨hi3, htk3⟩ hS
   simp only [muC3] at hS hi3 htk3
   subst hS
   rw [hg]
   have hw3 := sW (i := j) (by omega)
   by_cases hlj : j < ends.length
   ·have hs := hsc j hlj
    have hk := hkl j
    unfold chB at hs
    by_cases h1 : ends[j] = -1
    ·have b1 : (ends[j] != -1) = false := by simp [h1]
     rw [if_pos h1] at hs
     try (simp [hlj, b1])
     repeat (first | (refine sR ?_; simp [hlj, b1]) | (refine sC ?_; simp [hlj, b1]) | (refine sX ?_; simp only [AU, ↓reduceIte]))
     refine Stop.of_d (hc1 _ _) ?_
     simp
     cases e : decide ((-1 : Int) ∈ (choR ends m)[i])
     ·rw [e, if_pos (by rfl)] at hs
      try (simp)
      repeat (first | (refine sR ?_; simp) | (refine sC ?_; simp) | (refine sX ?_; simp only [AU, ↓reduceIte]))
      refine Stop.of_d (hc2 _ _) ?_
      simp
      have a1 := htk3.more 0
      have hs2 : rL (chK ends (choR ends m) i (j + 1)) = rL (chK ends (choR ends m) i j) ++ [[D.sl 1 (rI (choR ends m)[i] ++ [[D.raw (.int .i64 ends[j])]])]] := by rw [hs]; simp [ints]
      have a2 := a1.app
      have a3 := a2.swap.app
      refine ⟨⟨by omega, by simp [upd_same]⟩, ⟨by omega, a2.swap.live⟩, ?_⟩
      try (simp [hw3])
      repeat (first | (refine sR ?_; simp [hw3]) | (refine sC ?_; simp [hw3]) | (refine sX ?_; simp only [AU, ↓reduceIte]))
      refine sE ?_
      exact ⟨⟨j + 1, _, _, _⟩, ⟨hlj, a3.swap.tail⟩, by simp only; omega, Weaks.mk a3.le rfl (by simp only [muC3, hs2, hg]; simp [ToL, lk]) (by simp [BoxL, lk])⟩
     ·rw [e, if_neg (by simp), List.append_nil] at hs
      try (simp [hw3])
      repeat (first | (refine sR ?_; simp [hw3]) | (refine sC ?_; simp [hw3]) | (refine sX ?_; simp only [AU, ↓reduceIte]))
      refine sE ?_
      exact ⟨⟨j + 1, _, _, _⟩, ⟨hlj, htk3⟩, by simp only; omega, Weaks.mk htk3.le rfl (by simp [ToL, lk, hs, hg, hli]) (by simp [BoxL, lk])⟩
    ·have b1 : (ends[j] != -1) = true := by simp [h1]
     rw [if_neg h1, if_pos rfl] at hs
     try (simp [hlj, b1])
     repeat (first | (refine sR ?_; simp [hlj, b1]) | (refine sC ?_; simp [hlj, b1]) | (refine sX ?_; simp only [AU, ↓reduceIte]))
     refine Stop.of_d (hc2 _ _) ?_
     simp
     have a1 := htk3.more 0
     have hs2 : rL (chK ends (choR ends m) i (j + 1)) = rL (chK ends (choR ends m) i j) ++ [[D.sl 1 (rI (choR ends m)[i] ++ [[D.raw (.int .i64 ends[j])]])]] := by rw [hs]; simp [ints]
     have a2 := a1.app
     have a3 := a2.swap.app
     refine ⟨⟨by omega, by simp [upd_same]⟩, ⟨by omega, a2.swap.live⟩, ?_⟩
     try (simp [hw3])
     repeat (first | (refine sR ?_; simp [hw3]) | (refine sC ?_; simp [hw3]) | (refine sX ?_; simp only [AU, ↓reduceIte]))
     refine sE ?_
     exact ⟨⟨j + 1, _, _, _⟩, ⟨hlj, a3.swap.tail⟩, by simp only; omega, Weaks.mk a3.le rfl (by simp only [muC3, hs2, hg]; simp [ToL, lk]) (by simp [BoxL, lk])⟩
   ·have : j = ends.length := by omega
    subst this
    rw [hnext]
    try (simp [hw2])
    repeat (first | (refine sR ?_; simp [hw2]) | (refine sC ?_; simp [hw2]) | (refine sX ?_; simp only [AU, ↓reduceIte]))
    refine sE ?_
    exact ⟨⟨i + 1, _, _, _⟩, ⟨hli, htk3⟩, by simp only; omega, Weaks.mk htk3.le rfl (by simp [ToL, lk]) (by simp [BoxL, lk])⟩
  ·have : i = (choR ends m).length := by omega
   subst this
   rw [hend, ← hnx]
   try (simp [hw])
   repeat (first | (refine sR ?_; simp [hw]) | (refine sC ?_; simp [hw]) | (refine sX ?_; simp only [AU, ↓reduceIte]))
   refine sE ?_
   exact ⟨⟨m + 1, _, _, _⟩, ⟨hlt, htk2⟩, by simp only; omega, Weaks.mk htk2.le rfl (by simp [ToL, lk]) (by simp [BoxL, lk])⟩
 ·have : m = n := by omega
  subst this
  try (simp)
  repeat (first | (refine sR ?_; simp) | (refine sC ?_; simp) | (refine sX ?_; simp only [AU, ↓reduceIte]))
  refine sN ?_
  refine AL.ret ?_
  try simp only [AU]
  exact ⟨by simp, Fin.data (av := .d (lists (choR ends m))) (by simp [resAs, resA]; rfl) hbox rfl htok htk.old htk.le (by simp [packA])⟩
end Go.AM
namespace Go.AM
open Go Go.Proofs
abbrev Co.cells (c : Co) : List D := [.raw (.string c.name), .raw (.int .i64 c.kind), ints c.g.nodes, AM.edges c.g.edges, xts c.exts]
abbrev rCo (l : List Co) : List (List D) := l.map Co.cells
def cntO (c : List Int) : Nat := (c.filter (· != -1)).length
def gAtL (c : List Int) : List Int := (List.range c.length).map fun i => if c.getD i 0 = -1 then 0 else (1 : Int) + cntO (c.take i)
def greG (s : Sd) (node : Int) (cls c : List Int) : Gr := ⟨node :: c.filter (· != -1), cls.map fun k => s.link ((gAtL c).getD k.toNat 0)⟩
def greC (s : Sd) (node : Int) (cls c : List Int) : Co := ⟨⟨#[]⟩, 1, greG s node cls c, []⟩
def greP (s : Sd) (node : Int) (ends p : List Int) : List Co := (choR ends (numN p p.length).2.toNat).map (greC s node (numN p p.length).1)
def greL (s : Sd) (node : Int) (ends : List Int) : List Co := (partsN (s.high.toNat + 1)).flatMap (greP s node ends)
def grK (s : Sd) (node : Int) (ends : List Int) (P : List (List Int)) (i : Nat) (cls : List Int) (L : List (List Int)) (k : Nat) : List Co := (P.take i).flatMap (greP s node ends) ++ (L.take k).map (greC s node cls)
theorem grK_zero (s : Sd) (node : Int) (ends : List Int) (P : List (List Int)) (i : Nat) (cls : List Int) (L : List (List Int)) : grK s node ends P i cls L 0 = grK s node ends P i [] [] 0 := by simp [grK]
theorem grK_succ {s : Sd} {node : Int} {ends : List Int} {P : List (List Int)} {i : Nat} {cls : List Int} {L : List (List Int)} {k : Nat} (h : k < L.length) : grK s node ends P i cls L (k + 1) = grK s node ends P i cls L k ++ [greC s node cls L[k]] := by
 unfold grK
 rw [List.take_succ_eq_append_getElem h, List.map_append, List.append_assoc]
 rfl
theorem grK_next {s : Sd} {node : Int} {ends : List Int} {P : List (List Int)} {i : Nat} (h : i < P.length) : grK s node ends P i (numN P[i] P[i].length).1 (choR ends (numN P[i] P[i].length).2.toNat) (choR ends (numN P[i] P[i].length).2.toNat).length = grK s node ends P (i + 1) [] [] 0 := by
 unfold grK
 rw [List.take_length, List.take_succ_eq_append_getElem h, List.flatMap_append]
 simp [greP]
def stG1 (s : Sd) (node : Int) (ends : List Int) (P : List (List Int)) (nb : Nat) (box : Bxs) (x : Acc) : AState :=
 ⟨tl [(36, I x.i), (35, I P.length), (34, .d (lists P)), (10, .osl 5 (rCo (grK s node ends P x.i [] [] 0)) x.own), (1, I node), (2, .d (ints ends)), (3, .ptr (nb + 3) 0 0)], lb nb box [(3, [[I s.k, B s.o, I s.near, I s.far, I s.low, I s.high]])], x.tok, x.nt⟩
def stG2 (s : Sd) (node : Int) (ends : List Int) (P : List (List Int)) (i : Nat) (cls : List Int) (n : Nat) (nb : Nat) (box : Bxs) (x : Acc) : AState :=
 ⟨tl [(53, I x.i), (52, I (choR ends n).length), (51, .d (lists (choR ends n))), (13, .d (ints cls)), (14, I n), (36, I i), (35, I P.length), (34, .d (lists P)), (10, .osl 5 (rCo (grK s node ends P i cls (choR ends n) x.i)) x.own), (1, I node), (2, .d (ints ends)), (3, .ptr (nb + 3) 0 0)], lb nb box [(3, [[I s.k, B s.o, I s.near, I s.far, I s.low, I s.high]])], x.tok, x.nt⟩
def atL (c : List Int) (j : Nat) : List Int := (List.range c.length).map fun i => if i < j then (if c.getD i 0 = -1 then 0 else (1 : Int) + cntO (c.take i)) else 0
theorem atL_len (c : List Int) (j : Nat) : (atL c j).length = c.length := by simp [atL]
theorem atL_zero (c : List Int) : List.replicate c.length 0 = atL c 0 := by
 refine List.ext_getElem (by simp [atL]) fun i h1 h2 => ?_
 simp [atL]
theorem atL_end (c : List Int) : atL c c.length = gAtL c := by
 refine List.ext_getElem (by simp [atL, gAtL]) fun i h1 h2 => ?_
 have hi : i < c.length := by simpa [atL] using h1
 simp [atL, gAtL, hi]
theorem atL_set {c : List Int} {j : Nat} (h : j < c.length) (h1 : c[j] ≠ -1) : (atL c j).set j ((1 : Int) + cntO (c.take j)) = atL c (j + 1) := by
 refine List.ext_getElem (by simp [atL]) fun i a b => ?_
 rw [List.getElem_set]
 have hi : i < c.length := by simpa [atL] using a
 simp only [atL, List.getElem_map, List.getElem_range]
 by_cases e : j = i
 ·subst e
  rw [if_pos rfl, if_pos (Nat.lt_succ_self _), if_neg (by simpa [hi] using h1)]
 ·rw [if_neg e]
  by_cases h2 : i < j
  ·rw [if_pos h2, if_pos (show i < j + 1 by omega)]
  ·rw [if_neg h2, if_neg (show ¬ i < j + 1 by omega)]
theorem atL_skip {c : List Int} {j : Nat} (h : j < c.length) (h1 : c[j] = -1) : atL c j = atL c (j + 1) := by
 refine List.ext_getElem (by simp [atL]) fun i a b => ?_
 have hi : i < c.length := by simpa [atL] using a
 simp only [atL, List.getElem_map, List.getElem_range]
 by_cases e : j = i
 ·subst e
  rw [if_neg (by omega), if_pos (Nat.lt_succ_self _), if_pos (by simpa [hi] using h1)]
 ·by_cases h2 : i < j
  ·rw [if_pos h2, if_pos (show i < j + 1 by omega)]
  ·rw [if_neg h2, if_neg (show ¬ i < j + 1 by omega)]
def ndL (node : Int) (c : List Int) (j : Nat) : List Int := node :: (c.take j).filter (· != -1)
theorem ndL_len (node : Int) (c : List Int) (j : Nat) : (ndL node c j).length = 1 + cntO (c.take j) := by simp [ndL, cntO]; omega
theorem cntO_le (c : List Int) : cntO c ≤ c.length := List.length_filter_le _ _
theorem ndL_skip {node : Int} {c : List Int} {j : Nat} (h : j < c.length) (h1 : c[j] = -1) : ndL node c (j + 1) = ndL node c j := by
 unfold ndL
 rw [List.take_succ_eq_append_getElem h, List.filter_append]
 simp [h1]
theorem ndL_succ {node : Int} {c : List Int} {j : Nat} (h : j < c.length) (h1 : c[j] ≠ -1) : ndL node c (j + 1) = ndL node c j ++ [c[j]] := by
 unfold ndL
 rw [List.take_succ_eq_append_getElem h, List.filter_append]
 simp [h1]
def stG3 (s : Sd) (node : Int) (ends : List Int) (P : List (List Int)) (i : Nat) (cls : List Int) (n k : Nat) (c : List Int) (own : Own) (nb : Nat) (box : Bxs) (x : Acc) : AState :=
 ⟨tl [(64, I x.i), (63, I c.length), (62, .d (ints c)), (19, .msl (nb + 61) 0 n 1), (18, .ptr (nb + 18) 0 0), (53, I k), (52, I (choR ends n).length), (51, .d (lists (choR ends n))), (13, .d (ints cls)), (14, I n), (36, I i), (35, I P.length), (34, .d (lists P)), (10, .osl 5 (rCo (grK s node ends P i cls (choR ends n) k)) own), (1, I node), (2, .d (ints ends)), (3, .ptr (nb + 3) 0 0)],
  lb nb box [(61, rowsI (atL c x.i)), (18, [[.osl 1 (rI (ndL node c x.i)) x.own, .osl 3 [] .full]]), (3, [[I s.k, B s.o, I s.near, I s.far, I s.low, I s.high]])], x.tok, x.nt⟩
def lkL (s : Sd) (c cls : List Int) (q : Nat) : List E := (cls.take q).map fun k => s.link ((gAtL c).getD k.toNat 0)
theorem lkL_succ {s : Sd} {c cls : List Int} {q : Nat} (h : q < cls.length) : lkL s c cls (q + 1) = lkL s c cls q ++ [s.link ((gAtL c).getD cls[q].toNat 0)] := by
 unfold lkL
 rw [List.take_succ_eq_append_getElem h, List.map_append]
 rfl
theorem lkL_len (s : Sd) (c cls : List Int) (q : Nat) : (lkL s c cls q).length ≤ q := by unfold lkL; rw [List.length_map, List.length_take]; omega
def stG4 (s : Sd) (node : Int) (ends : List Int) (P : List (List Int)) (i : Nat) (cls : List Int) (n k : Nat) (c : List Int) (own : Own) (nb : Nat) (box : Bxs) (x : Acc) : AState :=
 ⟨tl [(86, I x.i), (85, I cls.length), (84, .d (ints cls)), (19, .msl (nb + 61) 0 n 1), (18, .ptr (nb + 18) 0 0), (53, I k), (52, I (choR ends n).length), (51, .d (lists (choR ends n))), (13, .d (ints cls)), (14, I n), (36, I i), (35, I P.length), (34, .d (lists P)), (10, .osl 5 (rCo (grK s node ends P i cls (choR ends n) k)) own), (1, I node), (2, .d (ints ends)), (3, .ptr (nb + 3) 0 0)],
  lb nb box [(61, rowsI (gAtL c)), (18, [[.d (ints (ndL node c c.length)), .osl 3 (rE (lkL s c cls x.i)) x.own]]), (3, [[I s.k, B s.o, I s.near, I s.far, I s.low, I s.high]])], x.tok, x.nt⟩
theorem flat_leM {α β : Type} (f : α → List β) (B : Nat) : ∀ L : List α, (∀ x ∈ L, (f x).length ≤ B) → (L.flatMap f).length ≤ L.length * B
 | [], _ => by simp
 | x :: L, h => by
  rw [List.flatMap_cons, List.length_append, List.length_cons, Nat.succ_mul]
  have h1 := h x (by simp)
  have h2 := flat_leM f B L fun y hy => h y (by simp [hy])
  omega
theorem grK_len {s : Sd} {node : Int} {ends : List Int} {P : List (List Int)} {i k : Nat} {cls : List Int} {L : List (List Int)} (hn : ends.length ≤ 100) (hP : P.length ≤ 5) (hl : ∀ p ∈ P, p.length ≤ 3) (hL : L.length ≤ 1000000) : (grK s node ends P i cls L k).length ≤ 6000000 := by
 unfold grK
 rw [List.length_append, List.length_map, List.length_take]
 have h1 := flat_leM (greP s node ends) 1000000 (P.take i) fun p hp => by
  have hp := hl p (List.mem_of_mem_take hp)
  unfold greP
  rw [List.length_map]
  obtain ⟨q1, q2, q3⟩ := numN_len p p.length
  exact choR_len3 hn (by omega)
 rw [List.length_take] at h1
 have h2 : min i P.length * 1000000 ≤ 5 * 1000000 := Nat.mul_le_mul_right _ (by omega)
 omega
theorem greatestP_c (s : Sd) (node : Int) (ends : List Int) (hn : ends.length ≤ 100) (h0 : 0 ≤ s.high) (h2 : s.high ≤ 2) (tok : Tks) (nt : Nat) : DCall Tryz.prog 105 [s.av, I node, .d (ints ends)] tok nt (.tup [.d (.sl 5 (rCo (greL s node ends))), I 0]) tok nt := by
 intro box nb
 obtain ⟨h, hh⟩ := Int.eq_ofNat_of_zero_le h0
 have hpa := all45_c (h + 1) (by omega)
 have hw1 : IntKind.i64.wrap (s.high + 1) = ((h + 1 : Nat) : Int) := by rw [hh, wrap_in (by omega) (by omega)]; rfl
 have hR : greL s node ends = (partsN (h + 1)).flatMap (greP s node ends) := by unfold greL; rw [hh]; rfl
 have hPl : (partsN (h + 1)).length ≤ 5 := by
  have : h = 0 ∨ h = 1 ∨ h = 2 := by omega
  rcases this with rfl | rfl | rfl <;> decide
 have hP1 := partsN_len (h + 1)
 have hP2 := partsN_partL (h + 1)
 refine sB Tryz.func105 Tryz.ntmps105 ?_
 intro hbox htok
 simp only at hbox htok
 apply AL.start
 try (simp [hw1])
 repeat (refine sR ?_; simp [hw1])
 refine Stop.of_d (hpa _ _) ?_
 simp
 rw [hR]
 generalize partsN (h + 1) = P at *
 try (simp)
 repeat (first | (refine sR ?_; simp) | (refine sC ?_; simp) | (refine sX ?_; simp only [AU, ↓reduceIte]))
 refine sN ?_
 refine AL.loopT (stG1 s node ends P nb box) (fun x => x.i ≤ P.length ∧ TK tok nt x.tok x.nt [x.own]) (fun x => P.length - x.i) ⟨0, .full, tok, nt⟩ ⟨Nat.zero_le _, (TK.start htok).full⟩ (Weaks.mk (Nat.le_refl _) rfl (by simp [ToL, lk, grK]) (by simp [BoxL, lk])) ?_
 rintro ⟨i, own, tok', nt'⟩ S ⟨hi, htk⟩ hS
 simp only [stG1] at hS hi htk
 subst hS
 have hw := sW (i := i) (by omega)
 by_cases hlt : i < P.length
 ·have hpl := hP1 _ (List.getElem_mem hlt)
  have hpp := hP2 _ (List.getElem_mem hlt)
  have hq := quotient86_c P[i] (by omega) hpp
  have hnext := grK_next (s := s) (node := node) (ends := ends) hlt
  try (simp [hlt])
  repeat (first | (refine sR ?_; simp [hlt]) | (refine sC ?_; simp [hlt]) | (refine sX ?_; simp only [AU, ↓reduceIte]))
  refine Stop.of_d (hq _ _) ?_
  simp
  obtain ⟨q1, q2, q3⟩ := numN_len P[i] P[i].length
  obtain ⟨n, hn2⟩ := Int.eq_ofNat_of_zero_le q2
  have hn3 : n ≤ 3 := by omega
  have hrg := numN_range hpp P[i].length (Nat.le_refl _)
  have hn4 : (numN P[i] P[i].length).2.toNat = n := by omega
  rw [hn4] at hnext
  rw [hn2]
  have hch := choicesP_c ends n hn hn3
  have hcl := choR_len3 hn hn3
  have hcm := @choR_mem ends n
  have hcls : ∀ k ∈ (numN P[i] P[i].length).1, 0 ≤ k ∧ k < n := by
   intro k hk
   obtain ⟨j, hj, rfl⟩ := List.getElem_of_mem hk
   have := hrg j hj
   omega
  have hclen : (numN P[i] P[i].length).1.length ≤ 3 := by omega
  generalize (numN P[i] P[i].length).1 = cls at *
  try (simp)
  repeat (first | (refine sR ?_; simp) | (refine sC ?_; simp) | (refine sX ?_; simp only [AU, ↓reduceIte]))
  refine Stop.of_d (hch _ _) ?_
  simp
  try (simp)
  repeat (first | (refine sR ?_; simp) | (refine sC ?_; simp) | (refine sX ?_; simp only [AU, ↓reduceIte]))
  refine sN ?_
  refine AL.loopT (stG2 s node ends P i cls n nb box) (fun x => x.i ≤ (choR ends n).length ∧ TK tok nt x.tok x.nt [x.own]) (fun x => (choR ends n).length - x.i) ⟨0, own, tok', nt'⟩ ⟨Nat.zero_le _, htk⟩ (Weaks.mk htk.le rfl (by simp [ToL, lk, grK_zero]) (by simp [BoxL, lk])) ?_
  rintro ⟨k, own2, tok2, nt2⟩ S ⟨hi2, htk2⟩ hS
  simp only [stG2] at hS hi2 htk2
  subst hS
  have hw2 := sW (i := k) (by omega)
  by_cases hlk : k < (choR ends n).length
  ·have hs := grK_succ (s := s) (node := node) (ends := ends) (P := P) (i := i) (cls := cls) hlk
   have hcn := hcm (List.getElem_mem hlk)
   have hgk := grK_len (s := s) (node := node) (i := i) (k := k) (cls := cls) hn hPl (fun p hp => by have := hP1 p hp; omega) hcl
   have hg : (choR ends n)[k]?.getD [] = (choR ends n)[k] := by simp [hlk]
   try (simp [hlk])
   repeat (first | (refine sR ?_; simp [hlk]) | (refine sC ?_; simp [hlk]) | (refine sX ?_; simp only [AU, ↓reduceIte]))
   refine ⟨by omega, ?_⟩
   try (simp [hlk])
   repeat (first | (refine sR ?_; simp [hlk]) | (refine sC ?_; simp [hlk]) | (refine sX ?_; simp only [AU, ↓reduceIte]))
   generalize (choR ends n)[k] = c at *
   have haz := atL_zero c
   rw [hcn] at haz
   rw [haz]
   refine sN ?_
   refine AL.loopT (stG3 s node ends P i cls n k c own2 nb box) (fun x => x.i ≤ c.length ∧ TK tok nt x.tok x.nt [x.own, own2]) (fun x => c.length - x.i) ⟨0, .full, tok2, nt2⟩ ⟨Nat.zero_le _, htk2.full⟩ (Weaks.mk htk2.le rfl (by simp [ToL, lk]) (by simp [BoxL, lk, ndL])) ?_
   rintro ⟨j, own3, tok3, nt3⟩ S ⟨hi3, htk3⟩ hS
   simp only [stG3] at hS hi3 htk3
   subst hS
   have hw3 := sW (i := j) (by omega)
   have hal := atL_len c j
   have hnl := ndL_len node c j
   have hcl := cntO_le (c.take j)
   rw [List.length_take] at hcl
   by_cases hlj : j < c.length
   ·by_cases h1 : c[j] = -1
    ·have b1 : (c[j] != -1) = false := by simp [h1]
     have e1 := atL_skip hlj h1
     have e2 := ndL_skip (node := node) hlj h1
     try (simp [hlj, b1, hw3])
     repeat (first | (refine sR ?_; simp [hlj, b1, hw3]) | (refine sC ?_; simp [hlj, b1, hw3]) | (refine sX ?_; simp only [AU, ↓reduceIte]))
     refine sE ?_
     exact ⟨⟨j + 1, _, _, _⟩, ⟨hlj, htk3⟩, by simp only; omega, Weaks.mk htk3.le rfl (by simp [ToL, lk]) (by simp [BoxL, lk, ← e1, e2])⟩
    ·have b1 : (c[j] != -1) = true := by simp [h1]
     have e1 := atL_set hlj h1
     have e2 := ndL_succ (node := node) hlj h1
     have hjn : j < n := by omega
     have e3 : (atL c j).set j ((ndL node c j).length : Int) = atL c (j + 1) := by rw [hnl, ← e1]; simp
     have hbn : (ndL node c j).length ≤ 4 := by omega
     try (simp [hlj, b1, hal, hjn, hcn])
     repeat (first | (refine sR ?_; simp [hlj, b1, hal, hjn, hcn]) | (refine sC ?_; simp [hlj, b1, hal, hjn, hcn]) | (refine sX ?_; simp only [AU, ↓reduceIte]))
     refine ⟨⟨by omega, htk3.live⟩, ?_⟩
     try (simp [hw3])
     repeat (first | (refine sR ?_; simp [hw3]) | (refine sC ?_; simp [hw3]) | (refine sX ?_; simp only [AU, ↓reduceIte]))
     refine sE ?_
     exact ⟨⟨j + 1, _, _, _⟩, ⟨by simp only; omega, htk3.app⟩, by simp only; omega, Weaks.mk htk3.app.le rfl (by simp [ToL, lk, hcn]) (by simp [BoxL, lk, e3, e2])⟩
   ·have : j = c.length := by omega
    subst this
    try (simp)
    repeat (first | (refine sR ?_; simp) | (refine sC ?_; simp) | (refine sX ?_; simp only [AU, ↓reduceIte]))
    have hgl : (gAtL c).length = c.length := by rw [← atL_end]; exact hal
    rw [atL_end]
    refine sN ?_
    refine AL.loopT (stG4 s node ends P i cls n k c own2 nb box) (fun x => x.i ≤ cls.length ∧ TK tok nt x.tok x.nt [x.own, own2]) (fun x => cls.length - x.i) ⟨0, .full, tok3, nt3⟩ ⟨Nat.zero_le _, htk3.tail.full⟩ (Weaks.mk htk3.le rfl (by simp [ToL, lk]) (by simp [BoxL, lk, lkL])) ?_
    rintro ⟨q, own4, tok4, nt4⟩ S ⟨hi4, htk4⟩ hS
    simp only [stG4] at hS hi4 htk4
    subst hS
    have hw4 := sW (i := q) (by omega)
    have hll := lkL_len s c cls q
    by_cases hlq : q < cls.length
    ·obtain ⟨z1, z2⟩ := hcls _ (List.getElem_mem hlq)
     have hsq := lkL_succ (s := s) (c := c) hlq
     have z3 : cls[q].toNat < (gAtL c).length := by omega
     have hgd : (gAtL c).getD cls[q].toNat 0 = (gAtL c)[cls[q].toNat] := by simp [z3]
     rw [hgd] at hsq
     have hlk := linkP_c s (gAtL c)[cls[q].toNat]
     try (simp [hlq, z1, z2, z3, hgl, hcn])
     repeat (first | (refine sR ?_; simp [hlq, z1, z2, z3, hgl, hcn]) | (refine sC ?_; simp [hlq, z1, z2, z3, hgl, hcn]) | (refine sX ?_; simp only [AU, ↓reduceIte]))
     refine Stop.of_d (hlk _ _) ?_
     simp
     refine ⟨⟨by omega, htk4.live⟩, ?_⟩
     try (simp [hw4])
     repeat (first | (refine sR ?_; simp [hw4]) | (refine sC ?_; simp [hw4]) | (refine sX ?_; simp only [AU, ↓reduceIte]))
     refine sE ?_
     exact ⟨⟨q + 1, _, _, _⟩, ⟨hlq, htk4.app⟩, by simp only; omega, Weaks.mk htk4.app.le rfl (by simp [ToL, lk]) (by simp [BoxL, lk, hsq, hcn])⟩
    ·have : q = cls.length := by omega
     subst this
     have hfin : greC s node cls c = ⟨⟨#[]⟩, 1, ⟨ndL node c c.length, lkL s c cls cls.length⟩, []⟩ := by simp [greC, greG, ndL, lkL]
     rw [hfin] at hs
     try (simp)
     repeat (first | (refine sR ?_; simp) | (refine sC ?_; simp) | (refine sX ?_; simp only [AU, ↓reduceIte]))
     refine ⟨⟨by omega, htk4.swap.live⟩, ?_⟩
     try (simp [hw2])
     repeat (first | (refine sR ?_; simp [hw2]) | (refine sC ?_; simp [hw2]) | (refine sX ?_; simp only [AU, ↓reduceIte]))
     refine sE ?_
     refine ⟨⟨k + 1, _, _, _⟩, ⟨hlk, htk4.swap.app.swap.tail⟩, by simp only; omega, Weaks.mk htk4.swap.app.le rfl ?_ (by simp [BoxL, lk])⟩
     simp [ToL, lk, hs]
     refine to_snoc ?_ _
     simp [ints, AM.edges, xts]
  ·have : k = (choR ends n).length := by omega
   subst this
   rw [hnext]
   try (simp [hw])
   repeat (first | (refine sR ?_; simp [hw]) | (refine sC ?_; simp [hw]) | (refine sX ?_; simp only [AU, ↓reduceIte]))
   refine sE ?_
   exact ⟨⟨i + 1, _, _, _⟩, ⟨hlt, htk2⟩, by simp only; omega, Weaks.mk htk2.le rfl (by simp [ToL, lk]) (by simp [BoxL, lk])⟩
 ·have : i = P.length := by omega
  subst this
  try (simp)
  repeat (first | (refine sR ?_; simp) | (refine sC ?_; simp) | (refine sX ?_; simp only [AU, ↓reduceIte]))
  refine sN ?_
  refine AL.ret ?_
  try simp only [AU]
  have hend : grK s node ends P P.length [] [] 0 = P.flatMap (greP s node ends) := by simp [grK]
  rw [hend]
  exact ⟨by simp, Fin.data (av := .tup [.d (.sl 5 (rCo (P.flatMap (greP s node ends)))), I 0]) (by simp [resAs, resA]; rfl) hbox rfl htok htk.old htk.le (by simp [packA])⟩
def bdN (t : Ty) (i : Nat) : Bool := if (t.nd i).abs = true then true else leafB t (i : Int)
def bdS (s : Sd) : Bool := if 1 < s.low then false else decide (s.high ≤ 2)
def bdR (t : Ty) : Int := if tyE t ≠ 0 then tyE t else if (List.range t.nodes.length).all (bdN t) = false then 13 else if (sdsR t).all bdS = false then 6 else 0
def stBd1 (t : Ty) (nb : Nat) (box : Bxs) (tok : Tks) (nt : Nat) (i : Nat) : AState :=
 ⟨tl [(20, I i), (19, I t.nodes.length), (18, .d (nts t.nodes)), (1, .ptr (nb + 1) 0 0)], lb nb box [(1, [[.d (nts t.nodes), .d (ets t.edges)]])], tok, nt⟩
def stBd2 (t : Ty) (nb : Nat) (box : Bxs) (tok : Tks) (nt : Nat) (i : Nat) : AState :=
 ⟨tl [(38, I i), (37, I (sdsR t).length), (36, .d (sds (sdsR t))), (1, .ptr (nb + 1) 0 0)], lb nb box [(1, [[.d (nts t.nodes), .d (ets t.edges)]])], tok, nt⟩
theorem boundedP_c (t : Ty) (ht : t.Fit) (tok : Tks) (nt : Nat) : DCall Tryz.prog 99 [t.av] tok nt (I (bdR t)) tok nt := by
 intro box nb
 have hv := valid_c4 t ht ht.hM
 have hs := sidesP_c t ht
 have htn := ht.n
 have hte := ht.e
 obtain ⟨R, hR⟩ : ∃ R, bdR t = R := ⟨_, rfl⟩
 rw [hR]
 unfold bdR at hR
 refine sB Tryz.func99 Tryz.ntmps99 ?_
 intro hbox htok
 simp only at hbox htok
 apply AL.start
 try (simp)
 repeat (refine sR ?_; simp)
 refine Stop.of_d (hv _ _) ?_
 simp
 by_cases e0 : tyE t = 0
 ·rw [if_neg (by simp [e0])] at hR
  try (simp [e0])
  repeat (first | (refine sR ?_; simp [e0]) | (refine sC ?_; simp [e0]) | (refine sX ?_; simp only [AU, ↓reduceIte]))
  refine sN ?_
  refine AL.loopT (stBd1 t nb box tok nt) (fun i => i ≤ t.nodes.length ∧ ∀ j, j < i → bdN t j = true) (fun i => t.nodes.length - i) 0 ⟨Nat.zero_le _, fun j hj => absurd hj (Nat.not_lt_zero _)⟩ (Weaks.mk (Nat.le_refl _) rfl (by simp [ToL, lk]) (by simp [BoxL, lk])) ?_
  rintro i S ⟨hi, hall⟩ hS
  simp only [stBd1] at hS
  subst hS
  have hw := sW (i := i) (by omega)
  by_cases hlt : i < t.nodes.length
  ·have hl := leafK_c t (by omega) i
   have hnd : t.nd i = t.nodes[i] := by simp [Ty.nd, hlt]
   cases ea : t.nodes[i].abs
   ·have hb : bdN t i = leafB t (i : Int) := by unfold bdN; rw [hnd, ea]; simp
    try (simp [hlt, ea])
    repeat (first | (refine sR ?_; simp [hlt, ea]) | (refine sC ?_; simp [hlt, ea]) | (refine sX ?_; simp only [AU, ↓reduceIte]))
    refine Stop.of_d (hl _ _) ?_
    simp
    cases el : leafB t (i : Int)
    ·rw [el] at hb
     have : (List.range t.nodes.length).all (bdN t) = false := List.all_eq_false.2 ⟨i, List.mem_range.2 hlt, by simp [hb]⟩
     rw [if_pos this] at hR
     try (simp)
     repeat (first | (refine sR ?_; simp) | (refine sC ?_; simp) | (refine sX ?_; simp only [AU, ↓reduceIte]))
     refine sT ?_
     try simp only [AU]
     refine ⟨by simp, sF hbox htok (fun _ h => h) (Nat.le_refl _) ?_⟩
     simp [packA, hR]
    ·rw [el] at hb
     try (simp [hw])
     repeat (first | (refine sR ?_; simp [hw]) | (refine sC ?_; simp [hw]) | (refine sX ?_; simp only [AU, ↓reduceIte]))
     refine sE ?_
     exact ⟨i + 1, ⟨hlt, fun j hj => (Nat.lt_or_ge j i).elim (hall j) fun hh => by rw [show j = i by omega]; exact hb⟩, by omega, Weaks.mk (Nat.le_refl _) rfl (by simp [ToL, lk]) (by simp [BoxL, lk])⟩
   ·have hb : bdN t i = true := by unfold bdN; rw [hnd, ea]; simp
    try (simp [hlt, ea, hw])
    repeat (first | (refine sR ?_; simp [hlt, ea, hw]) | (refine sC ?_; simp [hlt, ea, hw]) | (refine sX ?_; simp only [AU, ↓reduceIte]))
    refine sE ?_
    exact ⟨i + 1, ⟨hlt, fun j hj => (Nat.lt_or_ge j i).elim (hall j) fun hh => by rw [show j = i by omega]; exact hb⟩, by omega, Weaks.mk (Nat.le_refl _) rfl (by simp [ToL, lk]) (by simp [BoxL, lk])⟩
  ·have : i = t.nodes.length := by omega
   subst this
   have : (List.range t.nodes.length).all (bdN t) = true := List.all_eq_true.2 fun j hj => hall j (List.mem_range.1 hj)
   rw [if_neg (by simp [this])] at hR
   try (simp)
   repeat (first | (refine sR ?_; simp) | (refine sC ?_; simp) | (refine sX ?_; simp only [AU, ↓reduceIte]))
   refine Stop.of_d (hs _ _) ?_
   simp
   try (simp)
   repeat (first | (refine sR ?_; simp) | (refine sC ?_; simp) | (refine sX ?_; simp only [AU, ↓reduceIte]))
   have hsl : (sdsR t).length ≤ 2000000 := by
    unfold sdsR
    rw [sdL_len (Nat.le_refl _)]
    omega
   refine sN ?_
   refine AL.loopT (stBd2 t nb box tok nt) (fun i => i ≤ (sdsR t).length ∧ ∀ j (h : j < (sdsR t).length), j < i → bdS (sdsR t)[j] = true) (fun i => (sdsR t).length - i) 0 ⟨Nat.zero_le _, fun j _ hj => absurd hj (Nat.not_lt_zero _)⟩ (Weaks.mk (Nat.le_refl _) rfl (by simp [ToL, lk]) (by simp [BoxL, lk])) ?_
   rintro i S ⟨hi, hall2⟩ hS
   simp only [stBd2] at hS
   subst hS
   have hw := sW (i := i) (by omega)
   by_cases hlt : i < (sdsR t).length
   ·by_cases l1 : 1 < (sdsR t)[i].low
    ·have hb : bdS (sdsR t)[i] = false := by unfold bdS; rw [if_pos l1]
     have : (sdsR t).all bdS = false := List.all_eq_false.2 ⟨_, List.getElem_mem hlt, by simp [hb]⟩
     rw [if_pos this] at hR
     try (simp [hlt, l1])
     repeat (first | (refine sR ?_; simp [hlt, l1]) | (refine sC ?_; simp [hlt, l1]) | (refine sX ?_; simp only [AU, ↓reduceIte]))
     refine sT ?_
     try simp only [AU]
     refine ⟨by simp, sF hbox htok (fun _ h => h) (Nat.le_refl _) ?_⟩
     simp [packA, hR]
    ·by_cases l2 : 2 < (sdsR t)[i].high
     ·have hb : bdS (sdsR t)[i] = false := by unfold bdS; rw [if_neg l1]; simp; omega
      have : (sdsR t).all bdS = false := List.all_eq_false.2 ⟨_, List.getElem_mem hlt, by simp [hb]⟩
      rw [if_pos this] at hR
      try (simp [hlt, l1, l2])
      repeat (first | (refine sR ?_; simp [hlt, l1, l2]) | (refine sC ?_; simp [hlt, l1, l2]) | (refine sX ?_; simp only [AU, ↓reduceIte]))
      refine sT ?_
      try simp only [AU]
      refine ⟨by simp, sF hbox htok (fun _ h => h) (Nat.le_refl _) ?_⟩
      simp [packA, hR]
     ·have hb : bdS (sdsR t)[i] = true := by unfold bdS; rw [if_neg l1]; simp; omega
      try (simp [hlt, l1, l2, hw])
      repeat (first | (refine sR ?_; simp [hlt, l1, l2, hw]) | (refine sC ?_; simp [hlt, l1, l2, hw]) | (refine sX ?_; simp only [AU, ↓reduceIte]))
      refine sE ?_
      exact ⟨i + 1, ⟨hlt, fun j h hj => (Nat.lt_or_ge j i).elim (hall2 j h) fun hh => by simp only [show j = i by omega]; exact hb⟩, by omega, Weaks.mk (Nat.le_refl _) rfl (by simp [ToL, lk]) (by simp [BoxL, lk])⟩
   ·have : i = (sdsR t).length := by omega
    subst this
    have : (sdsR t).all bdS = true := by
     rw [List.all_eq_true]
     intro x hx
     obtain ⟨j, hj, rfl⟩ := List.getElem_of_mem hx
     exact hall2 j hj hj
    rw [if_neg (by simp [this])] at hR
    try (simp)
    repeat (first | (refine sR ?_; simp) | (refine sC ?_; simp) | (refine sX ?_; simp only [AU, ↓reduceIte]))
    refine sT ?_
    try simp only [AU]
    refine ⟨by simp, sF hbox htok (fun _ h => h) (Nat.le_refl _) ?_⟩
    simp [packA, hR]
 ·rw [if_pos e0] at hR
  have b : (tyE t != 0) = true := by simp [e0]
  try (simp [b])
  repeat (first | (refine sR ?_; simp [b]) | (refine sC ?_; simp [b]) | (refine sX ?_; simp only [AU, ↓reduceIte]))
  refine sT ?_
  try simp only [AU]
  refine ⟨by simp, sF hbox htok (fun _ h => h) (Nat.le_refl _) ?_⟩
  simp [packA, hR]
end Go.AM
namespace Go.Proofs
open Go.Shelf
def Tryz.lays171_ren : Go.Shelf.Ren := ⟨fun | 171 => 106 | 243 => 177 | 246 => 238 | 283 => 279 | 284 => 280 | 285 => 281 | 286 => 282 | 129 => 276 | 317 => 300 | 318 => 301 | 319 => 302 | 320 => 303 | 337 => 313 | 338 => 314 | n => n, fun | 3 => 3 | 9 => 9 | 2 => 2 | 4 => 4 | 171 => 353 | 0 => 0 | 53 => 352 | 37 => 66 | 5 => 5 | 173 => 355 | 212 => 375 | 51 => 283 | 20 => 20 | 213 => 376 | 46 => 310 | 232 => 385 | 233 => 386 | n => n, fun | 17 => 3 | 18 => 5 | 19 => 6 | n => n⟩
theorem Tryz.lays171 : Go.Proofs.Lays.n171 Tryz.prog Tryz.lays171_ren := {
 mixed := by kernel_rfl
 f129 := Tryz.func276.trans (congrArg some (by kernel_rfl))
 f171 := Tryz.func106.trans (congrArg some (by kernel_rfl))
 f243 := Tryz.func177.trans (congrArg some (by kernel_rfl))
 f246 := Tryz.func238.trans (congrArg some (by kernel_rfl))
 f283 := Tryz.func279.trans (congrArg some (by kernel_rfl))
 f284 := Tryz.func280.trans (congrArg some (by kernel_rfl))
 f285 := Tryz.func281.trans (congrArg some (by kernel_rfl))
 f286 := Tryz.func282.trans (congrArg some (by kernel_rfl))
 f317 := Tryz.func300.trans (congrArg some (by kernel_rfl))
 f318 := Tryz.func301.trans (congrArg some (by kernel_rfl))
 f319 := Tryz.func302.trans (congrArg some (by kernel_rfl))
 f320 := Tryz.func303.trans (congrArg some (by kernel_rfl))
 f337 := Tryz.func313.trans (congrArg some (by kernel_rfl))
 f338 := Tryz.func314.trans (congrArg some (by kernel_rfl))
 t0 := Tryz.underlying0
 a0 := Tryz.isAgg0
 z0 := Tryz.sizeOf0
 v0 := Tryz.zeroValue0
 t2 := Tryz.underlying2
 a2 := Tryz.isAgg2
 z2 := Tryz.sizeOf2
 v2 := Tryz.zeroValue2
 t3 := Tryz.underlying3
 a3 := Tryz.isAgg3
 z3 := Tryz.sizeOf3
 v3 := Tryz.zeroValue3
 t4 := Tryz.underlying4
 a4 := Tryz.isAgg4
 z4 := Tryz.sizeOf4
 v4 := Tryz.zeroValue4
 t5 := Tryz.underlying5
 a5 := Tryz.isAgg5
 z5 := Tryz.sizeOf5
 v5 := Tryz.zeroValue5
 t9 := Tryz.underlying9
 a9 := Tryz.isAgg9
 z9 := Tryz.sizeOf9
 v9 := Tryz.zeroValue9
 t20 := Tryz.underlying20
 a20 := Tryz.isAgg20
 z20 := Tryz.sizeOf20
 v20 := Tryz.zeroValue20
 t37 := Tryz.underlying66
 a37 := Tryz.isAgg66
 z37 := Tryz.sizeOf66
 v37 := Tryz.zeroValue66
 t46 := Tryz.underlying310
 a46 := Tryz.isAgg310
 z46 := Tryz.sizeOf310
 v46 := Tryz.zeroValue310
 t51 := Tryz.underlying283
 a51 := Tryz.isAgg283
 z51 := Tryz.sizeOf283
 v51 := Tryz.zeroValue283
 t53 := Tryz.underlying352
 a53 := Tryz.isAgg352
 z53 := Tryz.sizeOf352
 v53 := Tryz.zeroValue352
 t171 := Tryz.underlying353
 a171 := Tryz.isAgg353
 z171 := Tryz.sizeOf353
 v171 := Tryz.zeroValue353
 t173 := Tryz.underlying355
 a173 := Tryz.isAgg355
 z173 := Tryz.sizeOf355
 v173 := Tryz.zeroValue355
 t212 := Tryz.underlying375
 a212 := Tryz.isAgg375
 z212 := Tryz.sizeOf375
 v212 := Tryz.zeroValue375
 t213 := Tryz.underlying376
 a213 := Tryz.isAgg376
 z213 := Tryz.sizeOf376
 t232 := Tryz.underlying385
 a232 := Tryz.isAgg385
 z232 := Tryz.sizeOf385
 v232 := Tryz.zeroValue385
 t233 := Tryz.underlying386
 a233 := Tryz.isAgg386
 z233 := Tryz.sizeOf386
 v233 := Tryz.zeroValue386
 g17 := by kernel_rfl
 g18 := by kernel_rfl
 g19 := by kernel_rfl }
open Go.RowKit Go.Sort Go.Lib in
theorem Tryz.strconv_Itoa_small (i : Nat) (hi : i < 100) (w : World) :
  Calls Tryz.prog 106 #[.int .i64 i] w fun e w' => e = .returned (.string ⟨(Lib.decDigits i).toArray⟩) ∧ w' = w := Any.strconv_Itoa_small Tryz.lays171 i hi w
end Go.Proofs
namespace Go.AM
open Go Go.Proofs
def dgB (i : Nat) : ByteArray := ⟨(Lib.decDigits i).toArray⟩
theorem dgB_size {i : Nat} (h : i < 100) : (dgB i).size ≤ 2 := by
 unfold dgB
 by_cases h1 : i < 10
 ·rw [Lib.decDigits_one h1]; exact Nat.le_succ _
 ·rw [Lib.decDigits_two h1 h]; exact Nat.le_refl _
theorem itoaD_c (i : Nat) (h : i < 100) (tok : Tks) (nt : Nat) : DCall Tryz.prog 106 [I i] tok nt (Sb (dgB i)) tok nt := by
 intro box nb
 refine ⟨Enters.mk Tryz.func106 rfl (by kernel_rfl), fun G w vals hm hr => ?_⟩
 obtain ⟨hlen, hrv⟩ := hr
 match vals, hlen with
 | [v], _ =>
  have h0 := hrv 0 (by simp) (by simp)
  simp only [List.getElem_cons_zero] at h0
  cases h0 with | d h0 =>
  cases h0
  refine (Tryz.strconv_Itoa_small i h w).mono ?_
  rintro e w' ⟨rfl, rfl⟩
  exact ⟨_, _, _, G, rfl, ⟨rfl, rfl⟩, rfl, hm, .d (.raw rfl), Le.refl _ _, fun k hk => ⟨hk, rfl⟩⟩
end Go.AM
namespace Go.AM
open Go Go.Proofs
def mulLo (s : Sd) (node : Int) (ends : List Int) (out : List Co) : Option (List Co) := if s.low = 1 then (if 6 < ends.length then none else some (out ++ [lstC s node ends])) else some out
def mulHi (s : Sd) (node : Int) (ends : List Int) (out : List Co) : List Co := if 0 ≤ s.high then out ++ greL s node ends else out
def mulOk (t : Ty) (s : Sd) (node : Nat) : Bool := if leafB t (node : Int) = true then tIs t (node : Int) s.near else false
def mulN (t : Ty) (s : Sd) (node : Nat) (out : List Co) : Option (List Co) :=
 if mulOk t s node = true then (match mulLo s node (endsR t s node) out with
  | none => none
  | some o => if 100 < (mulHi s node (endsR t s node) o).length then none else some (mulHi s node (endsR t s node) o))
 else some out
def mulT (t : Ty) (s : Sd) : Nat → Nat → List Co → Option (List Co)
 | _, 0, out => some out
 | i, n + 1, out => match mulN t s i out with | none => none | some o => mulT t s (i + 1) n o
def mulS (t : Ty) : List Sd → List Co → Option (List Co)
 | [], out => some out
 | s :: l, out => match mulT t s 0 t.nodes.length out with | none => none | some o => mulS t l o
def mulR0 (t : Ty) : Option (List Co) := mulS t (sdsR t) []
def nmC (c : Co) (i : Nat) : Co := { c with name := ⟨#[109]⟩ ++ dgB i }
def nmL (l : List Co) (k : Nat) : List Co := (List.range l.length).map fun j => if j < k then nmC (l.getD j ⟨⟨#[]⟩, 0, ⟨[], []⟩, []⟩) j else l.getD j ⟨⟨#[]⟩, 0, ⟨[], []⟩, []⟩
def mulR (t : Ty) : List Co × Int := if bdR t ≠ 0 then ([], bdR t) else match mulR0 t with | none => ([], 3) | some l => (nmL l l.length, 0)
theorem greL_len (s : Sd) (node : Int) (ends : List Int) (hn : ends.length ≤ 100) (h0 : 0 ≤ s.high) (h2 : s.high ≤ 2) : (greL s node ends).length ≤ 6000000 := by
 have h : greL s node ends = grK s node ends (partsN (s.high.toNat + 1)) (partsN (s.high.toNat + 1)).length [] [] 0 := by simp [greL, grK]
 rw [h]
 refine grK_len hn ?_ (fun p hp => ?_) (by simp)
 ·have : s.high.toNat = 0 ∨ s.high.toNat = 1 ∨ s.high.toNat = 2 := by omega
  rcases this with h | h | h <;> rw [h] <;> decide
 ·have := partsN_len _ p hp
  omega
structure MuX where
 i : Nat
 out : List Co
 tk : Nat
 tok : Nat → Bool
 nt : Nat
def mulX1 (t : Ty) (S : List Sd) (nb : Nat) (box : Bxs) (x : MuX) : AState :=
 ⟨tl [(22, I x.i), (21, I S.length), (20, .d (sds S)), (5, .stk x.tk 5 (rCo x.out)), (1, .ptr (nb + 1) 0 0)], lb nb box [(1, [[.d (nts t.nodes), .d (ets t.edges)]])], x.tok, x.nt⟩
def mulX2 (t : Ty) (S : List Sd) (i : Nat) (s : Sd) (nb : Nat) (box : Bxs) (x : MuX) : AState :=
 ⟨tl [(29, I x.i), (28, I t.nodes.length), (7, .ptr (nb + 7) 0 0), (22, I i), (21, I S.length), (20, .d (sds S)), (5, .stk x.tk 5 (rCo x.out)), (1, .ptr (nb + 1) 0 0)], lb nb box [(7, [[I s.k, B s.o, I s.near, I s.far, I s.low, I s.high]]), (1, [[.d (nts t.nodes), .d (ets t.edges)]])], x.tok, x.nt⟩
theorem nmL_len (l : List Co) (k : Nat) : (nmL l k).length = l.length := by simp [nmL]
def mulX3 (out : List Co) (Z : List (List AV)) (nb : Nat) (box : Bxs) (tok : Tks) (nt : Nat) (k : Nat) : AState :=
 ⟨tl [(86, I k), (85, I out.length), (5, .msl (nb + 7) 0 out.length 5)], lb nb box [(7, rowsD (rCo (nmL out k)) ++ Z)], tok, nt⟩
theorem nmL_zero (l : List Co) : nmL l 0 = l := by
 refine List.ext_getElem (by simp [nmL]) fun i h1 h2 => ?_
 simp [nmL, h2]
theorem nmL0 {l : List Co} : rCo l = rCo (nmL l 0) := by rw [nmL_zero]
theorem mul_rt {p q : Nat → Prop} {fz : Option (Nat × Nat × List (List D))} {a b : List (List D)} {m : Nat} {Z : List (List AV)} (h : a = b) (hZ : List.replicate m (List.replicate 5 AV.bot) = Z) : RowsTo p q fz (rowsD a ++ Z) (rowsD b ++ Z) := by
 subst h
 refine rowsTo_same fun r hr x hx => ?_
 rcases List.mem_append.1 hr with hr | hr
 ·obtain ⟨e, _, rfl⟩ := List.mem_map.1 hr
  obtain ⟨d, _, rfl⟩ := List.mem_map.1 hx
  exact .d
 ·rw [← hZ] at hr
  rw [List.eq_of_mem_replicate hr] at hx
  rw [List.eq_of_mem_replicate hx]
  exact .bot
theorem nmL_set {l : List Co} {k : Nat} (h : k < l.length) : (nmL l k).set k (nmC l[k] k) = nmL l (k + 1) := by
 refine List.ext_getElem (by simp [nmL]) fun i a b => ?_
 have hi : i < l.length := by simpa [nmL] using a
 rw [List.getElem_set]
 simp only [nmL, List.getElem_map, List.getElem_range]
 by_cases e : k = i
 ·subst e
  rw [if_pos rfl, if_pos (Nat.lt_succ_self _)]
  simp [hi]
 ·rw [if_neg e]
  by_cases h2 : i < k
  ·rw [if_pos h2, if_pos (show i < k + 1 by omega)]
  ·rw [if_neg h2, if_neg (show ¬ i < k + 1 by omega)]
theorem nmL_row {l : List Co} {k : Nat} (h : k < l.length) (Z : List (List AV)) : (rowsD (rCo (nmL l k)) ++ Z)[k]? = some [Sb l[k].name, I l[k].kind, .d (ints l[k].g.nodes), .d (AM.edges l[k].g.edges), .d (xts l[k].exts)] := by
 have hk : k < (nmL l k).length := by rw [nmL_len]; exact h
 have hg : (nmL l k)[k] = l[k] := by simp [nmL, h]
 rw [List.getElem?_append_left (by simp; exact hk)]
 simp [rowsD, hk, hg]
theorem nmL_put {l : List Co} {k : Nat} (h : k < l.length) (Z : List (List AV)) : (rowsD (rCo (nmL l k)) ++ Z).set k [Sb (⟨#[109]⟩ ++ dgB k), I l[k].kind, .d (ints l[k].g.nodes), .d (AM.edges l[k].g.edges), .d (xts l[k].exts)] = rowsD (rCo (nmL l (k + 1))) ++ Z := by
 have hk : k < (nmL l k).length := by rw [nmL_len]; exact h
 rw [List.set_append_left _ _ (by simp; exact hk), ← nmL_set h]
 simp [rowsD, List.map_set, nmC]
def mulRest (t : Ty) (s : Sd) (l : List Sd) (j n : Nat) (out : List Co) : Option (List Co) := match mulT t s j n out with | none => none | some o => mulS t l o
set_option maxRecDepth 100000 in
theorem multP_c (t : Ty) (ht : t.Fit) (tok : Tks) (nt : Nat) (box : Bxs) (nb : Nat) : ACalls Tryz.prog 45 [t.av] ⟨box, nb, tok, nt⟩ fun v m => m = ⟨box, nb, tok, nt⟩ ∧ (v = .tup [.d (.sl 5 (rCo (mulR t).1)), I (mulR t).2] ∨ (mulR t).1 = [] ∧ v = .tup [.osl 0 [] .full, I (mulR t).2]) := by
 have hb := boundedP_c t ht
 have hs := sidesP_c t ht
 have htn := ht.n
 refine sB Tryz.func45 Tryz.ntmps45 ?_
 intro hbox htok
 simp only at hbox htok
 apply AL.start
 try (simp)
 repeat (refine sR ?_; simp)
 refine Stop.of_d (hb _ _) ?_
 simp
 by_cases e0 : bdR t = 0
 ·have hR : mulR t = match mulR0 t with | none => ([], 3) | some l => (nmL l l.length, 0) := by unfold mulR; rw [if_neg (by simp [e0])]
  have hbd : ∀ s ∈ sdsR t, s.low ≤ 1 ∧ s.high ≤ 2 := by
   unfold bdR at e0
   split at e0
   ·rename_i e; exact absurd e0 e
   ·split at e0
    ·cases e0
    ·split at e0
     ·cases e0
     ·rename_i h
      intro s hs
      have := List.all_eq_true.1 (by simpa using h) s hs
      unfold bdS at this
      split at this
      ·cases this
      ·simp at this; omega
  have hn12 : t.nodes.length ≤ 12 := by
   unfold bdR at e0
   split at e0
   ·rename_i e; exact absurd e0 e
   ·rename_i e
    have e : tyE t = 0 := by simpa using e
    unfold tyE at e
    split at e
    ·cases e
    ·split at e
     ·cases e
     ·omega
  have h0 : mulS t ((sdsR t).drop 0) [] = mulR0 t := rfl
  have hSl : (sdsR t).length ≤ 2000000 := by
   unfold sdsR
   rw [sdL_len (Nat.le_refl _)]
   have := ht.e
   omega
  obtain ⟨R, hRR⟩ : ∃ R, mulR0 t = R := ⟨_, rfl⟩
  rw [hRR] at hR h0
  try (simp [e0])
  repeat (first | (refine sR ?_; simp [e0]) | (refine sC ?_; simp [e0]) | (refine sX ?_; simp only [AU, ↓reduceIte]))
  refine Stop.of_d (hs _ _) ?_
  simp
  generalize sdsR t = S at *
  try (simp)
  repeat (first | (refine sR ?_; simp) | (refine sC ?_; simp) | (refine sX ?_; simp only [AU, ↓reduceIte]))
  refine sN ?_
  refine AL.weak (Weaks.mk (l' := [(22, I 0), (21, I S.length), (20, .d (sds S)), (5, .osl 0 [] .full), (1, .ptr (nb + 1) 0 0)]) (loc' := [(1, [[.d (nts t.nodes), .d (ets t.edges)]])]) (Nat.le_refl _) rfl (by simp [ToL, lk]) (by simp [BoxL, lk])) ?_
  refine AL.trans (Trans.opn (l' := [(22, I 0), (21, I S.length), (20, .d (sds S)), (5, .stk nt 5 []), (1, .ptr (nb + 1) 0 0)]) (loc' := [(1, [[.d (nts t.nodes), .d (ets t.edges)]])]) 5 (by simp [CvL]) (by simp [CvB]; exact cvRs_same (fun _ => .same) _)) ?_
  have htk0 := (TK.start htok).full.app
  refine AL.loopT (mulX1 t S nb box) (fun x => x.i ≤ S.length ∧ mulS t (S.drop x.i) x.out = R ∧ x.out.length ≤ 100 ∧ TK tok nt x.tok x.nt [.tok x.tk]) (fun x => S.length - x.i) ⟨0, [], nt, upd tok nt true, nt + 1⟩ ⟨Nat.zero_le _, h0, by simp, htk0⟩ (Weaks.mk (Nat.le_succ _) rfl (by simp [ToL, lk]) (by simp [BoxL, lk])) ?_
  rintro ⟨i, out, tk, tok', nt'⟩ X ⟨hi, hout, hol, htk⟩ hS
  simp only [mulX1] at hS hi hout hol htk
  subst hS
  have hw := sW (i := i) (by omega)
  by_cases hlt : i < S.length
  ·obtain ⟨hlo, hhi⟩ := hbd _ (List.getElem_mem hlt)
   have hout : mulRest t S[i] (S.drop (i + 1)) 0 t.nodes.length out = R := by
    rw [← hout, List.drop_eq_getElem_cons hlt]
    rfl
   try (simp [hlt])
   repeat (first | (refine sR ?_; simp [hlt]) | (refine sC ?_; simp [hlt]) | (refine sX ?_; simp only [AU, ↓reduceIte]))
   refine sN ?_
   generalize S[i] = s at *
   refine AL.loopT (mulX2 t S i s nb box) (fun x => x.i ≤ t.nodes.length ∧ mulRest t s (S.drop (i + 1)) x.i (t.nodes.length - x.i) x.out = R ∧ x.out.length ≤ 100 ∧ TK tok nt x.tok x.nt [.tok x.tk]) (fun x => t.nodes.length - x.i) ⟨0, out, tk, tok', nt'⟩ ⟨Nat.zero_le _, hout, hol, htk⟩ (Weaks.mk htk.le rfl (by simp [ToL, lk]) (by simp [BoxL, lk])) ?_
   rintro ⟨j, out2, tk2, tok2, nt2⟩ X ⟨hj, hout2, hol2, htk2⟩ hS
   simp only [mulX2] at hS hj hout2 hol2 htk2
   subst hS
   have hwj := sW (i := j) (by omega)
   by_cases hlj : j < t.nodes.length
   ·have hout2 : (match mulN t s j out2 with | none => none | some o => mulRest t s (S.drop (i + 1)) (j + 1) (t.nodes.length - (j + 1)) o) = R := by
     rw [← hout2, mulRest, show t.nodes.length - j = (t.nodes.length - (j + 1)) + 1 by omega, mulT]
     cases mulN t s j out2 <;> rfl
    have hl := leafK_c t (by omega) j
    have hi := isT_c t ht j s.near
    have he := endsP_c t ht s j
    have hel := endsN_len t s j t.nodes.length
    have hel2 : (endsR t s j).length ≤ 13 := by unfold endsR; omega
    have hle := leastP_c s j (endsR t s j) (by omega)
    have skip : mulOk t s j = false → mulRest t s (S.drop (i + 1)) (j + 1) (t.nodes.length - (j + 1)) out2 = R := by
     intro h
     rw [← hout2, mulN, if_neg (by simp [h])]
    unfold mulOk at skip
    try (simp [hlj])
    repeat (first | (refine sR ?_; simp [hlj]) | (refine sC ?_; simp [hlj]) | (refine sX ?_; simp only [AU, ↓reduceIte]))
    refine Stop.of_d (hl _ _) ?_
    simp
    cases e1 : leafB t (j : Int)
    ·have skip := skip (by simp [e1])
     try (simp [hwj])
     repeat (first | (refine sR ?_; simp [hwj]) | (refine sC ?_; simp [hwj]) | (refine sX ?_; simp only [AU, ↓reduceIte]))
     refine sE ?_
     exact ⟨⟨j + 1, out2, tk2, tok2, nt2⟩, ⟨hlj, skip, hol2, htk2⟩, by simp only; omega, Weaks.mk htk2.le rfl (by simp [ToL, lk]) (by simp [BoxL, lk])⟩
    ·try (simp)
     repeat (first | (refine sR ?_; simp) | (refine sC ?_; simp) | (refine sX ?_; simp only [AU, ↓reduceIte]))
     refine Stop.of_d (hi _ _) ?_
     simp
     cases e2 : tIs t (j : Int) s.near
     ·have skip := skip (by simp [e1, e2])
      try (simp [hwj])
      repeat (first | (refine sR ?_; simp [hwj]) | (refine sC ?_; simp [hwj]) | (refine sX ?_; simp only [AU, ↓reduceIte]))
      refine sE ?_
      exact ⟨⟨j + 1, out2, tk2, tok2, nt2⟩, ⟨hlj, skip, hol2, htk2⟩, by simp only; omega, Weaks.mk htk2.le rfl (by simp [ToL, lk]) (by simp [BoxL, lk])⟩
     ·have hgo : mulOk t s j = true := by unfold mulOk; rw [if_pos e1, e2]
      rw [mulN, if_pos hgo] at hout2
      clear skip
      try (simp)
      repeat (first | (refine sR ?_; simp) | (refine sC ?_; simp) | (refine sX ?_; simp only [AU, ↓reduceIte]))
      refine Stop.of_d (he _ _) ?_
      simp
      generalize endsR t s j = ends at *
      by_cases h1 : s.low = 1
      ·have b1 : (s.low == 1) = true := by simp [h1]
       have hml : mulLo s j ends out2 = if 6 < ends.length then none else some (out2 ++ [lstC s j ends]) := by unfold mulLo; rw [if_pos h1]
       rw [hml] at hout2
       have hex : (lstC s j ends).exts.length = ends.length := by simp [lstC]
       generalize lstC s j ends = lc at *
       try (simp [b1])
       repeat (first | (refine sR ?_; simp [b1]) | (refine sC ?_; simp [b1]) | (refine sX ?_; simp only [AU, ↓reduceIte]))
       refine Stop.of_d (hle _ _) ?_
       simp
       by_cases h6 : 6 < ends.length
       ·rw [if_pos h6] at hout2
        have b6 : (6 : Int) < (ends.length : Int) := by omega
        try (simp [hex, b6])
        repeat (first | (refine sR ?_; simp [hex, b6]) | (refine sC ?_; simp [hex, b6]) | (refine sX ?_; simp only [AU, ↓reduceIte]))
        refine sN ?_
        refine AL.ret ?_
        try simp only [AU]
        exact ⟨by simp, (Fin.data (av := .tup [.osl 0 [] .full, I 3]) (by simp [resAs, resA]; rfl) hbox rfl htok htk2.old htk2.le (by simp [packA])).mono fun v m hq => ⟨hq.2, .inr (by rw [hR, ← hout2]; exact ⟨rfl, hq.1⟩)⟩⟩
       ·rw [if_neg h6] at hout2
        simp only at hout2
        have b6 : ¬ (6 : Int) < (ends.length : Int) := by omega
        try (simp [hex, b6])
        repeat (first | (refine sR ?_; simp [hex, b6]) | (refine sC ?_; simp [hex, b6]) | (refine sX ?_; simp only [AU, ↓reduceIte]))
        refine ⟨⟨by omega, htk2.live⟩, ?_⟩
        have htk3 := htk2.app
        by_cases hh : 0 ≤ s.high
        ·have hgr := greatestP_c s j ends (by omega) hh hhi
         have hmh : mulHi s j ends ((out2 ++ [lc])) = (out2 ++ [lc]) ++ greL s j ends := by unfold mulHi; rw [if_pos hh]
         have hgl := greL_len s j ends (by omega) hh hhi
         rw [hmh] at hout2
         generalize greL s j ends = gl at *
         try (simp [hh])
         repeat (first | (refine sR ?_; simp [hh]) | (refine sC ?_; simp [hh]) | (refine sX ?_; simp only [AU, ↓reduceIte]))
         refine Stop.of_d (hgr _ _) ?_
         simp
         try (simp)
         repeat (first | (refine sR ?_; simp) | (refine sC ?_; simp) | (refine sX ?_; simp only [AU, ↓reduceIte]))
         refine ⟨⟨by omega, htk3.live⟩, ?_⟩
         have htk9 := htk3.app
         obtain ⟨O, hO⟩ : ∃ O, (out2 ++ [lc]) ++ gl = O := ⟨_, rfl⟩
         rw [hO] at hout2
         refine AL.weak (Weaks.mk (l' := [(5, .stk (nt2 + 1) 5 (rCo O)), (29, I j), (28, I t.nodes.length), (7, .ptr (nb + 7) 0 0), (22, I i), (21, I S.length), (20, .d (sds S)), (1, .ptr (nb + 1) 0 0)]) (loc' := [(7, [[I s.k, B s.o, I s.near, I s.far, I s.low, I s.high]]), (1, [[.d (nts t.nodes), .d (ets t.edges)]])]) htk9.le rfl (by simp [ToL, lk, ← hO]) (by simp [BoxL, lk])) ?_
         by_cases hb : 100 < O.length
         ·have bb : (100 : Int) < (O.length : Int) := by omega
          rw [if_pos hb] at hout2
          try (simp [bb])
          repeat (first | (refine sR ?_; simp [bb]) | (refine sC ?_; simp [bb]) | (refine sX ?_; simp only [AU, ↓reduceIte]))
          refine sN ?_
          refine AL.ret ?_
          try simp only [AU]
          exact ⟨by simp, (Fin.data (av := .tup [.osl 0 [] .full, I 3]) (by simp [resAs, resA]; rfl) hbox rfl htok htk9.old htk9.le (by simp [packA])).mono fun v m hq => ⟨hq.2, .inr (by rw [hR, ← hout2]; exact ⟨rfl, hq.1⟩)⟩⟩
         ·have bb : ¬ (100 : Int) < (O.length : Int) := by omega
          rw [if_neg hb] at hout2
          try (simp [bb, hwj])
          repeat (first | (refine sR ?_; simp [bb, hwj]) | (refine sC ?_; simp [bb, hwj]) | (refine sX ?_; simp only [AU, ↓reduceIte]))
          refine sE ?_
          exact ⟨⟨j + 1, O, (nt2 + 1), _, _⟩, ⟨hlj, hout2, by simp only; omega, htk9⟩, by simp only; omega, Weaks.mk htk9.le rfl (by simp [ToL, lk]) (by simp [BoxL, lk])⟩
        ·have hmh : mulHi s j ends ((out2 ++ [lc])) = (out2 ++ [lc]) := by unfold mulHi; rw [if_neg hh]
         rw [hmh] at hout2
         refine sR ?_
         simp [hh]
         refine sC ?_
         simp
         refine sN ?_
         obtain ⟨O, hO⟩ : ∃ O, (out2 ++ [lc]) = O := ⟨_, rfl⟩
         rw [hO] at hout2
         refine AL.weak (Weaks.mk (l' := [(5, .stk nt2 5 (rCo O)), (29, I j), (28, I t.nodes.length), (7, .ptr (nb + 7) 0 0), (22, I i), (21, I S.length), (20, .d (sds S)), (1, .ptr (nb + 1) 0 0)]) (loc' := [(7, [[I s.k, B s.o, I s.near, I s.far, I s.low, I s.high]]), (1, [[.d (nts t.nodes), .d (ets t.edges)]])]) htk3.le rfl (by simp [ToL, lk, ← hO]) (by simp [BoxL, lk])) ?_
         by_cases hb : 100 < O.length
         ·have bb : (100 : Int) < (O.length : Int) := by omega
          rw [if_pos hb] at hout2
          try (simp [bb])
          repeat (first | (refine sR ?_; simp [bb]) | (refine sC ?_; simp [bb]) | (refine sX ?_; simp only [AU, ↓reduceIte]))
          refine sN ?_
          refine AL.ret ?_
          try simp only [AU]
          exact ⟨by simp, (Fin.data (av := .tup [.osl 0 [] .full, I 3]) (by simp [resAs, resA]; rfl) hbox rfl htok htk3.old htk3.le (by simp [packA])).mono fun v m hq => ⟨hq.2, .inr (by rw [hR, ← hout2]; exact ⟨rfl, hq.1⟩)⟩⟩
         ·have bb : ¬ (100 : Int) < (O.length : Int) := by omega
          rw [if_neg hb] at hout2
          try (simp [bb, hwj])
          repeat (first | (refine sR ?_; simp [bb, hwj]) | (refine sC ?_; simp [bb, hwj]) | (refine sX ?_; simp only [AU, ↓reduceIte]))
          refine sE ?_
          exact ⟨⟨j + 1, O, nt2, _, _⟩, ⟨hlj, hout2, by simp only; omega, htk3⟩, by simp only; omega, Weaks.mk htk3.le rfl (by simp [ToL, lk]) (by simp [BoxL, lk])⟩
      ·have b1 : (s.low == 1) = false := by simp [h1]
       have hml : mulLo s j ends out2 = some out2 := by unfold mulLo; rw [if_neg h1]
       rw [hml] at hout2
       simp only at hout2
       refine sR ?_
       simp [b1]
       refine sC ?_
       simp
       refine sN ?_
       by_cases hh : 0 ≤ s.high
       ·have hgr := greatestP_c s j ends (by omega) hh hhi
        have hmh : mulHi s j ends (out2) = out2 ++ greL s j ends := by unfold mulHi; rw [if_pos hh]
        have hgl := greL_len s j ends (by omega) hh hhi
        rw [hmh] at hout2
        generalize greL s j ends = gl at *
        try (simp [hh])
        repeat (first | (refine sR ?_; simp [hh]) | (refine sC ?_; simp [hh]) | (refine sX ?_; simp only [AU, ↓reduceIte]))
        refine Stop.of_d (hgr _ _) ?_
        simp
        try (simp)
        repeat (first | (refine sR ?_; simp) | (refine sC ?_; simp) | (refine sX ?_; simp only [AU, ↓reduceIte]))
        refine ⟨⟨by omega, htk2.live⟩, ?_⟩
        have htk9 := htk2.app
        obtain ⟨O, hO⟩ : ∃ O, out2 ++ gl = O := ⟨_, rfl⟩
        rw [hO] at hout2
        refine AL.weak (Weaks.mk (l' := [(5, .stk nt2 5 (rCo O)), (29, I j), (28, I t.nodes.length), (7, .ptr (nb + 7) 0 0), (22, I i), (21, I S.length), (20, .d (sds S)), (1, .ptr (nb + 1) 0 0)]) (loc' := [(7, [[I s.k, B s.o, I s.near, I s.far, I s.low, I s.high]]), (1, [[.d (nts t.nodes), .d (ets t.edges)]])]) htk9.le rfl (by simp [ToL, lk, ← hO]) (by simp [BoxL, lk])) ?_
        by_cases hb : 100 < O.length
        ·have bb : (100 : Int) < (O.length : Int) := by omega
         rw [if_pos hb] at hout2
         try (simp [bb])
         repeat (first | (refine sR ?_; simp [bb]) | (refine sC ?_; simp [bb]) | (refine sX ?_; simp only [AU, ↓reduceIte]))
         refine sN ?_
         refine AL.ret ?_
         try simp only [AU]
         exact ⟨by simp, (Fin.data (av := .tup [.osl 0 [] .full, I 3]) (by simp [resAs, resA]; rfl) hbox rfl htok htk9.old htk9.le (by simp [packA])).mono fun v m hq => ⟨hq.2, .inr (by rw [hR, ← hout2]; exact ⟨rfl, hq.1⟩)⟩⟩
        ·have bb : ¬ (100 : Int) < (O.length : Int) := by omega
         rw [if_neg hb] at hout2
         try (simp [bb, hwj])
         repeat (first | (refine sR ?_; simp [bb, hwj]) | (refine sC ?_; simp [bb, hwj]) | (refine sX ?_; simp only [AU, ↓reduceIte]))
         refine sE ?_
         exact ⟨⟨j + 1, O, nt2, _, _⟩, ⟨hlj, hout2, by simp only; omega, htk9⟩, by simp only; omega, Weaks.mk htk9.le rfl (by simp [ToL, lk]) (by simp [BoxL, lk])⟩
       ·have hmh : mulHi s j ends (out2) = out2 := by unfold mulHi; rw [if_neg hh]
        rw [hmh] at hout2
        refine sR ?_
        simp [hh]
        refine sC ?_
        simp
        refine sN ?_
        obtain ⟨O, hO⟩ : ∃ O, out2 = O := ⟨_, rfl⟩
        rw [hO] at hout2
        refine AL.weak (Weaks.mk (l' := [(5, .stk tk2 5 (rCo O)), (29, I j), (28, I t.nodes.length), (7, .ptr (nb + 7) 0 0), (22, I i), (21, I S.length), (20, .d (sds S)), (1, .ptr (nb + 1) 0 0)]) (loc' := [(7, [[I s.k, B s.o, I s.near, I s.far, I s.low, I s.high]]), (1, [[.d (nts t.nodes), .d (ets t.edges)]])]) htk2.le rfl (by simp [ToL, lk, ← hO]) (by simp [BoxL, lk])) ?_
        by_cases hb : 100 < O.length
        ·have bb : (100 : Int) < (O.length : Int) := by omega
         rw [if_pos hb] at hout2
         try (simp [bb])
         repeat (first | (refine sR ?_; simp [bb]) | (refine sC ?_; simp [bb]) | (refine sX ?_; simp only [AU, ↓reduceIte]))
         refine sN ?_
         refine AL.ret ?_
         try simp only [AU]
         exact ⟨by simp, (Fin.data (av := .tup [.osl 0 [] .full, I 3]) (by simp [resAs, resA]; rfl) hbox rfl htok htk2.old htk2.le (by simp [packA])).mono fun v m hq => ⟨hq.2, .inr (by rw [hR, ← hout2]; exact ⟨rfl, hq.1⟩)⟩⟩
        ·have bb : ¬ (100 : Int) < (O.length : Int) := by omega
         rw [if_neg hb] at hout2
         try (simp [bb, hwj])
         repeat (first | (refine sR ?_; simp [bb, hwj]) | (refine sC ?_; simp [bb, hwj]) | (refine sX ?_; simp only [AU, ↓reduceIte]))
         refine sE ?_
         exact ⟨⟨j + 1, O, tk2, _, _⟩, ⟨hlj, hout2, by simp only; omega, htk2⟩, by simp only; omega, Weaks.mk htk2.le rfl (by simp [ToL, lk]) (by simp [BoxL, lk])⟩
   ·have : j = t.nodes.length := by omega
    subst this
    have hout3 : mulS t (S.drop (i + 1)) out2 = R := by
     rw [← hout2, mulRest, Nat.sub_self, mulT]
    try (simp [hw])
    repeat (first | (refine sR ?_; simp [hw]) | (refine sC ?_; simp [hw]) | (refine sX ?_; simp only [AU, ↓reduceIte]))
    refine sE ?_
    exact ⟨⟨i + 1, out2, tk2, tok2, nt2⟩, ⟨hlt, hout3, hol2, htk2⟩, by simp only; omega, Weaks.mk htk2.le rfl (by simp [ToL, lk]) (by simp [BoxL, lk])⟩
  ·have : i = S.length := by omega
   subst this
   have hR2 : mulR t = (nmL out out.length, 0) := by
    rw [hR, ← hout, List.drop_length]
    rfl
   try (simp)
   repeat (first | (refine sR ?_; simp) | (refine sC ?_; simp) | (refine sX ?_; simp only [AU, ↓reduceIte]))
   by_cases hne : out = []
   ·subst hne
    refine AL.stkD tk htk.live ?_
    simp only [List.map_cons, List.map_nil, AV.sdT, ↓reduceIte]
    refine sN ?_
    refine AL.loopT (fun _ : Nat => ⟨tl [(86, I 0), (85, I 0), (5, .d (.sl 5 []))], lb nb box [], upd tok' tk false, nt'⟩) (fun _ => True) (fun k => k) 0 trivial (Weaks.mk htk.le rfl (by simp [ToL, lk]) (by simp [BoxL, lk])) ?_
    rintro k X _ hS
    subst hS
    try (simp)
    repeat (first | (refine sR ?_; simp) | (refine sC ?_; simp) | (refine sX ?_; simp only [AU, ↓reduceIte]))
    refine sT ?_
    try simp only [AU]
    exact ⟨by simp, (Fin.data (av := .tup [.d (.sl 5 []), I 0]) (by simp [resAs, resA]; rfl) hbox rfl htok htk.spend.old htk.le (by simp [packA])).mono fun v m hq => ⟨hq.2, .inl (by rw [hR2, hq.1]; rfl)⟩⟩
   ·refine AL.thawS (l' := [(86, I 0), (85, I out.length), (84, .msl (nb + 7) 0 out.length 5), (23, .bot), (22, .bot), (21, .bot), (20, .bot), (5, .msl (nb + 7) 0 out.length 5), (1, .bot)]) (loc' := [(1, [[.d (nts t.nodes), .d (ets t.edges)]])]) tk 7 5 (rCo out) 5 rfl (show (7 : Nat) < 98 by decide) rfl htk.live (by simpa using hne) rfl ?_ ?_ ?_
    ·simp [CvL]
    ·exact ⟨rfl, cvRs_same (fun _ => .same) _, trivial⟩
    intro m
    generalize hRm : List.replicate m (List.replicate 5 AV.bot) = Z
    have hbt := htk.spend
    refine sN ?_
    refine AL.loopT (mulX3 out Z nb box (upd tok' tk false) nt') (fun k => k ≤ out.length) (fun k => out.length - k) 0 (Nat.zero_le _) (Weaks.mk htk.le rfl (by simp [ToL, lk, lb_at]) (by simp only [BoxL, lk_cons, ↓reduceIte, and_true]; exact ⟨_, rfl, mul_rt nmL0 hRm⟩)) ?_
    rintro k X hk hS
    simp only [mulX3] at hS
    subst hS
    have hwk := sW (i := k) (by omega)
    by_cases hlk : k < out.length
    ·have hit := itoaD_c k (by omega)
     have hsz := dgB_size (i := k) (by omega)
     have hget := nmL_row hlk Z
     have hput := nmL_put hlk Z
     try (simp [hlk])
     repeat (first | (refine sR ?_; simp [hlk]) | (refine sC ?_; simp [hlk]) | (refine sX ?_; simp only [AU, ↓reduceIte]))
     refine Stop.of_d (hit _ _) ?_
     simp [hget, hput]
     refine ⟨by have h1 : (⟨#[109]⟩ : ByteArray).size = 1 := rfl; omega, ?_⟩
     try refine ⟨hlk, ?_⟩
     try (simp [hget, hput, hwk])
     repeat (first | (refine sR ?_; simp [hget, hput, hwk]) | (refine sC ?_; simp [hget, hput, hwk]) | (refine sX ?_; simp only [AU, ↓reduceIte]))
     refine sE ?_
     exact ⟨k + 1, hlk, by omega, Weaks.mk htk.le rfl (by simp [ToL, lk, lb_at]) (by simp only [BoxL, lk_cons, ↓reduceIte, and_true]; exact ⟨_, rfl, mul_rt rfl hRm⟩)⟩
    ·have : k = out.length := by omega
     subst this
     have hll := nmL_len out out.length
     generalize nmL out out.length = F at *
     try (simp)
     repeat (first | (refine sR ?_; simp) | (refine sC ?_; simp) | (refine sX ?_; simp only [AU, ↓reduceIte]))
     refine AL.weak (Weaks.mk (l' := [(3, I 0), (2, .msl (nb + 7) 0 out.length 5)]) (loc' := [(7, rowsD (rCo F) ++ Z)]) htk.le rfl (by simp [ToL, lk, lb_at]) (by simp only [BoxL, lk_cons, ↓reduceIte, and_true]; exact ⟨_, rfl, mul_rt rfl hRm⟩)) ?_
     refine AL.trans (Trans.sealD (l' := [(3, I 0), (2, .d (.sl 5 (rCo F)))]) (loc := []) (loc' := []) 7 5 (rCo F) Z 2 rfl (fun e he => by obtain ⟨c, _, rfl⟩ := List.mem_map.1 he; rfl) (by simp [tl_cons, hll]) rfl ⟨rfl, .same (by simp), rfl, by have := @SpTo.msl (nb + 7) 5 (rCo F); rw [List.length_map, hll] at this; exact this, trivial⟩ trivial) ?_
     refine sN ?_
     refine AL.ret ?_
     try simp only [AU]
     exact ⟨by simp, (Fin.data (av := .tup [.d (.sl 5 (rCo F)), I 0]) (by simp [resAs, resA]; rfl) hbox rfl htok hbt.old htk.le (by simp [packA])).mono fun v m hq => ⟨hq.2, .inl (by rw [hR2, hq.1])⟩⟩
 ·have hR : mulR t = ([], bdR t) := by unfold mulR; rw [if_pos e0]
  have b : (bdR t != 0) = true := by simp [e0]
  try (simp [b])
  repeat (first | (refine sR ?_; simp [b]) | (refine sC ?_; simp [b]) | (refine sX ?_; simp only [AU, ↓reduceIte]))
  refine sN ?_
  refine AL.ret ?_
  try simp only [AU]
  exact ⟨by simp, (Fin.data (av := .tup [.osl 0 [] .full, I (bdR t)]) (by simp [resAs, resA]; rfl) hbox rfl htok (fun _ h => h) (Nat.le_refl _) (by simp [packA])).mono fun v m hq => ⟨hq.2, .inr ⟨by rw [hR], by rw [hR, hq.1]⟩⟩⟩
end Go.AM
namespace Go.AM
open Go Go.Proofs
def oneC : Co := ⟨⟨#[111, 110, 101]⟩, 1, ⟨[3, 3, 1], [⟨0, 0, 2⟩, ⟨0, 1, 2⟩]⟩, []⟩
def oneG : Gr := ⟨[3, 1, 1], [⟨0, 0, 1⟩, ⟨0, 0, 2⟩]⟩
def oneH : Gr := ⟨[3, 1, 1, 3], [⟨0, 0, 1⟩, ⟨0, 0, 2⟩, ⟨0, 3, 1⟩]⟩
theorem aw42a : (vioS exT oneC oneG fun _ => true).2 = 0 ∧ (vioS exT oneC oneG fun _ => true).1.length = 0 := by decide +kernel
theorem aw42b : (vioS exT oneC oneH fun _ => true).2 = 0 ∧ (vioS exT oneC oneH fun _ => true).1.length = 2 := by decide +kernel
theorem aw42c : (mulR exT).2 = 0 ∧ (mulR exT).1.length = 6 := by decide +kernel
theorem aw42d : cnE exT oneC = 0 := by decide +kernel
theorem oneC_fit : oneC.Fit := ⟨by decide, ⟨by decide, by decide⟩, by decide, by simp [oneC]⟩
set_option maxRecDepth 100000 in
theorem awake42_c (tok : Tks) (nt : Nat) : DCall Tryz.prog 12 [] tok nt (B true) tok nt := by
 intro box nb
 have hE := example04_c
 have h1 := violationsK_c exT exT_fit oneC oneC_fit oneG ⟨by decide, by decide⟩ (fun _ => true) (fun h => absurd rfl h)
 have h2 := violationsK_c exT exT_fit oneC oneC_fit oneH ⟨by decide, by decide⟩ (fun _ => true) (fun h => absurd rfl h)
 have h3 := multP_c exT exT_fit
 have h4 := validK_c exT exT_fit oneC oneC_fit
 obtain ⟨a1, a2⟩ := aw42a
 obtain ⟨b1, b2⟩ := aw42b
 obtain ⟨c1, c2⟩ := aw42c
 rw [aw42d] at h4
 generalize vioS exT oneC oneG (fun _ => true) = L at *
 generalize vioS exT oneC oneH (fun _ => true) = M at *
 generalize mulR exT = U at *
 refine sB Tryz.func12 Tryz.ntmps12 ?_
 intro hbox htok
 simp only at hbox htok
 apply AL.start
 try (simp)
 repeat (refine sR ?_; simp)
 refine Stop.of_d (hE _ _) ?_
 simp
 try (simp)
 repeat (first | (refine sR ?_; simp) | (refine sC ?_; simp) | (refine sX ?_; simp only [AU, ↓reduceIte]))
 try refine ⟨rfl, ?_⟩
 try (simp)
 repeat (first | (refine sR ?_; simp) | (refine sC ?_; simp) | (refine sX ?_; simp only [AU, ↓reduceIte]))
 try refine ⟨rfl, ?_⟩
 try (simp)
 repeat (first | (refine sR ?_; simp) | (refine sC ?_; simp) | (refine sX ?_; simp only [AU, ↓reduceIte]))
 try refine ⟨rfl, ?_⟩
 try (simp)
 repeat (first | (refine sR ?_; simp) | (refine sC ?_; simp) | (refine sX ?_; simp only [AU, ↓reduceIte]))
 try refine ⟨rfl, ?_⟩
 try (simp)
 repeat (first | (refine sR ?_; simp) | (refine sC ?_; simp) | (refine sX ?_; simp only [AU, ↓reduceIte]))
 try refine ⟨rfl, ?_⟩
 try (simp)
 repeat (first | (refine sR ?_; simp) | (refine sC ?_; simp) | (refine sX ?_; simp only [AU, ↓reduceIte]))
 try refine ⟨rfl, ?_⟩
 try (simp)
 repeat (first | (refine sR ?_; simp) | (refine sC ?_; simp) | (refine sX ?_; simp only [AU, ↓reduceIte]))
 refine Stop.sub (args' := [exT.av, oneC.av, oneG.av]) ⟨Sub.refl _, Sub.agg ⟨Sub.refl _, Sub.refl _, Sub.data _ _ _, Sub.data _ _ _, Sub.nil _ _ _, trivial⟩, Sub.agg ⟨Sub.data _ _ _, Sub.data _ _ _, trivial⟩, trivial⟩ ?_
 refine Stop.of_d (h1 _ _) ?_
 try (simp)
 repeat (first | (refine sR ?_; simp) | (refine sC ?_; simp) | (refine sX ?_; simp only [AU, ↓reduceIte]))
 refine Stop.sub (args' := [exT.av, oneC.av, oneH.av]) ⟨Sub.refl _, Sub.agg ⟨Sub.refl _, Sub.refl _, Sub.data _ _ _, Sub.data _ _ _, Sub.nil _ _ _, trivial⟩, Sub.agg ⟨Sub.data _ _ _, Sub.data _ _ _, trivial⟩, trivial⟩ ?_
 refine Stop.of_d (h2 _ _) ?_
 try (simp)
 repeat (first | (refine sR ?_; simp) | (refine sC ?_; simp) | (refine sX ?_; simp only [AU, ↓reduceIte]))
 refine Stop.of_a (h3 _ _ _ _) ?_
 rintro v m' ⟨rfl, rfl | ⟨e, rfl⟩⟩
 ·try (simp [a1, a2, b1, b2, c1, c2])
  repeat (first | (refine sR ?_; simp [a1, a2, b1, b2, c1, c2]) | (refine sC ?_; simp [a1, a2, b1, b2, c1, c2]) | (refine sX ?_; simp only [AU, ↓reduceIte]))
  refine Stop.sub (args' := [exT.av, oneC.av]) ⟨Sub.refl _, Sub.agg ⟨Sub.refl _, Sub.refl _, Sub.data _ _ _, Sub.data _ _ _, Sub.nil _ _ _, trivial⟩, trivial⟩ ?_
  refine Stop.of_d (h4 _ _) ?_
  try (simp)
  repeat (first | (refine sR ?_; simp) | (refine sC ?_; simp) | (refine sX ?_; simp only [AU, ↓reduceIte]))
  refine sT ?_
  try simp only [AU]
  refine ⟨by simp, sF hbox htok (fun t ht => by have := htok t ht; rw [upd_other _ _ (by omega), upd_other _ _ (by omega)]; exact ht) (by omega) ?_⟩
  simp [packA, packA]
 ·rw [e] at c2
  cases c2
end Go.AM
namespace Go.AM
open Go Go.Proofs
theorem fewM_fit2 {m : Mo} (h : fewM m 140 = true) : m.Fit := by
 simp [fewM] at h
 exact ⟨by omega, by omega⟩
end Go.AM
namespace Go.AM
open Go Go.ChangeShapes
variable {P : Program}
def Rd (w : World) (cs : List Value) (ds : List D) : Prop := cs.length = ds.length ∧ ∀ i (h1 : i < cs.length) (h2 : i < ds.length), RVd w.cell? (fun _ => True) ds[i] cs[i]
theorem Rd.append {w : World} {cs cs' : List Value} {ds ds' : List D} (h : Rd w cs ds) (k : Rd w cs' ds') : Rd w (cs ++ cs') (ds ++ ds') := by
 refine ⟨by simp [h.1, k.1], fun i h1 h2 => ?_⟩
 by_cases hi : i < cs.length
 ·rw [List.getElem_append_left hi, List.getElem_append_left (by rw [← h.1]; exact hi)]
  exact h.2 i hi _
 ·have hl := h.1
  rw [List.getElem_append_right (by omega), List.getElem_append_right (by omega)]
  have := k.2 (i - cs.length) (by simp at h1; omega) (by have := k.1; simp at h1; omega)
  simpa [hl] using this
theorem Rd.one {w : World} {c : Value} {d : D} (h : RVd w.cell? (fun _ => True) d c) : Rd w [c] [d] := ⟨rfl, fun i h1 h2 => by
 have : i = 0 := by simpa using h1
 subst this
 exact h⟩
def Light {H : Type} (P : Program) (T : TypeId) (d : DataW H) : Prop := (d.weights P T).all (· ≤ reachBytes) = true
structure Rdr (P : Program) (T : TypeId) (α : Type) where
 enc : α → List D
 ok : α → Prop
 len : ∀ x, (enc x).length = P.cellsOf T
 sound : ∀ {H : Type} (e : TypeId × Value → H) (w : World) (base : Nat) (spare : Nat → Bool) (held : Bool) (fuel : Nat) (cs : List Value) (x : DataW H × List MemPlace),
  DataW.trod e P w base spare held fuel T cs = some x → ∃ y, Rd w cs (enc y) ∧ (Light P T x.1 → ok y)
def Rdr.int {T : TypeId} {k : IntKind} (h : P.underlying T = some (.int k)) (hc : P.cellsOf T = 1) : Rdr P T Int where
 enc n := [.raw (.int k n)]
 ok n := (Lit.int k n).wf = true
 len _ := by simp [hc]
 sound e w base spare held fuel cs x hx := by
  cases fuel with
  | zero => simp [DataW.trod] at hx
  | succ n =>
   unfold DataW.trod at hx
   rw [h] at hx
   split at hx <;> simp_all
   rename_i k' n' _
   exact ⟨n', Rd.one (.raw rfl), fun _ => hx.1.2⟩
theorem cells_spec {w : World} {base : Nat} {a : Addr} {n : Nat} {l : List Value} (h : w.cells? base a n = some l) : l.length = n ∧ ∀ i (hi : i < l.length), w.cell? (a.add i) = some l[i] := by
 unfold World.cells? at h
 split at h
 ·have h1 : l.length = n := by have := mapM_some_length h; simpa using this
  refine ⟨h1, fun i hi => ?_⟩
  have hin : i < n := by omega
  have := mapM_some_get h i i (by simp [hin])
  rw [this]
  exact List.getElem?_eq_getElem hi
 ·cases h
theorem light_slice {H : Type} {T E : TypeId} (h : P.underlying T = some (.slice E)) {elems rest : List (DataW H)} (hl : Light P T (.slice elems rest)) : elems.length * P.bytesOf E ≤ reachBytes ∧ ∀ d ∈ elems, Light P E d := by
 unfold Light at hl ⊢
 simp only [DataW.weights, h, List.all_cons, List.all_append, Bool.and_eq_true, decide_eq_true_eq] at hl
 refine ⟨Nat.le_trans (Nat.mul_le_mul_right _ (Nat.le_add_right _ _)) hl.1, ?_⟩
 have key : ∀ l : List (DataW H), (DataW.weightsAll P E l).all (· ≤ reachBytes) = true → ∀ d ∈ l, (d.weights P E).all (· ≤ reachBytes) = true := by
  intro l
  induction l with
  | nil => intro _ d hd; simp at hd
  | cons x l ih =>
   intro hx d hd
   simp only [DataW.weightsAll, List.all_append, Bool.and_eq_true] at hx
   rcases List.mem_cons.1 hd with rfl | hd
   ·exact hx.1
   ·exact ih hx.2 d hd
 exact key elems hl.2.1
def Rdr.slice {T E : TypeId} {α : Type} (r : Rdr P E α) (h : P.underlying T = some (.slice E)) (hc : P.cellsOf T = 1) : Rdr P T (List α) where
 enc l := [.sl (P.cellsOf E) (l.map r.enc)]
 ok l := (∀ x ∈ l, r.ok x) ∧ l.length * P.bytesOf E ≤ reachBytes
 len _ := by simp [hc]
 sound e w base spare held fuel cs x hx := by
  rcases DataW.trod_slice h hx with ⟨rfl, rfl⟩ | ⟨a, len, cap, elems, rest, n, rfl, rfl, rfl, hb, hl, hm, hel, hat, _⟩
  ·exact ⟨[], Rd.one (.sl (es := []) (fun _ _ => default) (Nat.le_refl _) (by decide) (by simp) (by simp) (by simp) (by simp)), fun _ => ⟨by simp, by simp⟩⟩
  ·have key : ∀ i (hi : i < elems.length), ∃ cs y, cs.length = P.cellsOf E ∧ (∀ j (hj : j < cs.length), w.cell? (a.add (i * P.cellsOf E + j)) = some cs[j]) ∧ Rd w cs (r.enc y) ∧ (Light P E elems[i].1 → r.ok y) := by
    intro i hi
    have h1 := hat i (by omega)
    have h2 : elems[i]? = some elems[i] := List.getElem?_eq_getElem hi
    rw [h2, Option.bind_eq_some_iff] at h1
    obtain ⟨cs, hcs, htr⟩ := h1
    obtain ⟨hcl, hcc⟩ := cells_spec hcs
    obtain ⟨y, hy, hok⟩ := r.sound e w base spare held n cs _ htr
    refine ⟨cs, y, hcl, fun j hj => ?_, hy, hok⟩
    rw [← Addr.add_add]
    exact hcc j hj
   have pick : ∀ m, m ≤ elems.length → ∃ ys : List α, ys.length = m ∧ (∀ i (hi : i < ys.length) (hi2 : i < elems.length), ∃ cs, cs.length = P.cellsOf E ∧ (∀ j (hj : j < cs.length), w.cell? (a.add (i * P.cellsOf E + j)) = some cs[j]) ∧ Rd w cs (r.enc ys[i]) ∧ (Light P E elems[i].1 → r.ok ys[i])) := by
    intro m
    induction m with
    | zero => intro _; exact ⟨[], rfl, fun i hi => by simp at hi⟩
    | succ m ih =>
     intro hm'
     obtain ⟨ys, hys, hall⟩ := ih (by omega)
     obtain ⟨cs, y, g1, g2, g3, g4⟩ := key m (by omega)
     refine ⟨ys ++ [y], by simp [hys], fun i hi hi2 => ?_⟩
     by_cases him : i < ys.length
     ·rw [List.getElem_append_left him]
      exact hall i him hi2
     ·have : i = m := by simp at hi; omega
      subst this
      have e1 : (ys ++ [y])[i] = y := by
       rw [List.getElem_append_right (by omega)]
       simp
      rw [e1]
      exact ⟨cs, g1, g2, g3, g4⟩
   obtain ⟨ys, hys, hall⟩ := pick elems.length (Nat.le_refl _)
   refine ⟨ys, Rd.one ?_, fun hli => ?_⟩
   ·have hlen : len = ys.length := by omega
    subst hlen
    have hml : ys.length = (ys.map r.enc).length := by simp
    rw [hml]
    refine .sl (fun i j => (w.cell? (a.add (i * P.cellsOf E + j))).getD default) (by simpa using hl) hm (fun e he => ?_) (fun _ => ⟨a, rfl⟩) (fun a' ha' i j hi hj => ?_) (fun i j hi hj => ?_)
    ·obtain ⟨y, _, rfl⟩ := List.mem_map.1 he
     exact r.len y
    ·cases ha'
     obtain ⟨cs, g1, g2, _⟩ := hall i (by simpa using hi) (by simp at hi; omega)
     rw [g2 j (by omega)]
     exact ⟨trivial, rfl⟩
    ·obtain ⟨cs, g1, g2, g3, _⟩ := hall i (by simpa using hi) (by simp at hi; omega)
     simp only [List.getElem_map] at hj ⊢
     have hjc : j < cs.length := by rw [g3.1]; exact hj
     rw [g2 j hjc]
     exact g3.2 j hjc hj
   ·obtain ⟨w1, w2⟩ := light_slice h hli
    refine ⟨fun y hy => ?_, by simpa [hys] using w1⟩
    obtain ⟨i, hi, rfl⟩ := List.getElem_of_mem hy
    obtain ⟨_, _, _, _, h4⟩ := hall i hi (by omega)
    exact h4 (w2 _ (List.mem_map.2 ⟨_, List.getElem_mem _, rfl⟩))
def Rdr.map {T : TypeId} {α β : Type} (r : Rdr P T α) (f : α → β) (enc : β → List D) (ok : β → Prop) (he : ∀ x, enc (f x) = r.enc x) (hok : ∀ x, r.ok x → ok (f x)) (hl : ∀ y, (enc y).length = P.cellsOf T) : Rdr P T β where
 enc := enc
 ok := ok
 len := hl
 sound e w base spare held fuel cs x hx := by
  obtain ⟨y, h1, h2⟩ := r.sound e w base spare held fuel cs x hx
  exact ⟨f y, by rw [he]; exact h1, fun hl => hok y (h2 hl)⟩
def Rdr.sliceN {T E : TypeId} {α : Type} (r : Rdr P E α) (n : Nat) (h : P.underlying T = some (.slice E)) (hc : P.cellsOf T = 1) (hn : P.cellsOf E = n) : Rdr P T (List α) where
 enc l := [.sl n (l.map r.enc)]
 ok l := (∀ x ∈ l, r.ok x) ∧ l.length * P.bytesOf E ≤ reachBytes
 len _ := by simp [hc]
 sound := by
  subst hn
  exact (Rdr.slice r h hc).sound
theorem list2 {α : Type} {l : List α} (h : l.length = 2) : l = [l[0]'(by omega), l[1]'(by omega)] := by
 match l, h with
 | [p, q], _ => rfl
theorem list3 {α : Type} {l : List α} (h : l.length = 3) : l = [l[0]'(by omega), l[1]'(by omega), l[2]'(by omega)] := by
 match l, h with
 | [p, q, r], _ => rfl
def Rdr.struct2 {T A B : TypeId} {α β : Type} (r : Rdr P A α) (s : Rdr P B β) {f0 f1 : Field} (h : P.underlying T = some (.struct #[f0, f1])) (hA : f0.type = A) (hB : f1.type = B) (h0 : f0.offset = 0) (h1 : f1.offset = P.cellsOf A)
  (hc : P.cellsOf T = P.cellsOf A + P.cellsOf B) : Rdr P T (α × β) where
 enc x := r.enc x.1 ++ s.enc x.2
 ok x := r.ok x.1 ∧ s.ok x.2
 len x := by simp [r.len, s.len, hc]
 sound e w base spare held fuel cs x hx := by
  obtain ⟨xs, n, rfl, rfl, hl, hxs, hat⟩ := DataW.trod_struct h hx
  have hxs' : xs.length = 2 := hxs
  have g0 := hat 0 f0 rfl
  have g1 := hat 1 f1 rfl
  have e0 : xs[0]? = some (xs[0]'(by omega)) := List.getElem?_eq_getElem (by omega)
  have e1 : xs[1]? = some (xs[1]'(by omega)) := List.getElem?_eq_getElem (by omega)
  rw [e0, h0, hA] at g0
  rw [e1, h1, hB] at g1
  obtain ⟨y, k1, k2⟩ := r.sound e w base spare held n _ _ g0
  obtain ⟨z, m1, m2⟩ := s.sound e w base spare held n _ _ g1
  refine ⟨(y, z), ?_, fun hli => ?_⟩
  rotate_left
  ·unfold Light at hli k2 m2
   have e2 : xs = [xs[0]'(by omega), xs[1]'(by omega)] := list2 hxs'
   rw [e2] at hli
   simp only [List.map_cons, List.map_nil, DataW.weights, h, DataW.weightsEach, hA, hB, List.all_append, Bool.and_eq_true] at hli
   exact ⟨k2 hli.1, m2 hli.2.1⟩
  have hcs : cs = (cs.drop 0).take (P.cellsOf A) ++ (cs.drop (P.cellsOf A)).take (P.cellsOf B) := by
   have : (cs.drop (P.cellsOf A)).take (P.cellsOf B) = cs.drop (P.cellsOf A) := List.take_of_length_le (by simp; omega)
   rw [this, List.drop_zero, List.take_append_drop]
  rw [hcs]
  exact k1.append m1
def Rdr.struct3 {T A B C : TypeId} {α β γ : Type} (r : Rdr P A α) (s : Rdr P B β) (t : Rdr P C γ) {f0 f1 f2 : Field} (h : P.underlying T = some (.struct #[f0, f1, f2])) (hA : f0.type = A) (hB : f1.type = B) (hC : f2.type = C)
  (h0 : f0.offset = 0) (h1 : f1.offset = P.cellsOf A) (h2 : f2.offset = P.cellsOf A + P.cellsOf B) (hc : P.cellsOf T = P.cellsOf A + P.cellsOf B + P.cellsOf C) : Rdr P T (α × β × γ) where
 enc x := r.enc x.1 ++ (s.enc x.2.1 ++ t.enc x.2.2)
 ok x := r.ok x.1 ∧ s.ok x.2.1 ∧ t.ok x.2.2
 len x := by simp [r.len, s.len, t.len, hc]; omega
 sound e w base spare held fuel cs x hx := by
  obtain ⟨xs, n, rfl, rfl, hl, hxs, hat⟩ := DataW.trod_struct h hx
  have hxs' : xs.length = 3 := hxs
  have g0 := hat 0 f0 rfl
  have g1 := hat 1 f1 rfl
  have g2 := hat 2 f2 rfl
  have e0 : xs[0]? = some (xs[0]'(by omega)) := List.getElem?_eq_getElem (by omega)
  have e1 : xs[1]? = some (xs[1]'(by omega)) := List.getElem?_eq_getElem (by omega)
  have e2 : xs[2]? = some (xs[2]'(by omega)) := List.getElem?_eq_getElem (by omega)
  rw [e0, h0, hA] at g0
  rw [e1, h1, hB] at g1
  rw [e2, h2, hC] at g2
  obtain ⟨y, k1, k2⟩ := r.sound e w base spare held n _ _ g0
  obtain ⟨z, m1, m2⟩ := s.sound e w base spare held n _ _ g1
  obtain ⟨q, p1, p2⟩ := t.sound e w base spare held n _ _ g2
  refine ⟨(y, z, q), ?_, fun hli => ?_⟩
  rotate_left
  ·unfold Light at hli k2 m2 p2
   have e2 : xs = [xs[0]'(by omega), xs[1]'(by omega), xs[2]'(by omega)] := list3 hxs'
   rw [e2] at hli
   simp only [List.map_cons, List.map_nil, DataW.weights, h, DataW.weightsEach, hA, hB, hC, List.all_append, Bool.and_eq_true] at hli
   exact ⟨k2 hli.1, m2 hli.2.1, p2 hli.2.2.1⟩
  have hcs : cs = (cs.drop 0).take (P.cellsOf A) ++ ((cs.drop (P.cellsOf A)).take (P.cellsOf B) ++ (cs.drop (P.cellsOf A + P.cellsOf B)).take (P.cellsOf C)) := by
   have : (cs.drop (P.cellsOf A + P.cellsOf B)).take (P.cellsOf C) = cs.drop (P.cellsOf A + P.cellsOf B) := List.take_of_length_le (by simp; omega)
   rw [this, ← List.drop_drop, List.take_append_drop, List.drop_zero, List.take_append_drop]
  rw [hcs]
  exact k1.append (m1.append p1)
def G0 : Gh := ⟨fun _ => none, fun _ => none, fun _ => .whole, 0⟩
def m0 : AMem := ⟨fun _ => none, 0, fun _ => false, 0⟩
theorem G0_ps (a : Addr) : G0.ps a := trivial
theorem relM_start (W : World) : RelM G0 m0 W := by
 constructor
 case box => intro k rows b sz h; cases h
 case nobox => intro k _; rfl
 case inj => intro k k' b sz sz' h; cases h
 case nb => intro k _; rfl
 case nt => rfl
 case toks => intro t h; cases h
 case tokb => intro t g h; cases h
 case tinj => intro t t' g h; cases h
 case tnt => intro t x h; cases h
 case fresh => intro b _; rfl
theorem RVd.start {W : World} {d : D} {v : Value} (h : RVd W.cell? (fun _ => True) d v) : RVd W.cell? G0.ps d v := h.mono fun a u _ hc => ⟨G0_ps a, hc⟩
theorem Rdr.agg {T : TypeId} {α : Type} (r : Rdr P T α) {W : World} {base base' : Nat} {sp : Nat → Bool} {held : Bool} {H : Type} {enc : TypeId × Value → H} {v : Value} {d : DataW H} {p : List MemPlace}
  (hs : aggT P T = some true) (hv : Value.okWide P W .any base T v) (h : DataW.Trod enc P W base' sp held T v d p) (hli : Light P T d) : ∃ y, r.ok y ∧ RV G0 W (.agg ((r.enc y).map .d)) v := by
 have hcs : ∃ cs, v = .agg cs := by
  unfold aggT at hs
  unfold Value.okWide at hv
  cases hu : P.underlying T with
  | none => rw [hu] at hs; simp at hs
  | some u =>
   rw [hu] at hs hv
   cases u <;> simp at hs hv <;> exact ⟨_, hv.choose_spec.1⟩
 obtain ⟨cs, rfl⟩ := hcs
 obtain ⟨fuel, h⟩ := h
 obtain ⟨y, ⟨h1, h2⟩, hok⟩ := r.sound enc W base' sp held fuel _ _ h
 refine ⟨y, hok hli, ?_⟩
 simp only [Value.cells] at h1 h2
 have := RV.agg (G := G0) (w := W) (cs := (r.enc y).map .d) (vs := cs.toList) (by simp [h1]) (fun i g1 g2 => by
  simp only [List.getElem_map]
  exact .d (h2 i g2 (by simpa using g1)).start) (fun v hv => by
  obtain ⟨i, hi, rfl⟩ := List.getElem_of_mem hv
  exact (h2 i hi (by omega)).one)
 simpa using this
theorem Rdr.cell {T : TypeId} {α : Type} (r : Rdr P T α) {W : World} {base base' : Nat} {sp : Nat → Bool} {held : Bool} {H : Type} {enc : TypeId × Value → H} {v : Value} {d : DataW H} {p : List MemPlace} (f : α → D)
  (hs : aggT P T = some false) (hf : ∀ y, r.enc y = [f y]) (hv : Value.okWide P W .any base T v) (h : DataW.Trod enc P W base' sp held T v d p) (hli : Light P T d) : ∃ y, r.ok y ∧ RV G0 W (.d (f y)) v := by
 obtain ⟨fuel, h⟩ := h
 obtain ⟨y, ⟨h1, h2⟩, hok⟩ := r.sound enc W base' sp held fuel _ _ h
 refine ⟨y, hok hli, ?_⟩
 rw [hf] at h1
 have hcs : v.cells.toList = [v] := by
  cases v with
  | agg cs =>
   exfalso
   unfold aggT at hs
   unfold Value.okWide Cell.okWide Cell.ok at hv
   cases hu : P.underlying T with
   | none => rw [hu] at hs; simp at hs
   | some u =>
    rw [hu] at hs hv
    cases u <;> simp_all
  | _ => rfl
 have := h2 0 (by rw [h1]; simp) (by rw [hf]; simp)
 simp only [hf, List.getElem_cons_zero] at this
 have e : v.cells.toList[0]'(by rw [h1]; simp) = v := by simp [hcs]
 rw [e] at this
 exact .d this.start
theorem light_arg {H : Type} {ts : List TypeId} {ds : List (DataW H)} (hz : (DataW.weightsEach P ts ds).all (· ≤ reachBytes) = true) {j : Nat} {T : TypeId} {d : DataW H} (ht : ts[j]? = some T) (hd : ds[j]? = some d) : Light P T d :=
 List.all_eq_true.2 fun x hx => List.all_eq_true.1 hz x (DataW.weights_mem_each ht hd x hx)
theorem arg_agg {ps : Array TypeId} {args : Array Value} {W : World} {base base' : Nat} {sp : Nat → Bool} {held : Bool} {H : Type} {enc : TypeId × Value → H} (hval : ∀ (j : Nat) t v, ps[j]? = some t → args[j]? = some v → Value.okWide P W .any base t v)
  (j : Nat) (T : TypeId) (v : Value) (hp : ps[j]? = some T) (ha : args[j]? = some v) {α : Type} (r : Rdr P T α) {d : DataW H} {p : List MemPlace} (hs : aggT P T = some true) (h : DataW.Trod enc P W base' sp held T v d p) (hli : Light P T d) :
  ∃ y, r.ok y ∧ RV G0 W (.agg ((r.enc y).map .d)) v := r.agg hs (hval j T v hp ha) h hli
theorem le_old {W W' : World} {G' : Gh} (h : Le G0 W G' W') (b : Nat) (hb : b < W.heap.size) : W'.heap[b]? = W.heap[b]? := (h.whole b hb rfl).2
theorem le_kept {W W' : World} {G' : Gh} (h : Le G0 W G' W') (may : MemPlace → Prop) : W.keptBut W' may := by
 refine ⟨h.os, h.output, fun i hi => ?_⟩
 rw [le_old h i hi]
 split
 ·rename_i c t fr c' t' fr' e1 e2
  rw [e1] at e2
  cases e2
  exact ⟨rfl, rfl, rfl, fun _ _ => rfl⟩
 ·rename_i e1 e2
  rw [e1] at e2
  cases e2
  exact .inr ⟨rfl, rfl⟩
 ·rfl
theorem le_same {W W' : World} {G' : Gh} (h : Le G0 W G' W') {p : MemPlace} (hp : p.block < W.heap.size) : W.sameAt W' p := by
 cases p with
 | cell b off => exact World.cell?_of_block (w := W) (a := ⟨b, off, none⟩) (le_old h b hp)
 | map b => exact le_old h b hp
theorem trodAll_stays {H : Type} {enc : TypeId × Value → H} {W W' : World} {T : TypeId → Prop} {sp' : Nat → Bool} (K : Kids P T) (hsz : ∀ {t e : TypeId}, T t → P.underlying t = some (.slice e) → 0 < P.cellsOf e) :
  ∀ {ts : List TypeId} {vs : List Value} {ds : List (DataW H)} {ps : List MemPlace}, (∀ t ∈ ts, T t) → DataW.TrodAll enc P W 0 (fun _ => true) true ts vs ds ps → (∀ p ∈ ps, W.sameAt W' p) → (∀ p ∈ ps, sp' p.block = true) →
  DataW.TrodAll enc P W' 0 sp' true ts vs ds ps
 | [], [], [], _, _, h, _, _ => h
 | t :: ts, v :: vs, d :: ds, _, hT, ⟨p, q, ⟨n, hn⟩, h2, e⟩, h3, h4 => by
  subst e
  exact ⟨p, q, ⟨n, DataW.trod_stays K hsz (fun h => by cases h) (hT t (by simp)) hn (fun x hx => h3 x (by simp [hx])) (fun x hx => h4 x (by simp [hx]))⟩,
   trodAll_stays K hsz (fun t ht => hT t (by simp [ht])) h2 (fun x hx => h3 x (by simp [hx])) (fun x hx => h4 x (by simp [hx])), rfl⟩
theorem law_of {f : FuncId} {fn : Func} {s : ChangeSpec} {H : Type} {enc : TypeId × Value → H} {W : World} {args : Array Value} {ds : List (DataW H)} {before : List MemPlace} {avs : List AV} {tok' : Nat → Bool} {nt' : Nat}
  (hl : laidOutB P = true) (hm : mapsRowed P = true) (hz : ((List.range P.types.size).all fun t => match P.underlying t with | some (.slice e) => decide (0 < P.cellsOf e) | _ => true) = true)
  (hpar : fn.params.all (· < P.types.size) = true) {tb : TypeId} (hres : fn.resultTypes = #[tb]) (hb : P.underlying tb = some .bool)
  (hvars : s.vars = []) (hfn : s.fn H ds = { results := [.lit (.bool true)], args := ds })
  (hW : DataW.Whole enc P fn.params.toList s.vars false W args.toList ds [] before) (hr : RVs G0 W avs args.toList) (hc : DCall P f avs (fun _ => false) 0 (B true) tok' nt') :
  Calls P f args W fun e W' => ∃ v, e = .returned v ∧ s.post enc P fn false true false false W args v W' := by
 have hcall := (hc (fun _ => none) 0).2 G0 W args.toList (relM_start W) hr
 simp only [Array.toArray_toList] at hcall
 refine hcall.mono ?_
 rintro e W' ⟨v, av, m', G', rfl, ⟨rfl, rfl⟩, _, _, hv, hle, _⟩
 cases hv with
 | d hv =>
  cases hv with
  | raw =>
   refine ⟨_, rfl, ?_⟩
   have hlt := hW.lt
   have hWW := hW
   obtain ⟨p, q, hA, hV, rfl, hfz, hnd⟩ := hW
   rw [hvars] at hV
   obtain ⟨_, rfl⟩ := trodVars_none hV
   simp only [List.append_nil] at hlt hfz hWW ⊢
   have hT : ∀ t ∈ fn.params.toList, t < P.types.size := fun t ht => by
    have := Array.all_eq_true_iff_forall_mem.1 hpar t (by simpa using ht)
    simpa using this
   have hsz : ∀ {t e : TypeId}, t < P.types.size → P.underlying t = some (.slice e) → 0 < P.cellsOf e := by
    intro t e ht hu
    have := List.all_eq_true.1 hz t (List.mem_range.2 ht)
    rw [hu] at this
    simpa using this
   have hargs : ∀ sp : Nat → Bool, (∀ x ∈ p, sp x.block = true) → DataW.TrodAll enc P W' 0 sp true fn.params.toList args.toList ds p := fun sp hsp =>
    trodAll_stays (kids_rows hl hm) hsz hT hA (fun x hx => le_same hle (hlt x hx)) hsp
   have hnat : (Value.bool true).resultList fn.resultTypes.size = [.bool true] := by rw [hres]; rfl
   have hresb : ∀ (b : Nat) (sp : Nat → Bool) (hd : Bool), DataW.TrodAll enc P W' b sp hd fn.resultTypes.toList ((Value.bool true).resultList fn.resultTypes.size) [.lit (.bool true)] [] := fun b sp hd => by
    rw [hnat, hres]
    exact trodAll_mk1 ⟨1, by simp [DataW.trod, hb, Value.cells]⟩
   have hfn' : s.fn H (ds ++ []) = { results := [.lit (.bool true)], args := ds } := by rw [List.append_nil]; exact hfn
   refine ⟨ds, [], p, [], p, [], hWW, ?_, ?_, ?_, World.keptBut_mono (fun _ f => f.elim) (le_kept hle fun _ => False), fun h => by cases h⟩
   ·rw [hfn']; exact hresb _ _ _
   ·rw [hfn']; exact hargs _ fun x hx => by simpa using hlt x hx
   ·rw [hfn', hvars]; exact rfl
end Go.AM
namespace Go.AM
open Go Go.Proofs
theorem own0 : ownKnob Tryz.prog.godebug = none := by kernel_rfl
theorem laidOut0 : laidOutB Tryz.prog = true := by kernel_rfl
theorem mapsRowed0 : mapsRowed Tryz.prog = true := by kernel_rfl
theorem slices0 : ((List.range Tryz.prog.types.size).all fun t => match Tryz.prog.underlying t with | some (.slice e) => decide (0 < Tryz.prog.cellsOf e) | _ => true) = true := by kernel_rfl
def rdInt : Rdr Tryz.prog 3 Int := Rdr.int (k := .i64) Tryz.underlying3 (by kernel_rfl)
def rdInts : Rdr Tryz.prog 26 (List Int) := rdInt.sliceN 1 Tryz.underlying26 (by kernel_rfl) (by kernel_rfl)
def rdEdge0 : Rdr Tryz.prog 139 (Int × Int × Int) := Rdr.struct3 rdInt rdInt rdInt Tryz.underlying139 rfl rfl rfl rfl (by kernel_rfl) (by kernel_rfl) (by kernel_rfl)
def rdEdge : Rdr Tryz.prog 139 E := rdEdge0.map (fun x => ⟨x.1, x.2.1, x.2.2⟩) E.cells (fun _ => True) (fun _ => rfl) (fun _ _ => trivial) (fun _ => by kernel_rfl)
def rdEdges : Rdr Tryz.prog 27 (List E) := rdEdge.sliceN 3 Tryz.underlying27 (by kernel_rfl) (by kernel_rfl)
def rdGraph0 : Rdr Tryz.prog 29 (List Int × List E) := Rdr.struct2 rdInts rdEdges Tryz.underlying29 rfl rfl rfl (by kernel_rfl) (by kernel_rfl)
end Go.AM
